/-
  C13B2: a part of a proof of this seat: the value-level semantics of Go code without maps, its walk rules, the frame of a row, facts of types, schedules, walks, plain lemmas (M4 M5 M6 M7 M8 M9 M10 LA2). It holds of every program and state that its hypotheses name.
-/
import Derived.Test.YtfpohhabemnnfaaC13B1
set_option linter.unusedSimpArgs false
set_option linter.unusedVariables false
set_option linter.unnecessarySimpa false
namespace Go.Proofs.Ytfpohhabemnnfaa
open Go.Vs Go.Proofs Go
set_option maxRecDepth 100000
set_option maxHeartbeats 1000000

theorem e_impl_NewRelation (ar : Int) (l : List (List Int)) (hb : l.length ≤ 4294967296) (hb2 : ∀ r ∈ l, r.length ≤ 4294967296) :
   VC Try.prog 99 [.d (.int .i64 ar), .d (pS (cP cI) l)] (fun m r => ∃ y : Reln, r = .tup [.agg ((cReln y).map V.d), .d (.bool (newB ar l))] ∧ plReln y = newR ar l ∧ okReln y ∧ Good (cReln y) (whReln y) m) := by
  refine VC.of E s99 (by kernel_rfl) Try.func99 (by rfl) (by kernel_rfl) (by simp [Try.f99]) (by simp [Try.f99]) s99_ok fun B => ?_
  have hno : newB ar l = false → ∃ y : Reln, V.tup [.agg ((cReln ⟨0, nilS⟩).map V.d), .d (.bool false)] = .tup [.agg ((cReln y).map V.d), .d (.bool (newB ar l))] ∧ plReln y = newR ar l ∧ okReln y ∧ Good (cReln y) (whReln y) B := fun h =>
    ⟨⟨0, nilS⟩, by rw [h], by simp [newR, h, plReln, plI, nilS, plS], ⟨trivial, ok_nilS⟩, good_Reln0 B⟩
  simp only [cReln, cS, cI, nilS, dSl] at hno
  simp at hno
  simp [Try.f99, pS]
  refine loop_rule (X := Nat) (ToN ar l) (fun i => [(0, .d (.int .i64 ar)), (1, .d (.pl (l.map (cP cI)))), (4, .ptr 4 0 0), (9, .d (.pl (l.map (cP cI)))), (10, .d (.int .i64 l.length)), (11, .d (.int .i64 i))])
    (fun i => [(4, some (.box [.d (.int .i64 0), .d (.sl none none [])]))]) (fun i => l.length - i) 0 .zero (by simp [cP, cI, pS]) (by simp) ?_
  intro i hs t m hi hh
  have hle := hi.le
  by_cases hlt : i < l.length
  · have hwi := wr1 (i := i) (by omega)
    by_cases hln : (l[i].length : Int) = ar
    · simp [hlt, hln, cP, pS, ]
      refine call_f (w_impl_AreValidValues l[i]) (by simp [pS]) rfl fun hs1 hh1 => ?_
      simp at hh1
      cases hv : valsOk l[i]
      · have hB0 : newB ar l = false := hi.bad hlt (by simp [hv])
        simp
        simpa [hB0, cReln, cS, cI, dSl] using hno hB0
      · simp [hwi]
        exact back (i + 1) (hi.step hlt (by simp [hv, hln])) (by omega) rfl (by simp <;> omega) (by simp [cP, cI, pS]) (by simp)
    · have hB0 : newB ar l = false := hi.bad hlt (by simp [hln])
      simp [hlt, hln, cP, pS, ]
      simpa [hB0, cReln, cS, cI, dSl] using hno hB0
  · have hd := hi.done (by omega)
    have hsl := srtU_len l
    simp [hlt, ]
    refine call_some (e_impl_sorted _ l (Nat.le_refl _) hb hb2) (by simp [pS]) (by simp) fun n1 hs1 r1 hn1 hm1 hp1 hr1 => ?_
    obtain ⟨y, rfl, p1, k1, G1⟩ := hp1
    simp at hn1
    clear hr1
    simp []
    refine call_f (w_impl_IsValidRelation ⟨ar, srtU l⟩) (by simp [← p1, eReln, er_SI, cI]) rfl fun hs3 hh3 => ?_
    simp at hh3
    cases h1 : rowsOk ar (srtU l)
    · have hB0 : newB ar l = false := by rw [newB, h1, Bool.and_false]
      simp
      simpa [hB0, cReln, cS, cI, dSl] using hno hB0
    · have hB1 : newB ar l = true := by rw [newB, h1, hd]; rfl
      simp [hB1]
      exact ⟨⟨ar, y⟩, by simp [cReln, cS, cI], by simp only [newR, hB1, if_true, plReln, plI]; rw [p1], ⟨trivial, k1⟩, good_Reln G1 (by omega)⟩
theorem e_impl_Union (a : PReln) (b : Reln) (kb : okReln b) :
   VC Try.prog 74 [.agg ((eReln a).map V.d), .agg ((cReln b).map V.d)] (fun m r => ∃ y : Reln, r = .tup [.agg ((cReln y).map V.d), .d (.bool (uniB a (plReln b)))] ∧ plReln y = uniR a (plReln b) ∧ okReln y ∧ Good (cReln y) (whReln y) m) := by
  refine VC.ofB E s74 (by kernel_rfl) Try.func74 (by rfl) (by kernel_rfl) (by simp [Try.f74]) (by simp [Try.f74]) s74_ok fun B hB => ?_
  have hbB : ∀ g ∈ idsL (cReln b), g < B := fun g hg => hB g (by simp only [idsVL, V.ids, idsVL_map_d, List.mem_append]; simp [hg])
  obtain ⟨aa, al⟩ := a
  obtain ⟨ba, ⟨bid, bT, bl⟩⟩ := b
  obtain ⟨L, hL⟩ : ∃ L, L = bl.map (plS plI) := ⟨_, rfl⟩
  have hp : plReln ⟨ba, ⟨bid, bT, bl⟩⟩ = ⟨ba, L⟩ := by rw [hL]; rfl
  rw [hp]
  have hno : difB ⟨aa, al⟩ ⟨ba, L⟩ = false → ∃ y : Reln, V.tup [.agg ((cReln ⟨0, nilS⟩).map V.d), .d (.bool false)] = .tup [.agg ((cReln y).map V.d), .d (.bool (uniB ⟨aa, al⟩ ⟨ba, L⟩))] ∧ plReln y = uniR ⟨aa, al⟩ ⟨ba, L⟩ ∧ okReln y ∧ Good (cReln y) (whReln y) B := fun h =>
    ⟨⟨0, nilS⟩, by simp [uniB, h], by simp [uniR, h, plReln, plI, nilS, plS], ⟨trivial, ok_nilS⟩, good_Reln0 B⟩
  simp only [cReln, cS, cI, nilS, dSl] at hno
  simp at hno
  simp [Try.f74, s74_3, eReln, cReln, cI, cP, cS, dSl]
  refine call_f (w_impl_IsValidRelation ⟨aa, al⟩) (by simp [eReln, cI, cP]) rfl fun hs1 hh1 => ?_
  simp at hh1
  cases h1 : rowsOk aa al
  · have hd : difB ⟨aa, al⟩ ⟨ba, L⟩ = false := by simp [difB, h1]
    simp
    simpa [uniB, hd] using hno hd
  simp
  refine call_f (w_impl_IsValidRelation ⟨ba, L⟩) (by simp [hL, eReln, cI, cP, pS, erLL_map (er_cS er_cI)]) rfl fun hs2 hh2 => ?_
  simp at hh2
  cases h2 : rowsOk ba L
  · have hd : difB ⟨aa, al⟩ ⟨ba, L⟩ = false := by simp [difB, h1, h2]
    simp
    simpa [uniB, hd] using hno hd
  by_cases h3 : aa = ba
  case neg =>
    have hd : difB ⟨aa, al⟩ ⟨ba, L⟩ = false := by simp [difB, h1, h2, h3]
    simp [h3]
    simpa [uniB, hd] using hno hd
  subst h3
  have hdb : difB ⟨aa, al⟩ ⟨aa, L⟩ = true := by simp [difB, h1, h2]
  obtain ⟨z1, z2, z3, z4⟩ := difB_len hdb
  simp only at z3 z4
  have hlb : bl.length = L.length := by rw [hL]; simp
  have uS : uniB ⟨aa, al⟩ ⟨aa, L⟩ = newB aa (al ++ L) := by simp [uniB, hdb]
  have uR : uniR ⟨aa, al⟩ ⟨aa, L⟩ = newR aa (al ++ L) := by simp only [uniR, hdb, if_true]
  rw [uS, uR]
  have hN := e_impl_NewRelation aa (al ++ L) (by simp; omega) (fun x hx => by
    rcases List.mem_append.1 hx with h | h
    · exact z1.2 x h
    · exact z2.2 x h)
  have hid : ∀ n r, (∃ y : Reln, r = V.tup [.agg ((cReln y).map V.d), .d (.bool (newB aa (al ++ L)))] ∧ plReln y = newR aa (al ++ L) ∧ okReln y ∧ Good (cReln y) (whReln y) n) → (∀ i ∈ r.ids, n ≤ i) ∧ r.hp = false := by
    rintro n _ ⟨y, rfl, _, _, G⟩
    refine ⟨fun i hi => G.lo i ?_, by simp [V.hp, hpVL, cReln, cI, cS, dSl, D.hp]⟩
    simpa [V.ids, idsVL, ids_agg, idsVL_map_d, D.ids] using hi
  simp [s74_3, ]
  by_cases hal : al = []
  · subst hal
    have hL2 : LenOk 24 L.length := ⟨by omega, by simp only [maxLen]; omega⟩
    refine call_pure e_impl_copyRows0 (by simp) (by simp [pS, cP]) (by simp [V.ids, D.ids, idsLL]) fun hs3 hh3 => ?_
    simp at hh3
    simp [cS, cI, dSl, hlb, hL2, s74_3, ]
    refine call_own (by simp) (fun γ n hn hg => ⟨[.d (.int .i64 aa), .d (.sl (γ 29) (some (88, 1)) (bl.map (cS cI)))], by simp [← hlb, hpLL_mapS, List.take_of_length_le, cS, dSl], hN.er (by simp [hL, pS, cP, erLL_map (er_cS er_cI)])⟩) hid fun n3 hs4 r3 hn3 hm3 hp3 hr3 => ?_
    obtain ⟨z, rfl, pz, kz, Gz⟩ := hp3
    simp at hn3
    clear hr3
    simp [cReln, cI, cS, dSl, s74_3, ]
    exact ⟨z, by simp [cReln, cI, cS, dSl], pz, kz, Gz.le (by omega)⟩
  · have hL2 : LenOk 24 (al.length + L.length) := ⟨by omega, by simp only [maxLen]; omega⟩
    refine call_some (e_impl_copyRowsT al (z1.1) z1.2) (by simp [pS]) (by simp) fun n1 hs3 r1 hn1 hm1 hp1 hr1 => ?_
    obtain ⟨⟨yid, yT, ys⟩, rfl, p1, k1, G1, hT⟩ := hp1
    simp only at hT
    subst hT
    simp at hn1
    have hyl : ys.length = al.length := by rw [← p1]; simp [plS]
    have hy0 : ys ≠ [] := fun h => hal (by rw [← p1, h]; rfl)
    obtain ⟨g, rfl⟩ : ∃ g, yid = some g := by
      cases yid with
      | none => exact absurd (G1.wh.1.nil rfl) hy0
      | some g => exact ⟨g, rfl⟩
    have hgn : n1 ≤ g := G1.lo g (by rw [idsL_cS]; exact mem_sl_ids.2 (.inl rfl))
    have hgB : B ≤ g := by omega
    have hbi : ∀ i ∈ (dSl (cS cI) ⟨bid, bT, bl⟩).ids, i < B := fun i hi => hbB i (by rw [cReln, idsL_app, idsL_cS]; simp [hi])
    have hg1 : g ∉ (D.sl bid bT (bl.map (cS cI))).ids := fun h => by have := hbi g h; omega
    have hg2 : g ∉ idsLL (bl.map (cS cI)) := fun h => hg1 (mem_sl_ids (s := ⟨bid, bT, bl⟩).2 (.inr h))
    have hg3 : g ∉ idsLL (ys.map (cS cI)) := by
      have := G1.nd
      rw [idsL_cS] at this
      exact (sl_nd this).2 g rfl
    have kg : ∀ i, i < B → kphi (some g) i = none := fun i hi => by simp only [kphi]; rw [if_neg (by simp; omega)]
    have eb : reV (kphi (some g)) (.d (.sl bid bT (bl.map (cS cI)))) = .d (.sl bid bT (bl.map (cS cI))) := reV_id (.d (dSl (cS cI) ⟨bid, bT, bl⟩)) fun i hi => kg i (hbi i hi)
    have hp1 : hpLL (bl.map (cS cI)) = false := hpLL_mapS bl
    simp [cS, cI, dSl, St.kill, eb, hgB, hg1, hg2, hg3, hp1, hyl, hlb, hL2, s74_3, ]
    have hg4 : ¬ bid = some g := fun h => hg1 (by rw [h]; simp [D.ids])
    refine ⟨hg4, ?_⟩
    have hp2 : hpLL (ys.map (cS cI)) = false := hpLL_mapS ys
    have ep : ys.map (plS plI) = al := by simpa [plS] using p1
    have eq1 : (ys.map (cS cI) ++ bl.map (cS cI)).length = al.length + L.length := by simp [hyl, hlb]
    refine call_own (by simp) (fun γ n hn hg => ⟨[.d (.int .i64 aa), .d (.sl (γ 29) (some (88, 1)) (ys.map (cS cI) ++ bl.map (cS cI)))], by simp [hp1, hp2, hyl, hlb, List.take_of_length_le], hN.er ?_⟩) hid fun n3 hs4 r3 hn3 hm3 hp3 hr3 => ?_
    · have e3 : erLL (ys.map (cS cI) ++ bl.map (cS cI)) = (al ++ L).map (cP cI) := by rw [← List.map_append, erLL_map (er_cS er_cI), List.map_append, ep, hL]
      simp [pS, e3]
    obtain ⟨z, rfl, pz, kz, Gz⟩ := hp3
    simp at hn3
    clear hr3
    simp [cReln, cI, cS, dSl, s74_3, ]
    exact ⟨z, by simp [cReln, cI, cS, dSl], pz, kz, Gz.le (by omega)⟩

end Go.Proofs.Ytfpohhabemnnfaa

namespace Go.Proofs.Ytfpohhabemnnfaa
open Go.Vs Go.Proofs Go
set_option maxRecDepth 100000
set_option maxHeartbeats 1000000

section
attribute [local simp] plI_id plStr_id map_plI map_plStr pS cP cI cStr cU8 cB eTab eReln
theorem w_spec_l6Copy (d : PDb) (hz : szDb d) : VC Try.prog 68 [.agg ((eDb d).map V.d)] (fun _ v => v = .agg ((eDb d).map V.d)) := by
  refine VC.ofL EP s68 (by kernel_rfl) Try.func68 (by rfl) (by kernel_rfl) (by simp [Try.f68]) (by simp [Try.f68]) s68_ok fun B hl => ?_
  obtain ⟨l⟩ := d
  simp only [szDb] at hz
  simp [Try.f68, s68_6, s68_6, eDb]
  refine loop_ruleL (X := Nat) (fun i _ => i ≤ l.length) (fun i => [(1, .ptr 1 0 0), (2, .ptr 2 0 0), (3, .ptr 3 0 0), (4, .d (.int .i64 i))]) (fun i => [(1, some (.box [.d (.pl (l.map eTab))])), (2, some (.box [.d (.sl none none [])])), (3, some (.box [.own 32 0 i])), (32, some (.row 71 3 ((l.take i).map eTab)))]) (fun i => l.length - i) ?_ ?_
  · refine (lead_box 3 0 32 71 3 [.d (.sl none none [])] (by omega) (by omega) (by omega) (by simp) rfl).bind ?_
    rintro _ rfl
    exact Lead.of ⟨0, by omega, rfl, rfl, Nat.le_refl _, by simp, by simp⟩
  intro i hs t m hi hh
  by_cases hlt : i < l.length
  · have hwi := wr1 (i := i) (by omega)
    have hL : LenOk 48 (i + 1) := ⟨by omega, by simp only [maxLen]; omega⟩
    have hmn : min i l.length = i := by omega
    have hr := hz.2 _ (List.getElem_mem hlt)
    obtain ⟨nm, ar, rows, hT⟩ : ∃ nm ar rows, l[i] = ⟨nm, ⟨ar, rows⟩⟩ := ⟨_, _, _, rfl⟩
    have hst2 : List.take (i + 1) (List.map eTab l) = List.take i (List.map eTab l) ++ [[.str nm, .int .i64 ar, .pl (rows.map (cP cI))]] := by
      rw [List.take_succ_eq_append_getElem (by simpa using hlt)]; simp [hT]
    rw [hT] at hr
    simp [hlt, hT, s68_6, ]
    refine call_p (w_spec_l5Copy ⟨ar, rows⟩ hr.1 hr.2) (by simp) fun hs1 hh1 hl1 => ?_
    simp at hh1
    simp [hlt, hT, hL, hwi, hmn, s68_6, ]
    exact back2 (i + 1) (by omega) (by omega) rfl (by simp <;> omega) (by simp) (by simp [hst2])
  · have hn : i = l.length := by omega
    subst hn
    simp [List.take_of_length_le]
end
theorem e_impl_copyDatabase (d : PDb) (hz : szDb d) (hst : ∀ t ∈ d.tabs, t.name.length ≤ maxLen) : VC Try.prog 71 [.agg ((eDb d).map V.d)] (fun n v => ∃ y : Db, v = .agg ((cDb y).map V.d) ∧ plDb y = d ∧ okDb y ∧ Good (cDb y) (whDb y) n) := by
  refine VC.of E s71 (by kernel_rfl) Try.func71 (by rfl) (by kernel_rfl) (by simp [Try.f71]) (by simp [Try.f71]) s71_ok fun B => ?_
  obtain ⟨l⟩ := d
  simp only [szDb] at hz hst
  simp [Try.f71, s71_5, s71_5, eDb, pS]
  refine loop_ruleL (X := Nat × List Tab) (CopI cTab whTab okTab plTab l B) (fun p => [(1, .ptr 1 0 0), (2, .ptr 2 0 0), (3, .ptr 3 0 0), (7, .d (.pl (l.map eTab))), (8, .d (.int .i64 l.length)), (9, .d (.int .i64 p.1))]) (fun p => [(2, some (.box [.d (.sl none none [])])), (3, some (.box [.own 22 0 p.2.length])), (22, some (.row 71 3 (p.2.map cTab)))]) (fun p => l.length - p.1) ?_ ?_
  · refine (lead_box 3 0 22 71 3 [.d (.sl none none [])] (by omega) (by omega) (by omega) (by simp) rfl).bind ?_
    rintro _ rfl
    exact Lead.of ⟨(0, []), .zero, rfl, rfl, Nat.le_refl _, by simp, by simp⟩
  rintro ⟨i, ys⟩ hs t m hI hh
  have hle := hI.le
  have hyl := hI.len
  simp only at hle
  by_cases hlt : i < l.length
  · have hwi := wr1 (i := i) (by omega)
    have hL : LenOk 48 (ys.length + 1) := ⟨by omega, by simp only [maxLen]; omega⟩
    have hr := hz.2 _ (List.getElem_mem hlt)
    have hn := hst _ (List.getElem_mem hlt)
    obtain ⟨nm, ar, rows, hT⟩ : ∃ nm ar rows, l[i] = ⟨nm, ⟨ar, rows⟩⟩ := ⟨_, _, _, rfl⟩
    rw [hT] at hr hn
    simp [hlt, hT, eTab, eReln, cStr, cI, cP, s71_5, ]
    refine call_some (e_impl_copyRelation ⟨ar, rows⟩ hr.1 hr.2) (by simp [eReln, cI, cP]) (by simp) fun n1 hs1 r1 hn1 hm1 hp1 hr1 => ?_
    obtain ⟨y, rfl, p1, k1, G1⟩ := hp1
    simp at hn1
    have u1 : ∀ g ∈ idsL (cTab ⟨nm, y⟩), g < hs1 := fun g hg => hr1 g (by
      rw [ids_agg]
      rw [cTab, idsL_app] at hg
      exact (List.mem_append.1 hg).resolve_left (by simp [cStr, idsL, D.ids]))
    simp [cReln, cI, cS, hL, hwi, s71_5, ]
    exact back2 (i + 1, ys ++ [⟨nm, y⟩]) (hI.snoc hlt (by rw [hT]; simp only [plTab, p1]; rfl) (show okTab (⟨nm, y⟩ : Tab) from ⟨hn, k1⟩) (by omega) hm1 (good_Tab G1) u1) (by simp only; omega) rfl (by simp <;> omega) (by simp) (by simp [cTab, cStr, cReln, cI, cS])
  · have hall := hI.all (by omega)
    simp [hlt, s71_5, ]
    intro γ hs' h1 hg
    obtain ⟨q1, q2⟩ := gam_at hg (k := 22) (T := 71) (sz := 3) (es := ys.map cTab) (by simp)
    have q3 := gam_row hg (k := 22) (T := 71) (sz := 3) (es := ys.map cTab) (by simp)
    clear hg
    have hp : hpLL (ys.map cTab) = false := hpLL_map (fun a => by simp) ys
    simp [hp, List.take_of_length_le]
    exact ⟨⟨⟨γ 22, some (71, 3), ys⟩⟩, by simp [cDb, cS, dSl], by simp only [plDb, plS, hall], ⟨by simp only [maxLen]; show ys.length ≤ _; omega, hI.ok⟩, good_row (fun g hg => (q1 g hg).1) (by simpa using q2) q3 ⟨hI.good.nd, hI.good.lo⟩ hI.good.wh⟩

end Go.Proofs.Ytfpohhabemnnfaa

namespace Go.Proofs.Ytfpohhabemnnfaa
open Go.Vs Go.Proofs Go
set_option maxRecDepth 100000
set_option maxHeartbeats 1000000

section
attribute [local simp] plI_id plStr_id map_plI map_plStr pS cP cI cStr cU8 cB eTab eReln
theorem w_spec_SetRelation (d : PDb) (nm : List UInt8) (r : PReln) (hz : szDb d) (hst : ∀ t ∈ d.tabs, t.name.length ≤ maxLen) (hnm : nm.length ≤ maxLen) :
   VC Try.prog 70 [.agg ((eDb d).map V.d), .d (.str nm), .agg ((eReln r).map V.d)] (fun _ v => v = .tup [.agg ((eDb (setP d nm r)).map V.d), .d (.bool (setB d nm r))]) := by
  refine VC.ofL EP s70 (by kernel_rfl) Try.func70 (by rfl) (by kernel_rfl) (by simp [Try.f70]) (by simp [Try.f70]) s70_ok fun B hl => ?_
  obtain ⟨l⟩ := d
  obtain ⟨ar, rows⟩ := r
  have hl := hz.1
  simp only at hl hst
  simp [Try.f70, eDb]
  refine loop_ruleL (X := Nat × List PTab × Bool) (fun p _ => StI nm ⟨ar, rows⟩ l p) (fun p => [(1, .d (.str nm)), (3, .ptr 3 0 0), (5, .ptr 5 0 0), (6, .ptr 6 0 0), (8, .ptr 8 0 0), (9, .d (.bool p.2.2)), (10, .d (.int .i64 p.1))])
    (fun p => [(3, some (.box [.d (.pl (l.map eTab))])), (5, some (.box [.d (.int .i64 ar), .d (.pl (rows.map (cP cI)))])), (6, some (.box [.d (.sl none none [])])), (8, some (.box [.own 39 0 p.2.1.length])), (39, some (.row 71 3 (p.2.1.map eTab)))]) (fun p => l.length - p.1) ?_ ?_
  · refine (lead_box 8 0 39 71 3 [.d (.sl none none [])] (by omega) (by omega) (by omega) (by simp) rfl).bind ?_
    rintro _ rfl
    exact Lead.of ⟨(0, [], false), .zero, rfl, rfl, Nat.le_refl _, by simp, by simp⟩
  rintro ⟨i, o, b⟩ hs t m hI hh
  have hle := hI.le
  have hol := hI.len
  simp only at hle hol
  by_cases hlt : i < l.length
  · have hwi := wr1 (i := i) (by omega)
    have hL1 : LenOk 48 (o.length + 1) := ⟨by omega, by simp only [maxLen]; omega⟩
    have hL2 : LenOk 48 (o.length + 1 + 1) := ⟨by omega, by simp only [maxLen]; omega⟩
    obtain ⟨tn, ta, tr, hT⟩ : ∃ tn ta tr, l[i] = ⟨tn, ⟨ta, tr⟩⟩ := ⟨_, _, _, rfl⟩
    have hs1 := fun s' => hI.step (s' := s') hlt
    rw [hT] at hs1
    simp only [stS] at hs1
    refine anyQ2 fun Q => ?_
    cases b
    · cases hb : Op.bytesLess tn nm
      · by_cases he : tn = nm
        · subst he
          simp [hb] at hs1
          simp [hlt, hT, hb, hL1, hwi, ]
          exact back2 (i + 1, _, true) hs1 (by simp only; omega) rfl (by simp <;> omega) (by simp) (by simp)
        · simp [hb, he] at hs1
          simp [hlt, hT, hb, he, hL1, hL2, hwi, ]
          exact back2 (i + 1, _, true) hs1 (by simp only; omega) rfl (by simp <;> omega) (by simp) (by simp)
      · have he : ¬ tn = nm := fun e => by rw [e, bl_irr] at hb; cases hb
        simp [hb, he] at hs1
        simp [hlt, hT, hb, he, hL1, hwi, ]
        exact back2 (i + 1, _, false) hs1 (by simp only; omega) rfl (by simp <;> omega) (by simp) (by simp)
    · by_cases he : tn = nm
      · simp [he] at hs1
        simp [hlt, hT, he, hwi, ]
        exact back2 (i + 1, _, true) hs1 (by simp only; omega) rfl (by simp <;> omega) (by simp) (by simp)
      · simp [he] at hs1
        simp [hlt, hT, he, hL1, hwi, ]
        exact back2 (i + 1, _, true) hs1 (by simp only; omega) rfl (by simp <;> omega) (by simp) (by simp)
  have hd := hI.done (by omega)
  have hL1 : LenOk 48 (o.length + 1) := ⟨by omega, by simp only [maxLen]; omega⟩
  obtain ⟨x, hx⟩ : ∃ x, x = setS l nm ⟨ar, rows⟩ := ⟨_, rfl⟩
  have hxm : ∀ t ∈ x, t.name.length ≤ maxLen := fun t ht => by
    rw [hx] at ht
    rcases setS_mem ht with h | h
    · exact hst t h
    · rw [h]; exact hnm
  rw [← hx] at hd
  cases b
  · simp at hd
    simp [hlt, hL1, ]
    refine call_f (w_spec_IsValidDatabase ⟨l⟩ hst) (by simp [eDb]) rfl fun hs1 hh1 => ?_
    simp at hh1
    cases h1 : dbOk ⟨l⟩
    · have hB : setB ⟨l⟩ nm ⟨ar, rows⟩ = false := by simp [setB, h1]
      simp []
      refine call_p (w_spec_l6Copy ⟨l⟩ hz) (by simp [eDb]) fun hs2 hh2 hl2 => ?_
      simp [eDb, hB, setP]
    · simp [h1, ]
      refine call_f (w_spec_IsValidDatabase ⟨x⟩ hxm) (by simp [eDb, hd, List.take_of_length_le]) rfl fun hs2 hh2 => ?_
      simp at hh2
      have hxL : setL l nm ⟨ar, rows⟩ = x := by rw [hx, setS_L h1]
      cases h2 : dbOk ⟨x⟩
      · have hB : setB ⟨l⟩ nm ⟨ar, rows⟩ = false := by simp [setB, h1, hxL, h2]
        simp []
        refine call_p (w_spec_l6Copy ⟨l⟩ hz) (by simp [eDb]) fun hs2 hh2 hl2 => ?_
        simp [eDb, hB, setP]
      · have hB : setB ⟨l⟩ nm ⟨ar, rows⟩ = true := by simp [setB, h1, hxL, h2]
        simp []
        refine call_p (w_spec_l6Copy ⟨x⟩ (szDb_ok h2)) (by simp [eDb, hd, List.take_of_length_le]) fun hs2 hh2 hl2 => ?_
        simp [eDb, hB, setP, hxL]
  · simp at hd
    simp [hlt, ]
    refine call_f (w_spec_IsValidDatabase ⟨l⟩ hst) (by simp [eDb]) rfl fun hs1 hh1 => ?_
    simp at hh1
    cases h1 : dbOk ⟨l⟩
    · have hB : setB ⟨l⟩ nm ⟨ar, rows⟩ = false := by simp [setB, h1]
      simp []
      refine call_p (w_spec_l6Copy ⟨l⟩ hz) (by simp [eDb]) fun hs2 hh2 hl2 => ?_
      simp [eDb, hB, setP]
    · simp [h1, ]
      refine call_f (w_spec_IsValidDatabase ⟨x⟩ hxm) (by simp [eDb, hd, List.take_of_length_le]) rfl fun hs2 hh2 => ?_
      simp at hh2
      have hxL : setL l nm ⟨ar, rows⟩ = x := by rw [hx, setS_L h1]
      cases h2 : dbOk ⟨x⟩
      · have hB : setB ⟨l⟩ nm ⟨ar, rows⟩ = false := by simp [setB, h1, hxL, h2]
        simp []
        refine call_p (w_spec_l6Copy ⟨l⟩ hz) (by simp [eDb]) fun hs2 hh2 hl2 => ?_
        simp [eDb, hB, setP]
      · have hB : setB ⟨l⟩ nm ⟨ar, rows⟩ = true := by simp [setB, h1, hxL, h2]
        simp []
        refine call_p (w_spec_l6Copy ⟨x⟩ (szDb_ok h2)) (by simp [eDb, hd, List.take_of_length_le]) fun hs2 hh2 hl2 => ?_
        simp [eDb, hB, setP, hxL]
end

end Go.Proofs.Ytfpohhabemnnfaa

namespace Go.Proofs.Ytfpohhabemnnfaa
open Go.Vs Go.Proofs Go
set_option maxRecDepth 100000
set_option maxHeartbeats 1000000

section
attribute [local simp] plI_id plStr_id map_plI map_plStr
theorem t_impl_copyDatabase (d : Db) (hd : okDb d) (hz : szDb (plDb d)) : VC Try.prog 71 [.agg ((cDb d).map V.d)] (fun n v => ∃ y : Db, v = .agg ((cDb y).map V.d) ∧ plDb y = plDb d ∧ okDb y ∧ Good (cDb y) (whDb y) n) :=
  (e_impl_copyDatabase (plDb d) hz (okDb_st hd)).er (by simp [cDb, cS, dSl, eDb, pS, cP, plDb, plS, erLL_map er_cTab])
theorem t_impl_SetRelation (d : Db) (nm : List UInt8) (r : Reln) (hd : okDb d) (hz : szDb (plDb d)) (hnm : nm.length ≤ maxLen) (hr : szRel (plReln r)) :
   VC Try.prog 75 [.agg ((cDb d).map V.d), .d (.str nm), .agg ((cReln r).map V.d)]
   (fun n v => ∃ y : Db, v = .tup [.agg ((cDb y).map V.d), .d (.bool (setB (plDb d) nm (plReln r)))] ∧ plDb y = setP (plDb d) nm (plReln r) ∧ okDb y ∧ Good (cDb y) (whDb y) n) := by
  refine VC.ofB E s75 (by kernel_rfl) Try.func75 (by rfl) (by kernel_rfl) (by simp [Try.f75]) (by simp [Try.f75]) s75_ok fun B hB => ?_
  have hdB : ∀ g ∈ idsL (cDb d), g < B := fun g hg => hB g (by simp only [idsVL, V.ids, idsVL_map_d, List.mem_append]; simp [hg])
  have hcopy := t_impl_copyDatabase d hd hz
  have hdp : ∃ l, plDb d = ⟨l⟩ := ⟨_, rfl⟩
  obtain ⟨l, hdp⟩ := hdp
  rw [hdp] at hz
  rw [hdp]
  have hdl : erLL (d.tabs.xs.map cTab) = l.map eTab := by
    rw [erLL_map er_cTab]
    have := congrArg PDb.tabs hdp
    simp only [plDb, plS] at this
    rw [this]
  obtain ⟨⟨did, dT, dts⟩⟩ := d
  simp only at hdl
  rw [hdp] at hcopy
  have hdB2 : ∀ φ : Nat → Option D, (∀ i, i < B → φ i = none) → reV φ (.d (.sl did dT (dts.map cTab))) = .d (.sl did dT (dts.map cTab)) := fun φ h => reV_id (.d (dSl cTab ⟨did, dT, dts⟩)) fun i hi => h i (hdB i (by rw [cDb, idsL_cS]; exact hi))
  have hrB : ∀ g ∈ idsL (cReln r), g < B := fun g hg => hB g (by simp only [idsVL, V.ids, idsVL_map_d, List.mem_append]; simp [hg])
  have hcR := (e_impl_copyRelation (plReln r) hr.1 hr.2).er (As := [.agg ((cReln r).map V.d)]) (by simp [cReln, cS, cI, dSl, eReln, pS, cP, plReln, plS, plI, erLL_map (er_cS er_cI)])
  have hrp : ∃ rows, plReln r = ⟨r.ar, rows⟩ := ⟨_, rfl⟩
  obtain ⟨rows, hrp⟩ := hrp
  rw [hrp] at hr hcR
  rw [hrp]
  obtain ⟨ar, ⟨rid, rT, rxs⟩⟩ := r
  simp only at hrp hr hcR ⊢
  have hrB2 : ∀ φ : Nat → Option D, (∀ i, i < B → φ i = none) → reV φ (.d (.sl rid rT (rxs.map (cS cI)))) = .d (.sl rid rT (rxs.map (cS cI))) := fun φ h => reV_id (.d (dSl (cS cI) ⟨rid, rT, rxs⟩)) fun i hi => h i (hrB i (by rw [cReln, idsL_app, idsL_cS]; exact List.mem_append.2 (.inr hi)))
  simp [Try.f75, s75_10, s75_10, cDb, cReln, cS, dSl, pS, cI]
  refine call_f (w_impl_IsValidDatabase ⟨l⟩) (by simp [eDb, cP, pS, hdl]) rfl fun hs1 hh1 => ?_
  simp at hh1
  cases h1 : dbOk ⟨l⟩
  · have hB0 : setB ⟨l⟩ nm ⟨ar, rows⟩ = false := by simp [setB, h1]
    simp [s75_10, ]
    refine call_some hcopy (by simp [cDb, cS, dSl]) (by simp) fun n2 hs2 r2 hn2 hm2 hp2 hr2 => ?_
    obtain ⟨⟨⟨yid, yT, ys⟩⟩, rfl, p2, k2, G2⟩ := hp2
    simp at hn2
    simp [cDb, cS, dSl, hB0, s75_10, ]
    exact ⟨⟨⟨yid, yT, ys⟩⟩, by simp [cDb, cS, dSl], by simp [setP, hB0, p2], k2, G2.le (by omega)⟩
  have hl6 : l.length ≤ 6 := dbOk_len h1
  simp [s75_10, ]
  refine call_some hcopy (by simp [cDb, cS, dSl]) (by simp) fun n2 hs2 r2 hn2 hm2 hp2 hr2 => ?_
  obtain ⟨⟨⟨yid, yT, ys⟩⟩, rfl, p2, k2, G2⟩ := hp2
  simp at hn2
  have hys : ys.map plTab = l := by
    have := congrArg PDb.tabs p2
    simpa [plDb, plS] using this
  have hyl : ys.length = l.length := by rw [← hys]; simp
  have hr2' : ∀ g ∈ idsL (cDb ⟨⟨yid, yT, ys⟩⟩), g < hs2 := fun g hg => hr2 g (by rw [ids_agg]; exact hg)
  have hkl := setK_le l nm
  simp [cDb, cS, dSl, s75_10, ]
  refine loop_rule (X := Nat) (fun i => KTo l nm i) (fun i => [(1, .d (.str nm)), (3, .ptr 3 0 0), (5, .ptr 5 0 0), (6, .ptr 6 0 0), (8, .ptr 8 0 0), (9, .d (.int .i64 i))])
    (fun i => [(3, some (.box [.d (.sl did dT (dts.map cTab))])), (5, some (.box [.d (.int .i64 ar), .d (.sl rid rT (rxs.map (cS cI)))])), (6, some (.box [.d (.sl none none [])])), (8, some (.box [.d (.sl yid yT (ys.map cTab))]))]) (fun i => l.length - i) 0 .zero (by simp) (by simp) ?_
  intro i hs t m hi hh
  have hik := hi.le
  by_cases hlt : i < setK l nm
  · have hil : i < l.length := by omega
    have hiy : i < ys.length := by omega
    have hwi := wr1 (i := i) (by omega)
    have hb := setK_lt hil hlt
    obtain ⟨⟨tn, ⟨ta, ⟨tid, tT, tr⟩⟩⟩, hT⟩ : ∃ y, y = ys[i] := ⟨_, rfl⟩
    have hTn : l[i].name = tn := by
      have : l[i] = plTab ys[i] := by simp [← hys]
      rw [this, ← hT]; rfl
    rw [hTn] at hb
    simp [hiy, hil, ← hT, hb, hwi, cTab, cReln, cStr, cI, cS, dSl, s75_10, ]
    exact back (i + 1) ⟨by omega⟩ (by omega) rfl (by simp <;> omega) (by simp) (by simp)
  have hik2 : i = setK l nm := by omega
  subst hik2
  by_cases hkt : setK l nm < l.length
  · have hb := setK_at hkt
    have hky : setK l nm < ys.length := by omega
    have hwY : Sl.wh (⟨yid, yT, ys⟩ : Sl Tab) := G2.wh.1
    obtain ⟨gg, hgg, T, hTT⟩ := hwY.id hky
    simp only at hgg hTT
    subst hgg hTT
    have hgn : n2 ≤ gg := G2.lo gg (by rw [cDb, idsL_cS]; exact mem_sl_ids.2 (.inl rfl))
    have hgh : gg < hs2 := hr2' gg (by rw [cDb, idsL_cS]; exact mem_sl_ids.2 (.inl rfl))
    have hsn := sl_nd (s := (⟨some gg, some T, ys⟩ : Sl Tab)) (c := cTab) (by have := G2.nd; rwa [cDb, idsL_cS] at this)
    have hgB : B ≤ gg := by omega
    have hgy : gg ∉ idsLL (ys.map cTab) := hsn.2 gg rfl
    obtain ⟨⟨tn, ⟨ta, ⟨tid, tT, tr⟩⟩⟩, hT⟩ : ∃ y, y = ys[setK l nm] := ⟨_, rfl⟩
    have hTn : l[setK l nm].name = tn := by
      have : l[setK l nm] = plTab ys[setK l nm] := by simp [← hys]
      rw [this, ← hT]; rfl
    rw [hTn] at hb
    simp [hky, hkt, ← hT, hb, cTab, cReln, cStr, cI, cS, dSl, s75_10, ]
    refine call_some hcR (by simp [cReln, cS, cI, dSl]) (by simp) fun n3 hs3 r3 hn3 hm3 hp3 hr3 => ?_
    obtain ⟨⟨za, ⟨zid, zT, zs⟩⟩, rfl, p3, k3, G3⟩ := hp3
    simp at hn3
    have hr3' : ∀ g ∈ idsL (cReln ⟨za, ⟨zid, zT, zs⟩⟩), g < hs3 := fun g hg => hr3 g (by rw [ids_agg]; exact hg)
    have hgz : gg ∉ idsL (cReln ⟨za, ⟨zid, zT, zs⟩⟩) := fun h => by have := G3.lo gg h; omega
    have hgz2 : ¬ zid = some gg ∧ gg ∉ idsLL (zs.map (cS cI)) := by
      rw [cReln, idsL_app, idsL_cS] at hgz
      exact ⟨fun h => hgz (List.mem_append.2 (.inr (mem_sl_ids.2 (.inl h)))), fun h => hgz (List.mem_append.2 (.inr (mem_sl_ids.2 (.inr h))))⟩
    obtain ⟨w, hw⟩ : ∃ w : Tab, w = ⟨nm, ⟨za, ⟨zid, zT, zs⟩⟩⟩ := ⟨_, rfl⟩
    have hwc : cTab w = [D.str nm, D.int .i64 za, D.sl zid zT (zs.map (cS cI))] := by rw [hw]; simp [cTab, cReln, cStr, cI, cS, dSl]
    have hwp : plTab w = ⟨nm, ⟨ar, rows⟩⟩ := by rw [hw, plTab, p3]; rfl
    have hwG : Good (cTab w) (whTab w) n3 := by rw [hw]; exact good_Tab G3
    have hwk : okTab w := by rw [hw]; exact ⟨hnm, k3⟩
    have hyi : ∀ g ∈ idsLL (ys.map cTab), n2 ≤ g ∧ g < hs2 := fun g hg => by
      have hm : g ∈ idsL (cDb ⟨⟨some gg, some T, ys⟩⟩) := by rw [cDb, idsL_cS]; exact mem_sl_ids.2 (.inr hg)
      exact ⟨G2.lo g hm, hr2' g hm⟩
    have hL1 : LenOk 48 (setK l nm) := ⟨by omega, by simp only [maxLen]; omega⟩
    have hL2 : LenOk 48 (setK l nm + 1) := ⟨by omega, by simp only [maxLen]; omega⟩
    have hL3 : LenOk 48 (setK l nm + 1 + (ys.length - setK l nm)) := ⟨by omega, by simp only [maxLen]; omega⟩
    have hmn : min (setK l nm) ys.length = setK l nm := by omega
    by_cases he : tn = nm
    · have hh1 : hitK l nm = true := by simp [hitK, hkt, hTn, he]
      have hSL : setL l nm ⟨ar, rows⟩ = l.take (setK l nm) ++ ⟨nm, ⟨ar, rows⟩⟩ :: l.drop (setK l nm + 1) := by simp [setL, hh1]
      obtain ⟨vs, hvs⟩ : ∃ vs, vs = ys.take (setK l nm) ++ w :: ys.drop (setK l nm + 1) := ⟨_, rfl⟩
      obtain ⟨P1, P2⟩ := good_put (c := cTab) (wh := whTab) (j := setK l nm + 1) (k := setK l nm) (by omega) hsn.1 (fun g hg => ⟨(hyi g hg).1, by have := (hyi g hg).2; show g < n3; omega⟩) G2.wh.2 hwG (by omega)
      rw [← hvs] at P1 P2
      have hvp : vs.map plTab = setL l nm ⟨ar, rows⟩ := by rw [hvs, map_put, hys, hwp, hSL]
      have hset : (ys.map cTab).set (setK l nm) (cTab w) = vs.map cTab := by
        rw [List.set_eq_take_append_cons_drop, if_pos (by simpa using hky), hvs, map_put]
      have hgv : gg ∉ idsLL (vs.map cTab) := fun h => by
        rw [hvs, List.map_append, List.map_cons, idsLL_append, idsLL] at h
        rcases List.mem_append.1 h with h | h
        · exact hgy ((ids_sub (List.take_sublist _ _)).subset h)
        · rcases List.mem_append.1 h with h | h
          · have := hwG.lo gg h; omega
          · exact hgy ((ids_sub (List.drop_sublist _ _)).subset h)
      have hvk : ∀ t ∈ vs, okTab t := fun t ht => by
        rw [hvs] at ht
        rcases List.mem_append.1 ht with h | h
        · exact k2.2 t (List.mem_of_mem_take h)
        · rcases List.mem_cons.1 h with rfl | h
          · exact hwk
          · exact k2.2 t (List.mem_of_mem_drop h)
      have hvl : vs.length = ys.length := by rw [hvs]; simp; omega
      simp [hky, hkt, ← hT, he, cTab, cReln, cStr, cI, cS, dSl, s75_10, ]
      refine ⟨⟨hgB, hgz2, hgy⟩, ?_⟩
      rw [← hwc, hset]
      have e1 : ∀ d', reV (one gg d') (.d (.sl did dT (dts.map cTab))) = .d (.sl did dT (dts.map cTab)) := fun d' => hdB2 _ fun i hi => one_out (by omega)
      have e2 : ∀ d', reV (one gg d') (.d (.sl zid zT (zs.map (cS cI)))) = .d (.sl zid zT (zs.map (cS cI))) := fun d' => reV_id (.d (dSl (cS cI) ⟨zid, zT, zs⟩)) fun i hi => one_out (fun e => by
        subst e
        rcases mem_sl_ids.1 hi with h | h
        · exact hgz2.1 h
        · exact hgz2.2 h)
      have e3 : ∀ d', reV (one gg d') (.d (.sl rid rT (rxs.map (cS cI)))) = .d (.sl rid rT (rxs.map (cS cI))) := fun d' => hrB2 _ fun i hi => one_out (by omega)
      simp only [e1, e2, e3]
      refine call_f (w_impl_IsValidDatabase ⟨vs.map plTab⟩) (by simp [eDb, cP, pS, erLL_map er_cTab]) rfl fun hs4 hh4 => ?_
      simp at hh4
      rw [hvp]
      cases h4 : dbOk ⟨setL l nm ⟨ar, rows⟩⟩
      · have hB0 : setB ⟨l⟩ nm ⟨ar, rows⟩ = false := by simp [setB, h4]
        simp [s75_10, ]
        refine call_some hcopy (by simp [cDb, cS, dSl]) (by simp) fun n5 hs5 r5 hn5 hm5 hp5 hr5 => ?_
        obtain ⟨⟨⟨uid, uT, us⟩⟩, rfl, p5, k5, G5⟩ := hp5
        simp at hn5
        simp [cDb, cS, dSl, hB0, s75_10, ]
        exact ⟨⟨⟨uid, uT, us⟩⟩, by simp [cDb, cS, dSl], by simp [setP, hB0, p5], k5, G5.le (by omega)⟩
      · have hB1 : setB ⟨l⟩ nm ⟨ar, rows⟩ = true := by simp [setB, h1, h4]
        simp [hB1, s75_10, ]
        refine ⟨⟨⟨some gg, some T, vs⟩⟩, by simp [cDb, cS, dSl], by simp only [setP, hB1, if_true, plDb, plS, hvp], ⟨by simp only [maxLen]; show vs.length ≤ _; omega, hvk⟩, good_row (fun g hg => by obtain rfl := Option.some.inj hg; exact hgB) (by simp) (fun g hg => by obtain rfl := Option.some.inj hg; exact hgv) ⟨P1.1, fun g hg => by have := P1.2 g hg; omega⟩ P2⟩
    · have hh1 : hitK l nm = false := by simp [hitK, hkt, hTn, he]
      have hSL : setL l nm ⟨ar, rows⟩ = l.take (setK l nm) ++ ⟨nm, ⟨ar, rows⟩⟩ :: l.drop (setK l nm) := by simp [setL, hh1]
      obtain ⟨vs, hvs⟩ : ∃ vs, vs = ys.take (setK l nm) ++ w :: ys.drop (setK l nm) := ⟨_, rfl⟩
      simp [hky, hkt, ← hT, he, hmn, hL1, hL2, hL3, cTab, cReln, cStr, cI, cS, dSl, ← List.map_take, ← List.map_drop, List.take_of_length_le, s75_10, ]
      obtain ⟨P1, P2⟩ := good_put (c := cTab) (wh := whTab) (j := setK l nm) (k := setK l nm) (Nat.le_refl _) hsn.1 (fun g hg => ⟨(hyi g hg).1, by have := (hyi g hg).2; show g < n3; omega⟩) G2.wh.2 hwG (by omega)
      rw [← hvs] at P1 P2
      have hvp : vs.map plTab = setL l nm ⟨ar, rows⟩ := by rw [hvs, map_put, hys, hwp, hSL]
      have hvk : ∀ t ∈ vs, okTab t := fun t ht => by
        rw [hvs] at ht
        rcases List.mem_append.1 ht with h | h
        · exact k2.2 t (List.mem_of_mem_take h)
        · rcases List.mem_cons.1 h with rfl | h
          · exact hwk
          · exact k2.2 t (List.mem_of_mem_drop h)
      have hvl : vs.length = ys.length + 1 := by rw [hvs]; simp; omega
      have hpV : hpLL (vs.map cTab) = false := hpLL_map (fun a => by simp) vs
      refine ⟨by omega, ?_⟩
      have hrow : List.map cTab (List.take (setK l nm) ys) ++ [D.str nm, D.int .i64 za, D.sl zid zT (zs.map (cS cI))] :: List.map cTab (List.drop (setK l nm) ys) = vs.map cTab := by rw [hvs, ← hwc]; simp
      have hnum : setK l nm + 1 + (ys.length - setK l nm) = ys.length + 1 := by omega
      repeat' apply And.intro
      all_goals
        simp only [hrow, hnum]
        refine call_own (by simp) (fun γ n hn hg => ⟨[.agg [.d (.sl (γ 59) (some (71, 3)) (vs.map cTab))]], by simp [hvl, hpV, List.take_of_length_le], (w_impl_IsValidDatabase ⟨vs.map plTab⟩).er (by simp [eDb, cP, pS, erLL_map er_cTab])⟩) (by rintro n _ rfl; simp [V.ids, D.ids, V.hp, D.hp]) fun n4 hs4 r4 hh4 hm4 hp4 hr4 => ?_
        subst hp4
        clear hr4
        simp at hh4
        rw [hvp]
        cases h4 : dbOk ⟨setL l nm ⟨ar, rows⟩⟩
        · have hB0 : setB ⟨l⟩ nm ⟨ar, rows⟩ = false := by simp [setB, h4]
          simp [s75_10, ]
          refine call_some hcopy (by simp [cDb, cS, dSl]) (by simp) fun n5 hs5 r5 hn5 hm5 hp5 hr5 => ?_
          obtain ⟨⟨⟨uid, uT, us⟩⟩, rfl, p5, k5, G5⟩ := hp5
          simp at hn5
          simp [cDb, cS, dSl, hB0, s75_10, ]
          exact ⟨⟨⟨uid, uT, us⟩⟩, by simp [cDb, cS, dSl], by simp [setP, hB0, p5], k5, G5.le (by omega)⟩
        · have hB1 : setB ⟨l⟩ nm ⟨ar, rows⟩ = true := by simp [setB, h1, h4]
          simp [hB1, s75_10, ]
          intro γ hs' h1' hg
          obtain ⟨q1, q2⟩ := gam_at hg (k := 59) (T := 71) (sz := 3) (es := vs.map cTab) (by simp)
          have q3 := gam_row hg (k := 59) (T := 71) (sz := 3) (es := vs.map cTab) (by simp)
          clear hg
          have hp : hpLL (vs.map cTab) = false := hpLL_map (fun a => by simp) vs
          simp [hp, hvl, List.take_of_length_le]
          exact ⟨⟨⟨γ 59, some (71, 3), vs⟩⟩, by simp [cDb, cS, dSl], by simp only [setP, hB1, if_true, plDb, plS, hvp], ⟨by simp only [maxLen]; show vs.length ≤ _; omega, hvk⟩, good_row (fun g hg => (q1 g hg).1) (by simpa using q2) q3 ⟨P1.1, fun g hg => by have := P1.2 g hg; omega⟩ P2⟩
  · have hkn : setK l nm = l.length := by omega
    have hL1 : LenOk 48 l.length := ⟨by omega, by simp only [maxLen]; omega⟩
    have hL2 : LenOk 48 (l.length + 1) := ⟨by omega, by simp only [maxLen]; omega⟩
    simp [hkn, hyl, cReln, cI, cS, dSl, s75_10, ]
    refine call_some hcR (by simp [cReln, cS, cI, dSl]) (by simp) fun n3 hs3 r3 hn3 hm3 hp3 hr3 => ?_
    obtain ⟨⟨za, ⟨zid, zT, zs⟩⟩, rfl, p3, k3, G3⟩ := hp3
    simp at hn3
    have hr3' : ∀ g ∈ idsL (cReln ⟨za, ⟨zid, zT, zs⟩⟩), g < hs3 := fun g hg => hr3 g (by rw [ids_agg]; exact hg)
    obtain ⟨w, hw⟩ : ∃ w : Tab, w = ⟨nm, ⟨za, ⟨zid, zT, zs⟩⟩⟩ := ⟨_, rfl⟩
    have hwc : cTab w = [D.str nm, D.int .i64 za, D.sl zid zT (zs.map (cS cI))] := by rw [hw]; simp [cTab, cReln, cStr, cI, cS, dSl]
    have hwp : plTab w = ⟨nm, ⟨ar, rows⟩⟩ := by rw [hw, plTab, p3]; rfl
    have hwG : Good (cTab w) (whTab w) n3 := by rw [hw]; exact good_Tab G3
    have hwk : okTab w := by rw [hw]; exact ⟨hnm, k3⟩
    have hyi : ∀ g ∈ idsLL (ys.map cTab), n2 ≤ g ∧ g < hs2 := fun g hg => by
      have hm : g ∈ idsL (cDb ⟨⟨yid, yT, ys⟩⟩) := by rw [cDb, idsL_cS]; exact mem_sl_ids.2 (.inr hg)
      exact ⟨G2.lo g hm, hr2' g hm⟩
    have hh1 : hitK l nm = false := by simp [hitK, hkt]
    have hSL : setL l nm ⟨ar, rows⟩ = l.take l.length ++ ⟨nm, ⟨ar, rows⟩⟩ :: l.drop l.length := by simp [setL, hh1, hkn]
    obtain ⟨vs, hvs⟩ : ∃ vs, vs = ys.take l.length ++ w :: ys.drop l.length := ⟨_, rfl⟩
    obtain ⟨P1, P2⟩ := good_put (c := cTab) (wh := whTab) (j := l.length) (k := l.length) (Nat.le_refl _) (sl_nd (s := (⟨yid, yT, ys⟩ : Sl Tab)) (c := cTab) (by have := G2.nd; rwa [cDb, idsL_cS] at this)).1 (fun g hg => ⟨(hyi g hg).1, by have := (hyi g hg).2; show g < n3; omega⟩) G2.wh.2 hwG (by omega)
    rw [← hvs] at P1 P2
    have hvp : vs.map plTab = setL l nm ⟨ar, rows⟩ := by rw [hvs, map_put, hys, hwp, hSL]
    have hvk : ∀ t ∈ vs, okTab t := fun t ht => by
      rw [hvs] at ht
      rcases List.mem_append.1 ht with h | h
      · exact k2.2 t (List.mem_of_mem_take h)
      · rcases List.mem_cons.1 h with rfl | h
        · exact hwk
        · exact k2.2 t (List.mem_of_mem_drop h)
    have hvl : vs.length = ys.length + 1 := by rw [hvs]; simp; omega
    have hpV : hpLL (vs.map cTab) = false := hpLL_map (fun a => by simp) vs
    have hrow : List.map cTab (List.take l.length ys) ++ [[D.str nm, D.int .i64 za, D.sl zid zT (zs.map (cS cI))]] = vs.map cTab := by rw [hvs, ← hwc]; simp [← hyl]
    have hnum : l.length + 1 = ys.length + 1 := by omega
    simp [hkn, hyl, hL1, hL2, cTab, cReln, cStr, cI, cS, dSl, ← List.map_take, s75_10, ]
    repeat' apply And.intro
    all_goals
      simp only [hrow, hnum]
      refine call_own (by simp) (fun γ n hn hg => ⟨[.agg [.d (.sl (γ 59) (some (71, 3)) (vs.map cTab))]], by simp [hvl, hpV, List.take_of_length_le], (w_impl_IsValidDatabase ⟨vs.map plTab⟩).er (by simp [eDb, cP, pS, erLL_map er_cTab])⟩) (by rintro n _ rfl; simp [V.ids, D.ids, V.hp, D.hp]) fun n4 hs4 r4 hh4 hm4 hp4 hr4 => ?_
      subst hp4
      clear hr4
      simp at hh4
      rw [hvp]
      cases h4 : dbOk ⟨setL l nm ⟨ar, rows⟩⟩
      · have hB0 : setB ⟨l⟩ nm ⟨ar, rows⟩ = false := by simp [setB, h4]
        simp [s75_10, ]
        refine call_some hcopy (by simp [cDb, cS, dSl]) (by simp) fun n5 hs5 r5 hn5 hm5 hp5 hr5 => ?_
        obtain ⟨⟨⟨uid, uT, us⟩⟩, rfl, p5, k5, G5⟩ := hp5
        simp at hn5
        simp [cDb, cS, dSl, hB0, s75_10, ]
        exact ⟨⟨⟨uid, uT, us⟩⟩, by simp [cDb, cS, dSl], by simp [setP, hB0, p5], k5, G5.le (by omega)⟩
      · have hB1 : setB ⟨l⟩ nm ⟨ar, rows⟩ = true := by simp [setB, h1, h4]
        simp [hB1, s75_10, ]
        intro γ hs' h1' hg
        obtain ⟨q1, q2⟩ := gam_at hg (k := 59) (T := 71) (sz := 3) (es := vs.map cTab) (by simp)
        have q3 := gam_row hg (k := 59) (T := 71) (sz := 3) (es := vs.map cTab) (by simp)
        clear hg
        have hp : hpLL (vs.map cTab) = false := hpLL_map (fun a => by simp) vs
        simp [hp, hvl, List.take_of_length_le]
        exact ⟨⟨⟨γ 59, some (71, 3), vs⟩⟩, by simp [cDb, cS, dSl], by simp only [setP, hB1, if_true, plDb, plS, hvp], ⟨by simp only [maxLen]; show vs.length ≤ _; omega, hvk⟩, good_row (fun g hg => (q1 g hg).1) (by simpa using q2) q3 ⟨P1.1, fun g hg => by have := P1.2 g hg; omega⟩ P2⟩
end

end Go.Proofs.Ytfpohhabemnnfaa

namespace Go.Proofs.Ytfpohhabemnnfaa
open Go.Vs Go.Proofs Go
set_option maxRecDepth 100000
set_option maxHeartbeats 1000000

section
attribute [local simp] plI_id plStr_id map_plI map_plStr pS cP cI cStr cU8 cB eTab eReln eDelta
theorem w_spec_ApplyDelta (d : PDb) (x : PDelta) (hz : szDb d) (hst : ∀ t ∈ d.tabs, t.name.length ≤ maxLen) (hnm : x.name.length ≤ maxLen) :
   VC Try.prog 25 [.agg ((eDb d).map V.d), .agg ((eDelta x).map V.d)] (fun _ v => v = .tup [.agg ((eDb (appP d x)).map V.d), .d (.bool (appB d x))]) := by
  refine VC.ofL EP s25 (by kernel_rfl) Try.func25 (by rfl) (by kernel_rfl) (by simp [Try.f25]) (by simp [Try.f25]) s25_ok fun B hl => ?_
  obtain ⟨nm, ⟨ia, il⟩, ⟨da, dl⟩⟩ := x
  obtain ⟨X, hX⟩ : ∃ X : PDelta, X = ⟨nm, ⟨ia, il⟩, ⟨da, dl⟩⟩ := ⟨_, rfl⟩
  rw [← hX]
  have hXn : X.name = nm := by rw [hX]
  obtain ⟨l⟩ := d
  simp [Try.f25, eDb]
  refine call_p (w_spec_NormalizeDelta ⟨l⟩ X hst) (by simp [eDb, hX]) fun hs1 hh1 hl1 => ?_
  simp at hh1
  obtain ⟨⟨yn, ⟨ya, yi⟩, ⟨yb, yd⟩⟩, hY⟩ : ∃ Y, Y = norP ⟨l⟩ X := ⟨_, rfl⟩
  rw [← hY]
  cases h1 : fitB ⟨l⟩ X
  · have hG : appG ⟨l⟩ X = false := by simp [appG, h1]
    simp []
    refine call_p (w_spec_l6Copy ⟨l⟩ hz) (by simp [eDb]) fun hs2 hh2 hl2 => ?_
    simp [eDb, appP, appB, hG]
  simp []
  refine call_p (w_spec_LookupRelation ⟨l⟩ nm hst) (by simp [eDb, hX]) fun hs2 hh2 hl2 => ?_
  simp at hh2
  obtain ⟨⟨ra, rl⟩, hR⟩ : ∃ R, R = lkR ⟨l⟩ nm := ⟨_, rfl⟩
  rw [← hR]
  simp []
  refine call_p (w_spec_Difference ⟨ra, rl⟩ ⟨yb, yd⟩) (by simp) fun hs3 hh3 hl3 => ?_
  simp at hh3
  have hD : difR ⟨ra, rl⟩ ⟨yb, yd⟩ = difD ⟨l⟩ X := by rw [difD, ← hY, hXn, ← hR]
  rw [hD]
  obtain ⟨⟨ea, el⟩, hE⟩ : ∃ E, E = difD ⟨l⟩ X := ⟨_, rfl⟩
  rw [← hE]
  simp []
  refine call_p (w_spec_Union ⟨ea, el⟩ ⟨ya, yi⟩) (by simp) fun hs4 hh4 hl4 => ?_
  simp at hh4
  have hU : uniR ⟨ea, el⟩ ⟨ya, yi⟩ = appU ⟨l⟩ X := by rw [appU, ← hY, hE]
  rw [hU]
  obtain ⟨⟨ua, ul⟩, hV⟩ : ∃ E, E = appU ⟨l⟩ X := ⟨_, rfl⟩
  rw [← hV]
  have hG : appG ⟨l⟩ X = uniB ⟨ea, el⟩ ⟨ya, yi⟩ := by rw [appG, h1, ← hY, hE, Bool.true_and]
  cases h2 : uniB ⟨ea, el⟩ ⟨ya, yi⟩
  · rw [h2] at hG
    simp []
    refine call_p (w_spec_l6Copy ⟨l⟩ hz) (by simp [eDb]) fun hs5 hh5 hl5 => ?_
    simp [eDb, appP, appB, hG]
  · rw [h2] at hG
    simp []
    refine call_p (w_spec_SetRelation ⟨l⟩ nm ⟨ua, ul⟩ hz hst hnm) (by simp [eDb, hX]) fun hs5 hh5 hl5 => ?_
    simp [eDb, appP, appB, hG, ← hV, hXn]
end
section
attribute [local simp] plI_id plStr_id map_plI map_plStr
theorem t_impl_ApplyDelta (d : Db) (x : Delta) (hd : okDb d) (hx : okDelta x) (hz : szDb (plDb d)) :
   VC Try.prog 26 [.agg ((cDb d).map V.d), .agg ((cDelta x).map V.d)]
   (fun n v => ∃ y : Db, v = .tup [.agg ((cDb y).map V.d), .d (.bool (appB (plDb d) (plDelta x)))] ∧ plDb y = appP (plDb d) (plDelta x) ∧ okDb y ∧ Good (cDb y) (whDb y) n) := by
  refine VC.of E s26 (by kernel_rfl) Try.func26 (by rfl) (by kernel_rfl) (by simp [Try.f26]) (by simp [Try.f26]) s26_ok fun B => ?_
  have hcopy := t_impl_copyDatabase d hd hz
  have hnorm := t_impl_NormalizeDelta d x hd hx
  obtain ⟨dp, hdp⟩ : ∃ dp, dp = plDb d := ⟨_, rfl⟩
  have hdl : erLL (d.tabs.xs.map cTab) = dp.tabs.map eTab := by rw [erLL_map er_cTab, hdp]; rfl
  have hset := fun r hr => t_impl_SetRelation d x.name r hd hz hx.1 hr
  obtain ⟨X, hX⟩ : ∃ X, X = plDelta x := ⟨_, rfl⟩
  have hXn : X.name = x.name := by rw [hX]; simp [plDelta]
  rw [← hdp, ← hX] at hnorm ⊢
  rw [← hdp] at hcopy hset
  obtain ⟨⟨did, dT, dts⟩⟩ := d
  obtain ⟨nm, ⟨ia, ⟨iid, iT, il⟩⟩, ⟨da, ⟨did2, dT2, dl⟩⟩⟩ := x
  simp only at hdl hset hXn
  simp [Try.f26, cDb, cDelta, cReln, cStr, cS, cI, dSl]
  refine call_some hnorm (by simp [cDb, cDelta, cReln, cStr, cS, cI, dSl]) (by simp) fun n1 hs1 r1 hn1 hm1 hp1 hr1 => ?_
  obtain ⟨⟨yn, yi, ⟨yb, ⟨ydid, ydT, yd⟩⟩⟩, rfl, p1, k1, G1⟩ := hp1
  simp at hn1
  obtain ⟨ya, ⟨yiid, yiT, yil⟩⟩ := yi
  cases h1 : fitB dp X
  · have hG : appG dp X = false := by simp [appG, h1]
    simp [cDb, cDelta, cReln, cStr, cS, cI, dSl, ]
    refine call_some hcopy (by simp [cDb, cS, dSl]) (by simp) fun n2 hs2 r2 hn2 hm2 hp2 hr2 => ?_
    obtain ⟨⟨⟨vid, vT, vs⟩⟩, rfl, p2, k2, G2⟩ := hp2
    simp at hn2
    simp [cDb, cS, dSl, appB, appP, hG, ]
    exact ⟨⟨⟨vid, vT, vs⟩⟩, by simp [cDb, cS, dSl], p2, k2, G2.le (by omega)⟩
  simp [cDb, cDelta, cReln, cStr, cS, cI, dSl, ]
  refine call_p (w_impl_LookupRelation dp nm) (by simp [eDb, cP, pS, hdl]) fun hs2 hh2 hl2 => ?_
  simp at hh2
  obtain ⟨⟨ra, rl⟩, hR⟩ : ∃ R, R = lkR dp nm := ⟨_, rfl⟩
  rw [← hR]
  simp [eReln, cI, cP, pS, ]
  refine call_p (q_impl_Difference ⟨ra, rl⟩ ⟨yb, yd.map (plS plI)⟩) (by simp [eReln, cI, cP, pS, erLL_map (er_cS er_cI)]) fun hs3 hh3 hl3 => ?_
  simp at hh3
  have hD : difR ⟨ra, rl⟩ ⟨yb, yd.map (plS plI)⟩ = difD dp X := by rw [difD, ← p1, hXn, ← hR]; rfl
  rw [hD]
  obtain ⟨⟨ea, el⟩, hE⟩ : ∃ E, E = difD dp X := ⟨_, rfl⟩
  rw [← hE]
  simp [eReln, cI, cP, pS, ]
  refine call_some (e_impl_Union ⟨ea, el⟩ ⟨ya, ⟨yiid, yiT, yil⟩⟩ k1.2.1) (by simp [eReln, cReln, cS, cI, cP, pS, dSl]) (by simp) fun n4 hs4 r4 hn4 hm4 hp4 hr4 => ?_
  obtain ⟨⟨ua, ⟨uid, uT, ul⟩⟩, rfl, p4, k4, G4⟩ := hp4
  simp at hn4
  have hU : uniR ⟨ea, el⟩ (plReln ⟨ya, ⟨yiid, yiT, yil⟩⟩) = appU dp X := by rw [appU, ← p1, hE]; rfl
  have hG : appG dp X = uniB ⟨ea, el⟩ (plReln ⟨ya, ⟨yiid, yiT, yil⟩⟩) := by rw [appG, h1, ← p1, hE, Bool.true_and]; rfl
  cases h2 : uniB ⟨ea, el⟩ (plReln ⟨ya, ⟨yiid, yiT, yil⟩⟩)
  · rw [h2] at hG
    simp [cReln, cI, cS, dSl, ]
    refine call_some hcopy (by simp [cDb, cS, dSl]) (by simp) fun n5 hs5 r5 hn5 hm5 hp5 hr5 => ?_
    obtain ⟨⟨⟨vid, vT, vs⟩⟩, rfl, p5, k5, G5⟩ := hp5
    simp at hn5
    simp [cDb, cS, dSl, appB, appP, hG, ]
    exact ⟨⟨⟨vid, vT, vs⟩⟩, by simp [cDb, cS, dSl], p5, k5, G5.le (by omega)⟩
  · rw [h2] at hG
    have hsz := uniR_ok h2
    rw [← p4] at hsz
    simp [cReln, cI, cS, dSl, ]
    refine call_some (hset ⟨ua, ⟨uid, uT, ul⟩⟩ hsz) (by simp [cDb, cReln, cI, cS, dSl]) (by simp) fun n5 hs5 r5 hn5 hm5 hp5 hr5 => ?_
    obtain ⟨⟨⟨vid, vT, vs⟩⟩, rfl, p5, k5, G5⟩ := hp5
    simp at hn5
    have hUp : plReln ⟨ua, ⟨uid, uT, ul⟩⟩ = appU dp X := by rw [p4, hU]
    rw [hUp] at p5 ⊢
    simp [cDb, cS, dSl, appB, appP, hG, hXn, ]
    exact ⟨⟨⟨vid, vT, vs⟩⟩, by simp [cDb, cS, dSl], p5, k5, G5.le (by omega)⟩
end

end Go.Proofs.Ytfpohhabemnnfaa

namespace Go.Proofs.Ytfpohhabemnnfaa
open Go.Vs Go.Proofs Go
set_option maxRecDepth 100000
set_option maxHeartbeats 1000000

section
attribute [local simp] plI_id plStr_id map_plI map_plStr pS cP cI cStr cU8 cB
theorem w_spec_ApplyBatch (d : PDb) (xs : List PDelta) (hz : szDb d) (hst : ∀ t ∈ d.tabs, t.name.length ≤ maxLen) (hnm : ∀ x ∈ xs, x.name.length ≤ maxLen) :
   VC Try.prog 33 [.agg ((eDb d).map V.d), .d (pS eDelta xs)] (fun _ v => v = .tup [.agg ((eDb (batP d xs)).map V.d), .d (.int .i64 (batN d xs)), .d (.bool (batB d xs))]) := by
  refine VC.ofL EP s33 (by kernel_rfl) Try.func33 (by rfl) (by kernel_rfl) (by simp [Try.f33]) (by simp [Try.f33]) s33_ok fun B hl => ?_
  obtain ⟨l⟩ := d
  by_cases hx5 : xs.length ≤ 5
  case neg =>
    have hG : batG ⟨l⟩ xs = false := by simp [batG, hx5]
    have hg : ((xs.length : Int) ≤ 5) = False := by simp; omega
    have hg2 : (5 < (xs.length : Int)) = True := by simp; omega
    simp [Try.f33, s33_7, s33_7, eDb, hg, hg2]
    refine call_p (w_spec_l6Copy ⟨l⟩ hz) (by simp [eDb]) fun hs2 hh2 hl2 => ?_
    simp [eDb, batP, batN, batB, bat_no hG]
  have hg2 : (5 < (xs.length : Int)) = False := by simp; omega
  simp [Try.f33, s33_7, s33_7, eDb, hg2]
  refine call_f (w_spec_IsValidDatabase ⟨l⟩ hst) (by simp [eDb]) rfl fun hs1 hh1 => ?_
  simp at hh1
  cases h1 : dbOk ⟨l⟩
  · have hG : batG ⟨l⟩ xs = false := by simp [batG, h1]
    simp [s33_7, ]
    refine call_p (w_spec_l6Copy ⟨l⟩ hz) (by simp [eDb]) fun hs2 hh2 hl2 => ?_
    simp [eDb, batP, batN, batB, bat_no hG]
  have hG : batG ⟨l⟩ xs = true := by simp [batG, h1, hx5]
  simp [s33_7, ]
  refine call_p (w_spec_l6Copy ⟨l⟩ hz) (by simp [eDb]) fun hs2 hh2 hl2 => ?_
  simp [eDb, s33_7, ]
  refine loop_rule (X := Nat × PDb) (fun p => RunI ⟨l⟩ xs p.1 p.2) (fun p => [(1, .d (.pl (xs.map eDelta))), (2, .ptr 2 0 0), (4, .ptr 4 0 0), (7, .ptr 7 0 0), (8, .d (.int .i64 p.1))])
    (fun p => [(2, some (.box [.d (.pl (l.map eTab))])), (4, some (.box [.d (.sl none none [])])), (7, some (.box [.d (.pl (p.2.tabs.map eTab))]))]) (fun p => xs.length - p.1) (0, ⟨l⟩) (.zero h1) (by simp) (by simp) ?_
  rintro ⟨i, ⟨c⟩⟩ hs t m hI hh
  have hle := hI.le
  have hok := hI.ok
  simp only at hle hok
  by_cases hlt : i < xs.length
  · have hwi := wr1 (i := i) (by omega)
    obtain ⟨⟨xn, ⟨xa, xi⟩, ⟨xb, xd⟩⟩, hX⟩ : ∃ x, x = xs[i] := ⟨_, rfl⟩
    have hxn := hnm _ (List.getElem_mem hlt)
    rw [← hX] at hxn
    have hA := w_spec_ApplyDelta ⟨c⟩ _ (szDb_ok hok) (dbOk_st hok) hxn
    have hstp := hI.step hlt
    have hbad := hI.bad hlt
    rw [← hX] at hstp hbad
    simp [hlt, ← hX, eDelta, eReln, s33_7, ]
    repeat' apply And.intro
    all_goals
      refine call_p hA (by simp [eDb, eDelta, eReln]) fun hs3 hh3 hl3 => ?_
      simp at hh3
      cases hb : appB ⟨c⟩ ⟨xn, ⟨xa, xi⟩, ⟨xb, xd⟩⟩
      · have e := hbad hb
        simp [eDb, s33_7, ]
        refine call_p (w_spec_l6Copy ⟨l⟩ hz) (by simp [eDb]) fun hs2 hh2 hl2 => ?_
        simp [eDb, batP, batN, batB, bat_bad hG e]
      · have hs1' := hstp hb
        obtain ⟨c', hc'⟩ : ∃ c', c' = appP ⟨c⟩ ⟨xn, ⟨xa, xi⟩, ⟨xb, xd⟩⟩ := ⟨_, rfl⟩
        rw [← hc'] at hs1' ⊢
        simp [eDb, hwi, s33_7, ]
        exact back (i + 1, c') hs1' (by simp only; omega) rfl (by simp <;> omega) (by simp) (by simp)
  · have e := hI.done (by omega)
    have hi : i = xs.length := by omega
    simp [hlt, s33_7, ]
    simp [eDb, batP, batN, batB, bat_done hG e, hi]
end

end Go.Proofs.Ytfpohhabemnnfaa

namespace Go.Proofs.Ytfpohhabemnnfaa
open Go.Vs Go.Proofs Go
set_option maxRecDepth 100000
set_option maxHeartbeats 1000000

section
attribute [local simp] plI_id plStr_id map_plI map_plStr
theorem t_impl_ApplyBatch (d : Db) (xs : Sl Delta) (hd : okDb d) (hx : okS okDelta xs) (hz : szDb (plDb d)) :
   VC Try.prog 34 [.agg ((cDb d).map V.d), .d (dSl cDelta xs)]
   (fun n v => ∃ y : Db, v = .tup [.agg ((cDb y).map V.d), .d (.int .i64 (batN (plDb d) (plS plDelta xs))), .d (.bool (batB (plDb d) (plS plDelta xs)))] ∧ plDb y = batP (plDb d) (plS plDelta xs) ∧ okDb y ∧ Good (cDb y) (whDb y) n) := by
  refine VC.of E s34 (by kernel_rfl) Try.func34 (by rfl) (by kernel_rfl) (by simp [Try.f34]) (by simp [Try.f34]) s34_ok fun B => ?_
  have hcopy := t_impl_copyDatabase d hd hz
  have happ := fun (y : Db) (x : Delta) (ky : okDb y) (kx : okDelta x) (hy : dbOk (plDb y) = true) => t_impl_ApplyDelta y x ky kx (szDb_ok hy)
  obtain ⟨dp, hdp⟩ : ∃ dp, dp = plDb d := ⟨_, rfl⟩
  have hdl : erLL (d.tabs.xs.map cTab) = dp.tabs.map eTab := by rw [erLL_map er_cTab, hdp]; rfl
  rw [← hdp] at hcopy ⊢
  obtain ⟨⟨did, dT, dts⟩⟩ := d
  obtain ⟨xid, xT, xl⟩ := xs
  obtain ⟨L, hL⟩ : ∃ L, L = plS plDelta ⟨xid, xT, xl⟩ := ⟨_, rfl⟩
  have hLl : L.length = xl.length := by rw [hL]; simp [plS]
  rw [← hL]
  simp only at hdl
  by_cases hx5 : xl.length ≤ 5
  case neg =>
    have hG : batG dp L = false := by simp [batG, hLl, hx5]
    have hg2 : (5 < (xl.length : Int)) = True := by simp; omega
    simp [Try.f34, cDb, cS, dSl, hg2]
    refine call_some hcopy (by simp [cDb, cS, dSl]) (by simp) fun n2 hs2 r2 hn2 hm2 hp2 hr2 => ?_
    obtain ⟨⟨⟨vid, vT, vs⟩⟩, rfl, p2, k2, G2⟩ := hp2
    simp at hn2
    simp [cDb, cS, dSl, batP, batN, batB, bat_no hG, ]
    exact ⟨⟨⟨vid, vT, vs⟩⟩, by simp [cDb, cS, dSl], p2, k2, G2.le (by omega)⟩
  have hg2 : (5 < (xl.length : Int)) = False := by simp; omega
  simp [Try.f34, cDb, cS, dSl, hg2]
  refine call_f (w_impl_IsValidDatabase dp) (by simp [eDb, cP, pS, hdl]) rfl fun hs1 hh1 => ?_
  simp at hh1
  cases h1 : dbOk dp
  · have hG : batG dp L = false := by simp [batG, h1]
    simp []
    refine call_some hcopy (by simp [cDb, cS, dSl]) (by simp) fun n2 hs2 r2 hn2 hm2 hp2 hr2 => ?_
    obtain ⟨⟨⟨vid, vT, vs⟩⟩, rfl, p2, k2, G2⟩ := hp2
    simp at hn2
    simp [cDb, cS, dSl, batP, batN, batB, bat_no hG, ]
    exact ⟨⟨⟨vid, vT, vs⟩⟩, by simp [cDb, cS, dSl], p2, k2, G2.le (by omega)⟩
  have hG : batG dp L = true := by simp [batG, h1, hLl, hx5]
  simp []
  refine call_some hcopy (by simp [cDb, cS, dSl]) (by simp) fun n2 hs2 r2 hn2 hm2 hp2 hr2 => ?_
  obtain ⟨⟨⟨yid, yT, ys⟩⟩, rfl, p2, k2, G2⟩ := hp2
  simp at hn2
  simp [cDb, cS, dSl, ]
  refine loop_rule (X := Nat × Db) (fun p => RunT dp L B p) (fun p => [(1, .d (.sl xid xT (xl.map cDelta))), (2, .ptr 2 0 0), (4, .ptr 4 0 0), (7, .ptr 7 0 0), (24, .d (.sl xid xT (xl.map cDelta))), (25, .d (.int .i64 xl.length)), (26, .d (.int .i64 p.1))])
    (fun p => [(2, some (.box [.d (.sl did dT (dts.map cTab))])), (4, some (.box [.d (.sl none none [])])), (7, some (.box ((cDb p.2).map V.d)))]) (fun p => L.length - p.1) (0, ⟨⟨yid, yT, ys⟩⟩) ⟨by rw [p2]; exact .zero h1, k2, G2.le (by omega)⟩ (by simp) (by simp [cDb, cS, dSl]) ?_
  rintro ⟨i, ⟨⟨uid, uT, us⟩⟩⟩ hs t m hI hh
  have hle := hI.run.le
  simp only at hle
  by_cases hlt : i < xl.length
  · have hwi := wr1 (i := i) (by omega)
    have hltL : i < L.length := by omega
    have hok := hx.2 _ (List.getElem_mem hlt)
    have hLi : L[i] = plDelta xl[i] := by simp [hL, plS]
    obtain ⟨⟨xn, ⟨xa, ⟨xiid, xiT, xi⟩⟩, ⟨xb, ⟨xdid, xdT, xd⟩⟩⟩, hX⟩ : ∃ x, x = xl[i] := ⟨_, rfl⟩
    have hA := happ _ _ hI.ok hok hI.run.ok
    have hstp := hI.run.step hltL
    have hbad := hI.run.bad hltL
    rw [hLi] at hstp hbad
    rw [← hX] at hstp hbad hA
    simp [hlt, ← hX, cDb, cDelta, cReln, cStr, cI, cS, dSl, ]
    refine call_some hA (by simp [cDb, cDelta, cReln, cStr, cI, cS, dSl]) (by simp) fun n3 hs3 r3 hn3 hm3 hp3 hr3 => ?_
    obtain ⟨⟨⟨vid, vT, vs⟩⟩, rfl, p3, k3, G3⟩ := hp3
    simp at hn3
    cases hb : appB (plDb ⟨⟨uid, uT, us⟩⟩) (plDelta ⟨xn, ⟨xa, ⟨xiid, xiT, xi⟩⟩, ⟨xb, ⟨xdid, xdT, xd⟩⟩⟩)
    · have e := hbad hb
      simp [cDb, cS, dSl, ]
      refine call_some hcopy (by simp [cDb, cS, dSl]) (by simp) fun n4 hs4 r4 hn4 hm4 hp4 hr4 => ?_
      obtain ⟨⟨⟨wid, wT, ws⟩⟩, rfl, p4, k4, G4⟩ := hp4
      simp at hn4
      simp [cDb, cS, dSl, batP, batN, batB, bat_bad hG e, ]
      exact ⟨⟨⟨wid, wT, ws⟩⟩, by simp [cDb, cS, dSl], p4, k4, G4.le (by omega)⟩
    · have hs1' := hstp hb
      rw [← p3] at hs1'
      simp [cDb, cS, dSl, hwi, ]
      exact back (i + 1, ⟨⟨vid, vT, vs⟩⟩) ⟨hs1', k3, G3.le (by omega)⟩ (by simp only; omega) rfl (by simp <;> omega) (by simp) (by simp [cDb, cS, dSl])
  · have e := hI.run.done (by omega)
    have hi : i = xl.length := by omega
    simp only at e
    simp [hlt, cDb, cS, dSl, ]
    exact ⟨⟨⟨uid, uT, us⟩⟩, by simp [cDb, cS, dSl, batN, batB, bat_done hG e, hi], by simp [batP, bat_done hG e], hI.ok, hI.good⟩
end

end Go.Proofs.Ytfpohhabemnnfaa

namespace Go.Proofs.Ytfpohhabemnnfaa
open Go.Vs Go.Proofs Go
set_option maxRecDepth 100000
set_option maxHeartbeats 1000000

theorem w_laws_FnExactApplyBatch (a : Db) (b : Sl (Delta)) (k_a : okDb a) (k_b : okS okDelta b) :
   VC Try.prog 7 [.agg ((cDb a).map V.d), .d (dSl cDelta b)] (fun _ r => r = .d (.bool true)) := by
  refine VC.ofB E s7 (by kernel_rfl) Try.func7 (by rfl) (by kernel_rfl) (by simp [Try.f7]) (by simp [Try.f7]) s7_ok fun B hB => ?_
  have ua_a : ∀ g ∈ idsL (cDb a), g < B := fun g hg => hB g (by simp only [idsVL, ids_agg, idsVL_map_d, V.ids, idsL_cS, List.mem_append] at hg ⊢; simp [hg])
  have ua_b : ∀ g ∈ idsL (cS cDelta b), g < B := fun g hg => hB g (by simp only [idsVL, ids_agg, idsVL_map_d, V.ids, idsL_cS, List.mem_append] at hg ⊢; simp [hg])
  simp [Try.f7, s7_14, s7_14, cDb, cS, cI, cS]
  refine call_pure (w_laws_szDatabase a _ (by omega) (by omega) k_a) rfl (by simp) rfl fun hz_a zz_a => ?_
  simp at zz_a
  by_cases s_a : (swDb a : Int) ≤ 1048576
  case neg =>
    rw [szv_neg (by omega)]; simp
    all_goals exact fun h => absurd h (by decide)
  rw [szv_pos s_a]
  simp [show ¬ (1048576 : Int) - swDb a < 0 by omega, show ¬ (1048576 : Int) < swDb a by omega, s_a]
  refine call_pure (w_laws_szDeltaS b _ (by omega) (by omega) k_b) rfl (by simp) rfl fun hz_b zz_b => ?_
  simp at zz_b
  by_cases s_b : (swS swDelta b : Int) ≤ 1048576 - swDb a
  case neg =>
    rw [szv_neg (by omega)]; simp
    all_goals exact fun h => absurd h (by decide)
  rw [szv_pos s_b]
  simp [show ¬ (1048576 - swDb a : Int) - swS swDelta b < 0 by omega, show ¬ (1048576 - swDb a : Int) < swS swDelta b by omega, s_b]
  have hw_a := wbT_Db a
  have hw_b := wb_S_Delta b
  have hsz : ∀ y : Db, plDb y = plDb a → szDb (plDb y) := fun y h => by rw [h]; exact szDb_sw a (by omega)
  refine call_some (w_laws_toDatabase a k_a (by omega)) rfl (by simp) fun n1 hs1 r1 hn1 hm1 hp1 hr1 => ?_
  obtain ⟨y1, rfl, p1, k1, G1⟩ := hp1
  have u1 : ∀ g ∈ idsL (cDb y1), g < hs1 := fun g hg => hr1 g (by first | (rw [ids_agg]; exact hg) | (simpa only [V.ids, idsL_cS] using hg))
  simp at hn1
  have e1 : wtTDb y1 = wtTDb a := by rw [wtTDb_pl, wtTDb_pl, p1]
  simp [s7_14, cDb, cS, cI, cS]
  refine call_some (w_laws_toDeltaS b k_b (by omega)) rfl (by simp) fun n2 hs2 r2 hn2 hm2 hp2 hr2 => ?_
  obtain ⟨y2, rfl, p2, k2, G2⟩ := hp2
  have u2 : ∀ g ∈ idsL (cS cDelta y2), g < hs2 := fun g hg => hr2 g (by first | (rw [ids_agg]; exact hg) | (simpa only [V.ids, idsL_cS] using hg))
  simp at hn2
  have e2 : wtS wtDelta y2 = wtS wtDelta b := by rw [wt_S_Delta_pl, wt_S_Delta_pl, p2]
  simp [s7_14, cDb, cS, cI, cS]
  refine call_some (VC.track (VC.to (w_spec_ApplyBatch (plDb y1) (plS plDelta y2) (hsz _ p1) (okDb_strs k1) (okDeltas_st k2)) (show _ = V.tup [.agg ((eDb (batP (plDb a) (plS plDelta b))).map V.d), .d (.int .i64 (batN (plDb a) (plS plDelta b))), .d (.bool (batB (plDb a) (plS plDelta b)))] by rw [p1, p2])) (by simp [er_I, er_SI, er_Str, er_File, er_Tab, er_Db, er_Delta, er_Atom, er_VRel, eDb, plDb, cP, pS, plI]) (by simp [V.pn, pnVL])) rfl (by simp) fun n3 hs3 r3 hn3 hm3 hp3 hr3 => ?_
  obtain ⟨hq3, ht3⟩ := hp3
  obtain ⟨x30, x31, x32, rfl, q30, q31, q32, t30, t31, t32⟩ := rp_tup3 hq3 ht3
  obtain ⟨w0, rfl, pw0⟩ := rp_agg tk_Db q30 t30
  obtain rfl := rp_flat q31 rfl
  obtain rfl := rp_flat q32 rfl
  have uw0 : ∀ g ∈ idsL (cDb w0), g < hs3 := fun g hg => hr3 g (by simp only [V.ids, idsVL, ids_agg, idsVL_map_d, idsL_cS, List.mem_append] at hg ⊢; simp [hg])
  simp at hn3
  clear hr3
  simp [s7_14, cDb, cS, cI, cS]
  refine call_some (w_laws_toDatabase a k_a (by omega)) rfl (by simp) fun n4 hs4 r4 hn4 hm4 hp4 hr4 => ?_
  obtain ⟨y4, rfl, p4, k4, G4⟩ := hp4
  have u4 : ∀ g ∈ idsL (cDb y4), g < hs4 := fun g hg => hr4 g (by first | (rw [ids_agg]; exact hg) | (simpa only [V.ids, idsL_cS] using hg))
  simp at hn4
  have e4 : wtTDb y4 = wtTDb a := by rw [wtTDb_pl, wtTDb_pl, p4]
  simp [s7_14, cDb, cS, cI, cS]
  refine call_some (w_laws_toDeltaS b k_b (by omega)) rfl (by simp) fun n5 hs5 r5 hn5 hm5 hp5 hr5 => ?_
  obtain ⟨y5, rfl, p5, k5, G5⟩ := hp5
  have u5 : ∀ g ∈ idsL (cS cDelta y5), g < hs5 := fun g hg => hr5 g (by first | (rw [ids_agg]; exact hg) | (simpa only [V.ids, idsL_cS] using hg))
  simp at hn5
  have e5 : wtS wtDelta y5 = wtS wtDelta b := by rw [wt_S_Delta_pl, wt_S_Delta_pl, p5]
  simp [s7_14, cDb, cS, cI, cS]
  refine call_some (t_impl_ApplyBatch y4 y5 k4 k5 (hsz _ p4)) rfl (by simp) fun n6 hs6 r6 hn6 hm6 hp6 hr6 => ?_
  obtain ⟨g0, rfl, pg0, kg0, Gg0⟩ := hp6
  have ug0 : ∀ g ∈ idsL (cDb g0), g < hs6 := fun g hg => hr6 g (by simp only [V.ids, idsVL, ids_agg, idsVL_map_d, idsL_cS, List.mem_append] at hg ⊢; simp [hg])
  have lg0 := Gg0.lo
  simp only [p4] at pg0
  simp only [p5] at pg0
  simp at hn6
  simp [s7_14, cDb, cS, cI, cS, p4, p5]
  have hbg0 : 1 + (wtTDb g0 : Int) ≤ 4611686018427387904 := by
    rw [wtTDb_pl, pg0]
    have := wp_batP (plDb a) (plS plDelta b); have := wtTDb_pl a; omega
  refine call_pure (w_laws_eqDatabase g0 w0 kg0) rfl (by simp) rfl fun hs7 hh7 => ?_
  simp at hh7
  simp [s7_14, cDb, cS, cI, cS, pg0, pw0]
  refine call_some (w_laws_toDatabase a k_a (by omega)) rfl (by simp) fun n8 hs8 r8 hn8 hm8 hp8 hr8 => ?_
  obtain ⟨y8, rfl, p8, k8, G8⟩ := hp8
  have u8 : ∀ g ∈ idsL (cDb y8), g < hs8 := fun g hg => hr8 g (by first | (rw [ids_agg]; exact hg) | (simpa only [V.ids, idsL_cS] using hg))
  simp at hn8
  have e8 : wtTDb y8 = wtTDb a := by rw [wtTDb_pl, wtTDb_pl, p8]
  simp [s7_14, cDb, cS, cI, cS]
  refine call_pure (w_laws_eqDatabase y4 y8 k4) rfl (by simp) rfl fun hs9 hh9 => ?_
  simp at hh9
  simp [s7_14, cDb, cS, cI, cS, p4, p8]
  refine call_some (w_laws_toDeltaS b k_b (by omega)) rfl (by simp) fun n10 hs10 r10 hn10 hm10 hp10 hr10 => ?_
  obtain ⟨y10, rfl, p10, k10, G10⟩ := hp10
  have u10 : ∀ g ∈ idsL (cS cDelta y10), g < hs10 := fun g hg => hr10 g (by first | (rw [ids_agg]; exact hg) | (simpa only [V.ids, idsL_cS] using hg))
  simp at hn10
  have e10 : wtS wtDelta y10 = wtS wtDelta b := by rw [wt_S_Delta_pl, wt_S_Delta_pl, p10]
  simp [s7_14, cDb, cS, cI, cS]
  refine call_pure (w_laws_eqDeltaS y5 y10 k5) rfl (by simp) rfl fun hs11 hh11 => ?_
  simp at hh11
  simp [s7_14, cDb, cS, cI, cS, p5, p10]
  refine call_x (E15) (by simp) (by simp) (by simp) (fun q hq => .inl ?_) (w_laws_markDatabase y4 (1) (by omega) (by omega) G4.wh k4 G4.nd) fun n12 hs12 r12 cs12 ws12 hn12 hm12 hp12 hr12 hw12 => ?_
  · have := G4.lo q (by simpa only [idsL_cS] using hq)
    show B ≤ q
    omega
  obtain ⟨rfl, rfl⟩ := hp12
  simp at hn12
  have hre12 : reL (phi (idsL (cDb y4)) (cDb (mkTDb y4 (1)))) (cDb y4) = some (cDb (mkTDb y4 (1))) := re_sim (simT_Db G4.wh _) (marksTDb.ids _ _) G4.nd
  have ho12_a : reL (phi (idsL (cDb y4)) (cDb (mkTDb y4 (1)))) (cDb a) = some (cDb a) := re_same fun g hg h => by
    skip
    have h1 := G4.lo g (by simpa only [idsL_cS] using hg); have h2 := ua_a g h; omega
  have ho12_b : reL (phi (idsL (cDb y4)) (cDb (mkTDb y4 (1)))) (cS cDelta b) = some (cS cDelta b) := re_same fun g hg h => by
    skip
    have h1 := G4.lo g (by simpa only [idsL_cS] using hg); have h2 := ua_b g h; omega
  have ho12_w0 : reL (phi (idsL (cDb y4)) (cDb (mkTDb y4 (1)))) (cDb w0) = some (cDb w0) := re_same fun g hg h => by
    skip
    have h1 := G4.lo g (by simpa only [idsL_cS] using hg); have h2 := uw0 g h; omega
  have ho12_g0 : reL (phi (idsL (cDb y4)) (cDb (mkTDb y4 (1)))) (cDb g0) = some (cDb g0) := re_same fun g hg h => by
    skip
    have h1 := u4 g (by simpa only [idsL_cS] using hg); have h2 := lg0 g h; omega
  have ho12_y5 : reL (phi (idsL (cDb y4)) (cDb (mkTDb y4 (1)))) (cS cDelta y5) = some (cS cDelta y5) := re_same fun g hg h => by
    skip
    have h1 := u4 g (by simpa only [idsL_cS] using hg); have h2 := (G5.lo) g h; omega
  replace hre12 := reVL_map hre12
  replace ho12_a := reVL_map ho12_a
  replace ho12_b := reVL_map ho12_b
  replace ho12_w0 := reVL_map ho12_w0
  replace ho12_g0 := reVL_map ho12_g0
  replace ho12_y5 := reVL_map ho12_y5
  simp only [s7_14, cDb, cS, cI, cS, List.cons_append, List.nil_append, List.map_cons, List.map_nil, reVL_cons, reVL_nil, List.cons.injEq, and_true, reV_int, reV_str, true_and, mkTDb, mkTDelta, mkTReln, mkTTab] at hre12 ho12_a ho12_b ho12_w0 ho12_g0 ho12_y5
  simp [hre12, ho12_a, ho12_b, ho12_w0, ho12_g0, ho12_y5, s7_14, cDb, cS, cI, cS, mkTDb, mkTDelta, mkTReln, mkTTab, show ¬ (1 + wtTDb y4 : Int) < 0 by omega, show (0 : Int) ≤ 1 + wtTDb y4 by omega]
  refine call_x (E35) (by simp) (by simp) (by simp) (fun q hq => .inl ?_) (w_laws_markDeltaS y5 (1 + wtTDb y4) (by omega) (by omega) G5.wh k5 (by have := G5.nd; rwa [idsL_cS] at this)) fun n13 hs13 r13 cs13 ws13 hn13 hm13 hp13 hr13 hw13 => ?_
  · have := G5.lo q (by simpa only [idsL_cS] using hq)
    show B ≤ q
    omega
  obtain ⟨rfl, rfl⟩ := hp13
  simp at hn13
  have hre13 : reL (phi (dSl cDelta y5).ids [dSl cDelta (mkS (mkDelta) (wtDelta) y5 (1 + wtTDb y4))]) (cS cDelta y5) = some (cS cDelta (mkS (mkDelta) (wtDelta) y5 (1 + wtTDb y4))) := by
    have := re_sim (sim_mk marksDelta G5.wh (1 + wtTDb y4)) ((marksS marksDelta).ids _ _) (by rw [idsL_cS]; exact (by have := G5.nd; rwa [idsL_cS] at this))
    rw [idsL_cS] at this
    exact this
  have ho13_a : reL (phi (dSl cDelta y5).ids [dSl cDelta (mkS (mkDelta) (wtDelta) y5 (1 + wtTDb y4))]) (cDb a) = some (cDb a) := re_same fun g hg h => by
    skip
    have h1 := G5.lo g (by simpa only [idsL_cS] using hg); have h2 := ua_a g h; omega
  have ho13_b : reL (phi (dSl cDelta y5).ids [dSl cDelta (mkS (mkDelta) (wtDelta) y5 (1 + wtTDb y4))]) (cS cDelta b) = some (cS cDelta b) := re_same fun g hg h => by
    skip
    have h1 := G5.lo g (by simpa only [idsL_cS] using hg); have h2 := ua_b g h; omega
  have ho13_w0 : reL (phi (dSl cDelta y5).ids [dSl cDelta (mkS (mkDelta) (wtDelta) y5 (1 + wtTDb y4))]) (cDb w0) = some (cDb w0) := re_same fun g hg h => by
    skip
    have h1 := G5.lo g (by simpa only [idsL_cS] using hg); have h2 := uw0 g h; omega
  have ho13_g0 : reL (phi (dSl cDelta y5).ids [dSl cDelta (mkS (mkDelta) (wtDelta) y5 (1 + wtTDb y4))]) (cDb g0) = some (cDb g0) := re_same fun g hg h => by
    skip
    have h1 := u5 g (by simpa only [idsL_cS] using hg); have h2 := lg0 g h; omega
  have ho13_y4 : reL (phi (dSl cDelta y5).ids [dSl cDelta (mkS (mkDelta) (wtDelta) y5 (1 + wtTDb y4))]) (cDb (mkTDb y4 (1))) = some (cDb (mkTDb y4 (1))) := re_same fun g hg h => by
    rw [marksTDb.ids] at h
    have h1 := G5.lo g (by simpa only [idsL_cS] using hg); have h2 := u4 g h; omega
  replace hre13 := reVL_map hre13
  replace ho13_a := reVL_map ho13_a
  replace ho13_b := reVL_map ho13_b
  replace ho13_w0 := reVL_map ho13_w0
  replace ho13_g0 := reVL_map ho13_g0
  replace ho13_y4 := reVL_map ho13_y4
  simp only [s7_14, cDb, cS, cI, cS, List.cons_append, List.nil_append, List.map_cons, List.map_nil, reVL_cons, reVL_nil, List.cons.injEq, and_true, reV_int, reV_str, true_and, mkTDb, mkTDelta, mkTReln, mkTTab] at hre13 ho13_a ho13_b ho13_w0 ho13_g0 ho13_y4
  simp [hre13, ho13_a, ho13_b, ho13_w0, ho13_g0, ho13_y4, s7_14, cDb, cS, cI, cS, mkTDb, mkTDelta, mkTReln, mkTTab, show ¬ (1 + wtTDb y4 + wtS wtDelta y5 : Int) < 0 by omega, show (0 : Int) ≤ 1 + wtTDb y4 + wtS wtDelta y5 by omega]
  try simp [show ¬ (1 + wtTDb y4 + wtS wtDelta y5 : Int) < 0 by omega, show (0 : Int) ≤ 1 + wtTDb y4 + wtS wtDelta y5 by omega]
  refine call_pure (w_laws_eqDatabase g0 w0 kg0) rfl (by simp) rfl fun hs14 hh14 => ?_
  simp at hh14
  simp [s7_14, cDb, cS, cI, cS, pg0, pw0]
  refine call_x (E15) (by simp) (by simp) (by simp) (fun q hq => .inl ?_) (w_laws_markDatabase g0 (1) (by omega) (by omega) Gg0.wh kg0 Gg0.nd) fun n15 hs15 r15 cs15 ws15 hn15 hm15 hp15 hr15 hw15 => ?_
  · have := Gg0.lo q (by simpa only [idsL_cS] using hq)
    show B ≤ q
    omega
  obtain ⟨rfl, rfl⟩ := hp15
  simp at hn15
  have hre15 : reL (phi (idsL (cDb g0)) (cDb (mkTDb g0 (1)))) (cDb g0) = some (cDb (mkTDb g0 (1))) := re_sim (simT_Db Gg0.wh _) (marksTDb.ids _ _) Gg0.nd
  have ho15_a : reL (phi (idsL (cDb g0)) (cDb (mkTDb g0 (1)))) (cDb a) = some (cDb a) := re_same fun g hg h => by
    skip
    have h1 := Gg0.lo g (by simpa only [idsL_cS] using hg); have h2 := ua_a g h; omega
  have ho15_b : reL (phi (idsL (cDb g0)) (cDb (mkTDb g0 (1)))) (cS cDelta b) = some (cS cDelta b) := re_same fun g hg h => by
    skip
    have h1 := Gg0.lo g (by simpa only [idsL_cS] using hg); have h2 := ua_b g h; omega
  have ho15_w0 : reL (phi (idsL (cDb g0)) (cDb (mkTDb g0 (1)))) (cDb w0) = some (cDb w0) := re_same fun g hg h => by
    skip
    have h1 := Gg0.lo g (by simpa only [idsL_cS] using hg); have h2 := uw0 g h; omega
  have ho15_y4 : reL (phi (idsL (cDb g0)) (cDb (mkTDb g0 (1)))) (cDb (mkTDb y4 (1))) = some (cDb (mkTDb y4 (1))) := re_same fun g hg h => by
    rw [marksTDb.ids] at h
    have h1 := Gg0.lo g (by simpa only [idsL_cS] using hg); have h2 := u4 g h; omega
  have ho15_y5 : reL (phi (idsL (cDb g0)) (cDb (mkTDb g0 (1)))) (cS cDelta (mkS (mkDelta) (wtDelta) y5 (1 + wtTDb y4))) = some (cS cDelta (mkS (mkDelta) (wtDelta) y5 (1 + wtTDb y4))) := re_same fun g hg h => by
    rw [(marksS marksDelta).ids] at h
    have h1 := Gg0.lo g (by simpa only [idsL_cS] using hg); have h2 := u5 g h; omega
  replace hre15 := reVL_map hre15
  replace ho15_a := reVL_map ho15_a
  replace ho15_b := reVL_map ho15_b
  replace ho15_w0 := reVL_map ho15_w0
  replace ho15_y4 := reVL_map ho15_y4
  replace ho15_y5 := reVL_map ho15_y5
  simp only [s7_14, cDb, cS, cI, cS, List.cons_append, List.nil_append, List.map_cons, List.map_nil, reVL_cons, reVL_nil, List.cons.injEq, and_true, reV_int, reV_str, true_and, mkTDb, mkTDelta, mkTReln, mkTTab] at hre15 ho15_a ho15_b ho15_w0 ho15_y4 ho15_y5
  simp [hre15, ho15_a, ho15_b, ho15_w0, ho15_y4, ho15_y5, s7_14, cDb, cS, cI, cS, mkTDb, mkTDelta, mkTReln, mkTTab, show ¬ (1 + wtTDb g0 : Int) < 0 by omega, show (0 : Int) ≤ 1 + wtTDb g0 by omega]
  refine call_pure (w_laws_heldDatabase (mkTDb g0 (1)) (1) (by omega) (by rw [marksTDb.wt]; omega) (ok_mkTDb _ _ kg0)) rfl (by simp) rfl fun hs16 hh16 => ?_
  simp at hh16
  rw [marksTDb.hl, marksTDb.wt]
  simp [show ¬ (1 + wtTDb g0 : Int) < 0 by omega]
  refine call_some (w_laws_toDatabase a k_a (by omega)) rfl (by simp) fun n17 hs17 r17 hn17 hm17 hp17 hr17 => ?_
  obtain ⟨y17, rfl, p17, k17, G17⟩ := hp17
  have u17 : ∀ g ∈ idsL (cDb y17), g < hs17 := fun g hg => hr17 g (by first | (rw [ids_agg]; exact hg) | (simpa only [V.ids, idsL_cS] using hg))
  simp at hn17
  have e17 : wtTDb y17 = wtTDb a := by rw [wtTDb_pl, wtTDb_pl, p17]
  simp [s7_14, cDb, cS, cI, cS]
  refine call_some (w_laws_toDeltaS b k_b (by omega)) rfl (by simp) fun n18 hs18 r18 hn18 hm18 hp18 hr18 => ?_
  obtain ⟨y18, rfl, p18, k18, G18⟩ := hp18
  have u18 : ∀ g ∈ idsL (cS cDelta y18), g < hs18 := fun g hg => hr18 g (by first | (rw [ids_agg]; exact hg) | (simpa only [V.ids, idsL_cS] using hg))
  simp at hn18
  have e18 : wtS wtDelta y18 = wtS wtDelta b := by rw [wt_S_Delta_pl, wt_S_Delta_pl, p18]
  simp [s7_14, cDb, cS, cI, cS]
  refine call_some (t_impl_ApplyBatch y17 y18 k17 k18 (hsz _ p17)) rfl (by simp) fun n19 hs19 r19 hn19 hm19 hp19 hr19 => ?_
  obtain ⟨h0, rfl, ph0, kh0, Gh0⟩ := hp19
  have uh0 : ∀ g ∈ idsL (cDb h0), g < hs19 := fun g hg => hr19 g (by simp only [V.ids, idsVL, ids_agg, idsVL_map_d, idsL_cS, List.mem_append] at hg ⊢; simp [hg])
  have lh0 := Gh0.lo
  simp only [p17] at ph0
  simp only [p18] at ph0
  simp at hn19
  simp [s7_14, cDb, cS, cI, cS, p17, p18]
  refine call_pure (w_laws_eqDatabase h0 w0 kh0) rfl (by simp) rfl fun hs20 hh20 => ?_
  simp at hh20
  simp [s7_14, cDb, cS, cI, cS, ph0, pw0]
  refine call_pure (w_laws_heldDatabase (mkTDb g0 (1)) (1) (by omega) (by rw [marksTDb.wt]; omega) (ok_mkTDb _ _ kg0)) rfl (by simp) rfl fun hs21 hh21 => ?_
  simp at hh21
  rw [marksTDb.hl, marksTDb.wt]
  simp [show ¬ (1 + wtTDb g0 : Int) < 0 by omega]

end Go.Proofs.Ytfpohhabemnnfaa
