/-
  Q3B3: a part of a proof of this seat: the value-level semantics of Go code without maps, its walk rules, the frame of a row, facts of types, schedules, walks, plain lemmas (M11 M12 W10 X1 X2 X3 X4 X5 X6 F1 G1 Z1 Z2 Z3 Z4 Z5 Z6 J1 LDT). It holds of every program and state that its hypotheses name.
-/
import Derived.Test.YtmgphabeodaokaaGreatQ3B2
set_option linter.unusedSimpArgs false
set_option linter.unusedVariables false
set_option linter.unnecessarySimpa false
namespace Go.Proofs.YtmgphabeodaokaaGreat
open Go.Vs Go.Proofs Go
set_option maxRecDepth 100000
set_option maxHeartbeats 1000000
section
attribute [local simp] plI_id plStr_id map_plI map_plStr pS cP cI cStr cU8 cB
end
end Go.Proofs.YtmgphabeodaokaaGreat
namespace Go.Proofs.YtmgphabeodaokaaGreat
open Go.Vs Go.Proofs Go
set_option maxRecDepth 100000
set_option maxHeartbeats 1000000
section
attribute [local simp] plI_id plStr_id map_plI map_plStr
end
end Go.Proofs.YtmgphabeodaokaaGreat
namespace Go.Proofs.YtmgphabeodaokaaGreat
open Go.Vs Go.Proofs Go
set_option maxRecDepth 100000
set_option maxHeartbeats 1000000
section
attribute [local simp] plI_id plStr_id map_plI map_plStr
def abS : List PDelta -> PDb -> PView -> Option PView
  | [], _, v => some v
  | x :: r, d, v => if avB d v x then abS r (appP d x) (avP d v x) else none
structure AbI (v0 : PView) (d0 : PDb) (xs : List PDelta) (i : Nat) (c : PDb) (v : PView) : Prop where
  le : i <= xs.length
  ok : dbOk c = true
  q : v.q = v0.q
  r : cntsOk v.r = true
  eq : abS (xs.drop i) c v = abS xs d0 v0
theorem AbI.zero {v : PView} {d : PDb} {xs : List PDelta} (h1 : dbOk d = true) (h2 : ivB d v = true) : AbI v d xs 0 d v :=
  ⟨by omega, h1, rfl, by rw [<- (ivB_nv h2).2]; exact nvR_ok (ivB_nv h2).1, rfl⟩
theorem av_r {d : PDb} {v : PView} {x : PDelta} (h : avB d v x = true) : (avP d v x).q = v.q /\ cntsOk (avP d v x).r = true := by
  rw [avP, if_pos h]
  simp only [avB, Bool.and_eq_true] at h
  exact ⟨rfl, (addC_ok h.2).1⟩
theorem AbI.step {v0 v : PView} {d0 c : PDb} {xs : List PDelta} {i : Nat} (h : AbI v0 d0 xs i c v) (hi : i < xs.length) (hb : avB c v xs[i] = true) : AbI v0 d0 xs (i + 1) (appP c xs[i]) (avP c v xs[i]) := by
  refine ⟨hi, ?_, by rw [(av_r hb).1]; exact h.q, (av_r hb).2, ?_⟩
  · cases ha : appB c xs[i]
    · rw [app_no ha]; exact h.ok
    · exact app_ok ha
  · have := h.eq
    rw [List.drop_eq_getElem_cons hi, abS, if_pos hb] at this
    exact this
theorem AbI.bad {v0 v : PView} {d0 c : PDb} {xs : List PDelta} {i : Nat} (h : AbI v0 d0 xs i c v) (hi : i < xs.length) (hb : avB c v xs[i] = false) : abS xs d0 v0 = none := by
  have := h.eq
  rw [List.drop_eq_getElem_cons hi, abS, hb] at this
  exact this.symm
theorem AbI.done {v0 v : PView} {d0 c : PDb} {xs : List PDelta} {i : Nat} (h : AbI v0 d0 xs i c v) (hi : xs.length <= i) : abS xs d0 v0 = some v := by
  have := h.eq
  rw [List.drop_of_length_le hi, abS] at this
  exact this.symm
end
end Go.Proofs.YtmgphabeodaokaaGreat
namespace Go.Proofs.YtmgphabeodaokaaGreat
open Go.Vs Go.Proofs Go
set_option maxRecDepth 100000
set_option maxHeartbeats 1000000
section
attribute [local simp] plI_id plStr_id map_plI map_plStr pS cP cI
theorem e_impl_pick (row cols : List Int) (hb : cols.length <= 4294967296) (hc : ∀ c ∈ cols, 0 <= c /\ c < row.length) : VC Tryz.prog 44 [.d (pS cI row), .d (pS cI cols)]
   (fun n r => ∃ y : Ints, r = .d (dSl cI y) /\ y.xs = pickR cols row /\ okS okI y /\ Good (cS cI y) (whS whI y) n) := by
  refine VC.of E s44 (by kernel_rfl) Tryz.func44 (by rfl) (by kernel_rfl) (by simp [Tryz.f44]) (by simp [Tryz.f44]) s44_ok fun B => ?_
  simp [Tryz.f44, dSl]
  refine loop_rule (X := Nat) (fun i => i <= cols.length) (fun i => [(0, .d (.pl (row.map cI))), (5, .own 8 0 i), (9, .d (.pl (cols.map cI))), (10, .d (.int .i64 cols.length)), (11, .d (.int .i64 i))])
    (fun i => [(8, some (.row 3 1 ((pickR (cols.take i) row).map cI)))]) (fun i => cols.length - i) 0 (by simp) (by simp) (by simp [pickR]) ?_
  intro i hs t m hi hh
  by_cases hlt : i < cols.length
  · have hwi := wr1 (i := i) (by omega)
    have h1 := hc _ (List.getElem_mem hlt)
    have hst := pickR_step hlt hc
    obtain ⟨k, hk⟩ : ∃ k : Nat, cols[i] = (k : Int) := ⟨cols[i].toNat, by omega⟩
    have hkl : k < row.length := by omega
    have hL : LenOk 8 (i + 1) := ⟨by omega, by simp only [maxLen]; omega⟩
    have hpl : (pickR (cols.take i) row).length = i := by rw [pickR_len, List.length_take]; omega
    simp only [hk, Int.toNat_natCast] at hst
    simp [hlt, hk, hkl, hL, hwi, hpl, ]
    exact back (i + 1) (by omega) (by omega) rfl (by simp <;> omega) (by simp) (by simp [hst])
  · have hn : i = cols.length := by omega
    subst hn
    simp [List.take_of_length_le, pickR_len]
    intro γ hs' h2 hg
    obtain ⟨q1, q2⟩ := gam_at hg (k := 8) (T := 3) (sz := 1) (es := (pickR cols row).map cI) (by simp)
    have r1 := gam_row hg (k := 8) (T := 3) (sz := 1) (es := (pickR cols row).map cI) (by simp)
    clear hg
    refine ⟨⟨γ 8, some (3, 1), pickR cols row⟩, by simp [List.take_of_length_le, pickR_len], rfl, ⟨by simp only [maxLen, pickR_len]; omega, fun _ _ => trivial⟩, good_row (fun g hg => (q1 g hg).1) (by simpa using q2) r1 ⟨by simp, by simp⟩ (by simp [whI])⟩
end
section
attribute [local simp] plI_id plStr_id map_plI map_plStr
structure RaI (vs : List Int) (rl : List (List Int)) (B : Nat) (p : Nat × List Ints) (h : Nat) : Prop where
  le : p.1 <= rl.length
  pl : p.2.map (plS plI) = abL vs (rl.take p.1)
  ok : ∀ y ∈ p.2, okS okI y
  good : GoodL (cS cI) (whS whI) B h p.2
theorem RaI.zero {vs : List Int} {rl : List (List Int)} {B h : Nat} : RaI vs rl B (0, []) h := ⟨by simp, by simp [abL], by simp, GoodL.nil⟩
theorem RaI.skip {vs : List Int} {rl : List (List Int)} {B h h' i : Nat} {ys : List Ints} (H : RaI vs rl B (i, ys) h) (hi : i < rl.length) (hf : fitR vs rl[i] = false) (hh : h <= h') : RaI vs rl B (i + 1, ys) h' := by
  refine ⟨hi, ?_, H.ok, H.good.le hh⟩
  have := H.pl
  simp only at this ⊢
  rw [this, abL_succ hi, hf]; simp
theorem RaI.snoc {vs : List Int} {rl : List (List Int)} {B h m h' i : Nat} {ys : List Ints} {y : Ints} (H : RaI vs rl B (i, ys) h) (hi : i < rl.length) (hf : fitR vs rl[i] = true) (hy : y.xs = pickR (aVars vs) (valL vs rl[i])) (hok : okS okI y)
    (hb : B <= m /\ h <= m) (hm : m <= h') (G : Good (cS cI y) (whS whI y) m) (hr : ∀ g ∈ idsL (cS cI y), g < h') : RaI vs rl B (i + 1, ys ++ [y]) h' := by
  refine ⟨hi, ?_, fun z hz => ?_, GoodL.snoc H.good hb hm G hr⟩
  · have := H.pl
    simp only at this ⊢
    rw [List.map_append, this, abL_succ hi, hf]
    simp [plS, hy]
  · rcases List.mem_append.1 hz with h | h
    · exact H.ok z h
    · rw [List.mem_singleton.1 h]; exact hok
theorem e_impl_rowsOfAtom (a : PAtom) (rl : List (List Int)) (hv5 : a.vars.length <= 5) (hv : ∀ v ∈ a.vars, 0 <= v /\ v < 5) (hrl : ∀ t ∈ rl, t.length = a.vars.length) (hr16 : rl.length <= 1000) :
   VC Tryz.prog 38 [.agg ((eAtom a).map V.d), .d (pS (cP cI) rl)] (fun n r => ∃ y : Sl Ints, r = .d (dSl (cS cI) y) /\ plS (plS plI) y = abL a.vars rl /\ okS (okS okI) y /\ Good (cS (cS cI) y) (whS (whS whI) y) n /\ y.T = some (28, 1)) := by
  obtain ⟨nm, vs⟩ := a
  simp only at hv5 hv hrl
  have hav : (aVars vs).length <= 5 := aVars_len5 vs
  have hAVm : ∀ c ∈ aVars vs, 0 <= c /\ c < ((5 : Nat) : Int) := fun c hc => by
    have := (List.mem_filter.1 hc).1
    have := rangeI_mem.1 this
    omega
  refine VC.of E s38 (by kernel_rfl) Tryz.func38 (by rfl) (by kernel_rfl) (by simp [Tryz.f38]) (by simp [Tryz.f38]) s38_ok fun B => ?_
  simp [Tryz.f38, s38_11, eAtom, cStr, pS, cP, cI]
  refine call_p (w_impl_AtomVariables ⟨nm, vs⟩) (by simp [eAtom, cStr, pS, cP, cI]) fun hs1 hh1 hl1 => ?_
  simp at hh1
  obtain ⟨AV, hAV⟩ : ∃ AV, AV = aVars vs := ⟨_, rfl⟩
  rw [<- hAV] at hl1 hav hAVm ⊢
  simp [s38_11, pS, cP, cI]
  refine loop_ruleL (X := Nat × List Ints) (RaI vs rl B) (fun p => [(2, .ptr 2 0 0), (5, .d (.pl (AV.map cI))), (6, .own 59 0 p.2.length), (15, .d (.pl (rl.map (cP cI)))), (16, .d (.int .i64 rl.length)), (17, .d (.int .i64 p.1))])
    (fun p => [(2, some (.box [.d (.str nm), .d (.pl (vs.map cI))])), (59, some (.row 28 1 (p.2.map (cS cI))))]) (fun p => rl.length - p.1) ?_ ?_
  · refine (lead_slot 6 59 28 1 (by omega) (by omega) (by simp)).bind ?_
    rintro _ rfl
    exact Lead.of ⟨(0, []), .zero, rfl, rfl, Nat.le_refl _, by simp [cP, pS, cI], by simp [cI]⟩
  rintro ⟨i, ys⟩ hs t m hI hh
  have hle := hI.le
  have hyl : ys.length <= i := by
    have := congrArg List.length hI.pl
    rw [List.length_map] at this
    have h2 := abL_len vs (rl.take i)
    rw [List.length_take] at h2
    simp only at this
    omega
  simp only at hle
  by_cases hlt : i < rl.length
  · have hwi := wr1 (i := i) (by omega)
    obtain ⟨row, hrow⟩ : ∃ row, row = rl[i] := ⟨_, rfl⟩
    have hrvl : row.length = vs.length := by
      have := hrl _ (List.getElem_mem hlt)
      rw [<- hrow] at this; omega
    have hsk := fun hf => hI.skip (h' := hs) hlt hf (Nat.le_refl _)
    rw [<- hrow] at hsk
    have hL : LenOk 24 (ys.length + 1) := ⟨by omega, by simp only [maxLen]; omega⟩
    have L5 : LenOk 8 5 := ⟨by omega, by simp only [maxLen]; omega⟩
    refine anyQ2 fun Q => ?_
    simp [hlt, <- hrow, L5, s38_11, pS, cP, cI]
    refine loop_rule (X := Nat) (fun j => j <= vs.length) (fun j => [(2, .ptr 2 0 0), (5, .d (.pl (AV.map cI))), (6, .own 59 0 ys.length), (8, .d (.pl (row.map cI))), (9, .own 21 0 5), (10, .d (.bool (fitJ vs row j))), (15, .d (.pl (rl.map (cP cI)))), (16, .d (.int .i64 rl.length)), (17, .d (.int .i64 i)), (23, .d (.pl (vs.map cI))), (24, .d (.int .i64 vs.length)), (25, .d (.int .i64 j))])
      (fun j => [(2, some (.box [.d (.str nm), .d (.pl (vs.map cI))])), (21, some (.row 3 1 ((valJ vs row j).map cI))), (59, some (.row 28 1 (ys.map (cS cI))))]) (fun j => vs.length - j) 0 (by simp) (by simp [fitJ_zero, cP, pS, cI]) (by simp [valJ_zero, cI]) ?_
    intro j hs4 t m hj hh4
    by_cases hjl : j < vs.length
    · have hwj := wr1 (i := j) (by omega)
      have hjr : j < row.length := by omega
      have hvj := hv _ (List.getElem_mem hjl)
      obtain ⟨v, hve⟩ : ∃ v : Nat, vs[j] = (v : Int) := ⟨vs[j].toNat, by omega⟩
      have hv5' : v < 5 := by omega
      have hix := (idxL_mem (List.getElem_mem hjl)).1
      obtain ⟨p, hp⟩ : ∃ p : Nat, idxL vs (v : Int) = (p : Int) := by
        rw [<- hve]
        have := idxL_ge vs vs[j]
        have h2 : vs.contains vs[j] = true := by simp
        rw [h2] at this
        exact ⟨(idxL vs vs[j]).toNat, by have := of_decide_eq_true this; omega⟩
      have hpr : p < row.length := by rw [hve, hp] at hix; omega
      have hf := fitJ_succ vs row j
      have hvs := valJ_succ (vs := vs) (row := row) hjl hjr
      have hvl := valJ_len vs row j
      rw [getD_el _ hjl, getD_el _ hjr, lookV, hve, hp, Int.toNat_natCast, getD_el _ hpr] at hf
      rw [hve, Int.toNat_natCast] at hvs
      cases hfj : fitJ vs row j
      · rw [hfj] at hf
        simp [hjl, hve, hwj, hjr, hpr, hv5', hvl, -List.map_set, s38_11, pS, cP, cI]
        exact back (j + 1) (by omega) (by omega) rfl (by simp <;> omega) (by simp [hf, cP, pS, cI]) (by rw [hvs]; simp [cI])
      · rw [hfj] at hf
        simp [hjl, hve, hjr, s38_11, pS, cP, cI]
        repeat' apply And.intro
        all_goals
          refine call_f (w_impl_indexOf vs v) (by simp [pS, cI]) rfl fun hs5 hh5 => ?_
          simp at hh5
          rw [hp]
          simp [hwj, hjr, hpr, hv5', hvl, -List.map_set, s38_11, pS, cP, cI]
          exact back (j + 1) (by omega) (by omega) rfl (by simp <;> omega) (by simp [hf, cP, pS, cI]) (by rw [hvs]; simp [cI])
    · have hn : j = vs.length := by omega
      subst hn
      have hvl5 := valJ_len vs row vs.length
      rw [valJ_all hrvl] at hvl5
      rw [fitJ_all hrvl, valJ_all hrvl]
      cases hfr : fitR vs row
      · simp [hwi, s38_11, pS, cP, cI]
        have h2 := hsk hfr
        refine back2 (i + 1, ys) ⟨h2.le, h2.pl, h2.ok, h2.good.le (by simp <;> omega)⟩ (by simp only; omega) rfl (by simp <;> omega) (by simp [cP, pS, cI]) (by simp)
      · simp [hwi, s38_11, pS, cP, cI]
        refine call_own (by simp) (fun γ n hn hg => ⟨[.d (.sl (γ 21) (some (3, 1)) ((valL vs row).map cI)), .d (.pl (AV.map cI))], by simp [List.take_of_length_le, hvl5, hpLL_mapI], (e_impl_pick (valL vs row) AV (by omega) (fun c hc => by rw [hvl5]; exact hAVm c hc)).er (by simp [pS, cI, erLL_map er_cI])⟩) (by
          rintro n _ ⟨y, rfl, _, _, G⟩
          exact ⟨fun i hi => G.lo i (by rw [idsL_cS]; exact hi), by simp [V.hp, dSl, D.hp]⟩) fun n5 hs5 r5 hn5 hm5 hp5 hr5 => ?_
        obtain ⟨y, rfl, hy1, hy2, hy3⟩ := hp5
        simp at hn5
        have hr' : ∀ g ∈ idsL (cS cI y), g < hs5 := fun g hg => hr5 g (by rw [idsL_cS] at hg; exact hg)
        simp [hwi, hL, List.take_of_length_le, dSl, cS, s38_11, pS, cP, cI]
        refine back2 (i + 1, ys ++ [y]) (hI.snoc hlt (by rw [<- hrow]; exact hfr) (by rw [hy1, <- hrow, hAV]) hy2 (by omega) hm5 hy3 hr') (by simp only; omega) rfl (by simp <;> omega) (by simp [cP, pS, cI]) (by simp [cS, dSl])
  · have hall := hI.pl
    simp only at hall
    rw [List.take_of_length_le (by omega)] at hall
    simp [hlt, s38_11, ]
    intro γ hs' h1 hg
    obtain ⟨q1, q2⟩ := gam_at hg (k := 59) (T := 28) (sz := 1) (es := ys.map (cS cI)) (by simp)
    have q3 := gam_row hg (k := 59) (T := 28) (sz := 1) (es := ys.map (cS cI)) (by simp)
    clear hg
    have hp : hpLL (ys.map (cS cI)) = false := hpLL_mapS ys
    refine ⟨⟨γ 59, some (28, 1), ys⟩, by simp [dSl, List.take_of_length_le], by simpa [plS] using hall, ⟨by simp only [maxLen]; show ys.length <= _; omega, hI.ok⟩, good_row (fun g hg => (q1 g hg).1) (by simpa using q2) q3 ⟨hI.good.nd, hI.good.lo⟩ hI.good.wh, rfl⟩
theorem e_impl_rowsOfAtom0 (a : PAtom) (rl : List (List Int)) (hv5 : a.vars.length <= 5) (hv : ∀ v ∈ a.vars, 0 <= v /\ v < 5) (hrl : ∀ t ∈ rl, t.length = a.vars.length) (hr16 : rl.length <= 1000) (hE : abL a.vars rl = []) :
   VC Tryz.prog 38 [.agg ((eAtom a).map V.d), .d (pS (cP cI) rl)] (fun _ r => r = .d (.sl none none [])) := by
  obtain ⟨nm, vs⟩ := a
  simp only at hv5 hv hrl hE
  have hno : ∀ i (h : i < rl.length), fitR vs rl[i] = false := fun i h => by
    cases hf : fitR vs rl[i] with
    | false => rfl
    | true =>
      have h2 := abL_succ (vs := vs) h
      rw [hf] at h2
      have h3 : (abL vs (rl.take (i + 1))).length <= (abL vs rl).length := by
        rw [abL, abL, List.length_map, List.length_map]
        exact ((List.take_sublist (i + 1) rl).filter _).length_le
      rw [h2, hE] at h3
      simp at h3
  have hav : (aVars vs).length <= 5 := aVars_len5 vs
  have hAVm : ∀ c ∈ aVars vs, 0 <= c /\ c < ((5 : Nat) : Int) := fun c hc => by
    have := (List.mem_filter.1 hc).1
    have := rangeI_mem.1 this
    omega
  refine VC.of E s38 (by kernel_rfl) Tryz.func38 (by rfl) (by kernel_rfl) (by simp [Tryz.f38]) (by simp [Tryz.f38]) s38_ok fun B => ?_
  simp [Tryz.f38, s38_11, eAtom, cStr, pS, cP, cI]
  refine call_p (w_impl_AtomVariables ⟨nm, vs⟩) (by simp [eAtom, cStr, pS, cP, cI]) fun hs1 hh1 hl1 => ?_
  simp at hh1
  obtain ⟨AV, hAV⟩ : ∃ AV, AV = aVars vs := ⟨_, rfl⟩
  rw [<- hAV] at hl1 hav hAVm ⊢
  simp [s38_11, pS, cP, cI]
  refine loop_rule (X := Nat) (fun i => i <= rl.length) (fun i => [(2, .ptr 2 0 0), (5, .d (.pl (AV.map cI))), (6, .d (.sl none none [])), (15, .d (.pl (rl.map (cP cI)))), (16, .d (.int .i64 rl.length)), (17, .d (.int .i64 i))])
    (fun i => [(2, some (.box [.d (.str nm), .d (.pl (vs.map cI))]))]) (fun i => rl.length - i) 0 (by simp) (by simp [cP, pS, cI]) (by simp [cI]) ?_
  intro i hs t m hle hh
  by_cases hlt : i < rl.length
  · have hwi := wr1 (i := i) (by omega)
    obtain ⟨row, hrow⟩ : ∃ row, row = rl[i] := ⟨_, rfl⟩
    have hrvl : row.length = vs.length := by
      have := hrl _ (List.getElem_mem hlt)
      rw [<- hrow] at this; omega
    have hf0 := hno i hlt
    rw [<- hrow] at hf0
    have L5 : LenOk 8 5 := ⟨by omega, by simp only [maxLen]; omega⟩
    refine anyQ fun Q => ?_
    simp [hlt, <- hrow, L5, s38_11, pS, cP, cI]
    refine loop_rule (X := Nat) (fun j => j <= vs.length) (fun j => [(2, .ptr 2 0 0), (5, .d (.pl (AV.map cI))), (6, .d (.sl none none [])), (8, .d (.pl (row.map cI))), (9, .own 21 0 5), (10, .d (.bool (fitJ vs row j))), (15, .d (.pl (rl.map (cP cI)))), (16, .d (.int .i64 rl.length)), (17, .d (.int .i64 i)), (23, .d (.pl (vs.map cI))), (24, .d (.int .i64 vs.length)), (25, .d (.int .i64 j))])
      (fun j => [(2, some (.box [.d (.str nm), .d (.pl (vs.map cI))])), (21, some (.row 3 1 ((valJ vs row j).map cI)))]) (fun j => vs.length - j) 0 (by simp) (by simp [fitJ_zero, cP, pS, cI]) (by simp [valJ_zero, cI]) ?_
    intro j hs4 t m hj hh4
    by_cases hjl : j < vs.length
    · have hwj := wr1 (i := j) (by omega)
      have hjr : j < row.length := by omega
      have hvj := hv _ (List.getElem_mem hjl)
      obtain ⟨v, hve⟩ : ∃ v : Nat, vs[j] = (v : Int) := ⟨vs[j].toNat, by omega⟩
      have hv5' : v < 5 := by omega
      have hix := (idxL_mem (List.getElem_mem hjl)).1
      obtain ⟨p, hp⟩ : ∃ p : Nat, idxL vs (v : Int) = (p : Int) := by
        rw [<- hve]
        have := idxL_ge vs vs[j]
        have h2 : vs.contains vs[j] = true := by simp
        rw [h2] at this
        exact ⟨(idxL vs vs[j]).toNat, by have := of_decide_eq_true this; omega⟩
      have hpr : p < row.length := by rw [hve, hp] at hix; omega
      have hf := fitJ_succ vs row j
      have hvs := valJ_succ (vs := vs) (row := row) hjl hjr
      have hvl := valJ_len vs row j
      rw [getD_el _ hjl, getD_el _ hjr, lookV, hve, hp, Int.toNat_natCast, getD_el _ hpr] at hf
      rw [hve, Int.toNat_natCast] at hvs
      cases hfj : fitJ vs row j
      · rw [hfj] at hf
        simp [hjl, hve, hwj, hjr, hpr, hv5', hvl, -List.map_set, s38_11, pS, cP, cI]
        exact back (j + 1) (by omega) (by omega) rfl (by simp <;> omega) (by simp [hf, cP, pS, cI]) (by rw [hvs]; simp [cI])
      · rw [hfj] at hf
        simp [hjl, hve, hjr, s38_11, pS, cP, cI]
        repeat' apply And.intro
        all_goals
          refine call_f (w_impl_indexOf vs v) (by simp [pS, cI]) rfl fun hs5 hh5 => ?_
          simp at hh5
          rw [hp]
          simp [hwj, hjr, hpr, hv5', hvl, -List.map_set, s38_11, pS, cP, cI]
          exact back (j + 1) (by omega) (by omega) rfl (by simp <;> omega) (by simp [hf, cP, pS, cI]) (by rw [hvs]; simp [cI])
    · have hn : j = vs.length := by omega
      subst hn
      have hvl5 := valJ_len vs row vs.length
      rw [valJ_all hrvl] at hvl5
      rw [fitJ_all hrvl, valJ_all hrvl]
      rw [hf0]
      simp [hwi, s38_11, pS, cP, cI]
      exact back (i + 1) (by omega) (by omega) rfl (by simp <;> omega) (by simp [cP, pS, cI]) (by simp)
  · simp [hlt, s38_11, ]
theorem o_impl_rowsOfAtom (a : PAtom) (rl : List (List Int)) (hv5 : a.vars.length <= 5) (hv : ∀ v ∈ a.vars, 0 <= v /\ v < 5) (hrl : ∀ t ∈ rl, t.length = a.vars.length) (hr16 : rl.length <= 1000) :
   VC Tryz.prog 38 [.agg ((eAtom a).map V.d), .d (pS (cP cI) rl)] (fun n r => (r = .d (.sl none none []) /\ abL a.vars rl = []) \/ ∃ (g : Nat) (xs : List Ints), r = .d (.sl (some g) (some (28, 1)) (xs.map (cS cI))) /\ n <= g /\ g ∉ idsLL (xs.map (cS cI)) /\ xs.map (plS plI) = abL a.vars rl) := by
  by_cases hE : abL a.vars rl = []
  · exact (e_impl_rowsOfAtom0 a rl hv5 hv hrl hr16 hE).weak fun n r h => .inl ⟨h, hE⟩
  · refine (e_impl_rowsOfAtom a rl hv5 hv hrl hr16).weak fun n r h => .inr ?_
    obtain ⟨⟨yid, yT, ys⟩, rfl, p, k, G, hT⟩ := h
    simp only at hT
    subst hT
    have hy0 : ys ≠ [] := fun h => hE (by rw [<- p, h]; rfl)
    obtain ⟨g, rfl⟩ : ∃ g, yid = some g := by
      cases yid with
      | none => exact absurd (G.wh.1.nil rfl) hy0
      | some g => exact ⟨g, rfl⟩
    have hnd := G.nd
    rw [idsL_cS] at hnd
    exact ⟨g, ys, rfl, G.lo g (by rw [idsL_cS]; exact mem_sl_ids.2 (.inl rfl)), (sl_nd hnd).2 g rfl, p⟩
theorem p_impl_rowsOfAtom (a : PAtom) (rl : List (List Int)) (hv5 : a.vars.length <= 5) (hv : ∀ v ∈ a.vars, 0 <= v /\ v < 5) (hrl : ∀ t ∈ rl, t.length = a.vars.length) (hr16 : rl.length <= 1000) :
   VC Tryz.prog 38 [.agg ((eAtom a).map V.d), .d (pS (cP cI) rl)] (fun _ r => r = .d (pS (cP cI) (abL a.vars rl))) :=
  VC.plain (e_impl_rowsOfAtom a rl hv5 hv hrl hr16) (fun n r h => by
    obtain ⟨y, rfl, hp, _, _⟩ := h
    have e := er_cS (c := cS cI) (e := cP cI) (pl := plS plI) (fun s => er_cS er_cI s) y
    rw [hp] at e
    simp only [cS, cP, erL, List.cons.injEq, and_true] at e
    simp only [rp, e, pS]) (by rw [pS]; rfl)
end
end Go.Proofs.YtmgphabeodaokaaGreat
namespace Go.Proofs.YtmgphabeodaokaaGreat
open Go.Vs Go.Proofs Go
set_option maxRecDepth 100000
set_option maxHeartbeats 1000000
section
attribute [local simp] plI_id plStr_id map_plI map_plStr
theorem p_impl_NormalizeDelta (d : PDb) (x : PDelta) (hst : ∀ t ∈ d.tabs, t.name.length <= maxLen) (hnm : x.name.length <= maxLen) :
   VC Tryz.prog 36 [.agg ((eDb d).map V.d), .agg ((eDelta x).map V.d)] (fun _ v => v = .tup [.agg ((eDelta (norP d x)).map V.d), .d (.bool (fitB d x))]) := by
  refine VC.untrack (t_impl_NormalizeDelta ⟨nilS⟩ ⟨[], ⟨0, nilS⟩, ⟨0, nilS⟩⟩ ok_nilS ⟨by simp [okStr, maxLen], ⟨trivial, ok_nilS⟩, ⟨trivial, ok_nilS⟩⟩)
    (by have h1 := pn_agg (pn_eDb d); have h2 := pn_agg (pn_eDelta x); simp only [pnVL, Bool.and_true] at h1 h2 ⊢; rw [h1, h2]; rfl) fun As h1 h2 h3 => ?_
  obtain ⟨a, b, rfl, ⟨ha, ta, la⟩, hb, tb, lb⟩ := rp_args2 h1 h2 h3
  obtain ⟨s, rfl, e1⟩ := rp_agg tk_Db ha ta
  obtain ⟨t, rfl, e2⟩ := rp_agg tk_Delta hb tb
  have := VC.plain2 er_cDelta (t_impl_NormalizeDelta s t (okDb_ln (lnVL_d _ (by simpa only [V.ln] using la)) (by rw [e1]; exact hst)) (okDelta_ln (lnVL_d _ (by simpa only [V.ln] using lb)) (by rw [e2]; exact hnm)))
  rw [e1, e2] at this
  exact this
theorem w_impl_bit (b : Bool) : VC Tryz.prog 42 [.d (.bool b)] (fun _ r => r = .d (.int .i64 (if b then 1 else 0))) := by
  refine VC.ofL EP s42 (by kernel_rfl) Tryz.func42 (by rfl) (by kernel_rfl) (by simp [Tryz.f42]) (by simp [Tryz.f42]) s42_ok fun B hl => ?_
  cases b <;> simp [Tryz.f42, ]
end
end Go.Proofs.YtmgphabeodaokaaGreat
namespace Go.Proofs.YtmgphabeodaokaaGreat
open Go.Vs Go.Proofs Go
set_option maxRecDepth 100000
set_option maxHeartbeats 1000000
section
attribute [local simp] plI_id plStr_id map_plI map_plStr
structure AdT (b : PCnt) (P : List (List Int × Int)) (q : PQuery) (B : Nat) (p : (Nat × Cnt) × Sl Ints × Ints × Query × Nat) (h : Nat) : Prop where
  tal : TalI ⟨q.out.length, [], []⟩ b p.2.2.2.2 p.1 h
  lo : B <= p.2.2.2.2
  hi : p.2.2.2.2 <= h
  p1 : p.2.1.xs.map (plS plI) = P.map Prod.fst
  p2 : p.2.2.1.xs = P.map Prod.snd
  p3 : plQuery p.2.2.2.1 = q
  i1 : ∀ g ∈ (dSl (cS cI) p.2.1).ids, g < p.2.2.2.2
  i2 : ∀ g ∈ (dSl cI p.2.2.1).ids, g < p.2.2.2.2
  i3 : ∀ g ∈ idsL (cQuery p.2.2.2.1), g < p.2.2.2.2
theorem e_impl_AtomDelta (d : PDb) (q : PQuery) (x : PDelta) (k : Int) (hz : szDb d) (hst : ∀ t ∈ d.tabs, t.name.length <= maxLen) (hsq : ∀ a ∈ q.atoms, a.rel.length <= maxLen) (hnm : x.name.length <= maxLen) :
   VC Tryz.prog 8 [.agg ((eDb d).map V.d), .agg ((eQuery q).map V.d), .agg ((eDelta x).map V.d), .d (.int .i64 k)]
   (fun n r => ∃ y : Cnt, r = .tup [.agg ((cCnt y).map V.d), .d (.bool (adB d q x k))] /\ plCnt y = adP d q x k /\ okCnt y /\ Good (cCnt y) (whCnt y) n) := by
  have hde : ∀ d : PDb, (eDb d).map V.d = [V.d (.pl (d.tabs.map eTab))] := fun d => by simp [eDb, pS, cP]
  have hqe : (eQuery q).map V.d = [V.d (.int .i64 q.n), V.d (.pl (q.atoms.map eAtom)), V.d (.pl (q.out.map cI))] := by simp [eQuery, pS, cP, cI]
  have hxe : ∀ x : PDelta, (eDelta x).map V.d = [V.d (.str x.name), V.d (.int .i64 x.ins.ar), V.d (.pl (x.ins.rows.map (cP cI))), V.d (.int .i64 x.del.ar), V.d (.pl (x.del.rows.map (cP cI)))] := fun x => by simp [eDelta, eReln, cStr, pS, cP, cI]
  have hno : ∀ B : Nat, adB d q x k = false -> ∃ y : Cnt, ([V.d (D.int IntKind.i64 0), V.d (D.sl none none []), V.d (D.sl none none [])] = List.map V.d (cCnt y) /\ adB d q x k = false) /\ plCnt y = adP d q x k /\ okCnt y /\ Good (cCnt y) (whCnt y) B := fun B hn =>
    ⟨⟨0, nilS, nilS⟩, ⟨by simp [cCnt, nilS, cS, cI, dSl], hn⟩, by simp only [adP, hn]; rfl, ⟨trivial, ok_nilS, ok_nilS⟩, good_Cnt0 B⟩
  refine VC.of E s8 (by kernel_rfl) Tryz.func8 (by rfl) (by kernel_rfl) (by simp [Tryz.f8]) (by simp [Tryz.f8]) s8_ok fun B => ?_
  simp [Tryz.f8, s8_35, s8_44, hde, hqe, hxe]
  refine call_p (p_impl_ApplyDelta d x hz hst hnm) (by simp [hde, hxe]) fun hs1 hh1 hl1 => ?_
  simp at hh1
  cases h1 : appB d x
  · simp [hde, s8_35, s8_44, ]
    exact hno B (by simp [adB, adG, h1])
  simp [hde, s8_35, s8_44, ]
  refine call_f (w_impl_IsQueryFor d q) (by simp [hde, hqe]) rfl fun hs2 hh2 => ?_
  simp at hh2
  cases h2 : qryFor d q
  · simp [hde, s8_35, s8_44, ]
    exact hno B (by simp [adB, adG, h2])
  have f := qf_of h2
  have ha4 := f.a4
  have hw : IntKind.i64.wrap ((q.atoms.length : Int) - 1) = (q.atoms.length : Int) - 1 := wrap64_of (by omega) (by omega)
  simp [hde, hw, s8_35, s8_44, ]
  refine call_f (w_impl_within k 0 (q.atoms.length - 1)) (by simp) rfl fun hs3 hh3 => ?_
  simp at hh3
  cases h3 : inR k 0 ((q.atoms.length : Int) - 1)
  · simp [hde, s8_35, s8_44, ]
    exact hno B (by simp [adB, adG, h3])
  have hG : adG d q x k = true := by simp [adG, h1, h2, h3]
  have a := adG_ad hG
  have fe := a.qe
  have hk := adG_k hG
  obtain ⟨kn, rfl⟩ : ∃ kn : Nat, k = (kn : Int) := ⟨k.toNat, by omega⟩
  have hkt : (kn : Int).toNat = kn := rfl
  simp [hde, hxe, s8_35, s8_44, ]
  refine call_p (p_impl_NormalizeDelta d x hst hnm) (by simp [hde, hxe]) fun hs4 hh4 hl4 => ?_
  simp at hh4
  have nr := nor_of a.app
  obtain ⟨Y, hY⟩ : ∃ Y, Y = norP d x := ⟨_, rfl⟩
  obtain ⟨N, hN⟩ : ∃ N, N = appP d x := ⟨_, rfl⟩
  obtain ⟨J, hJ⟩ : ∃ J : Nat -> List Int × List (List Int × Int), ∀ i, J i = jdW ((adLs d N Y x.name kn q.atoms).take i) := ⟨_, fun _ => rfl⟩
  have hJ0 : J 0 = ([], [([], 1)]) := by rw [hJ]; rfl
  have hJl : ∀ i, (J i).1.length <= 5 /\ (∀ r ∈ (J i).2, r.1.length = (J i).1.length) /\ (J i).1.Pairwise (· < ·) /\ (∀ v ∈ (J i).1, 0 <= v /\ v < 5) := fun i => by rw [hJ, hN, hY]; exact jd_len5 a kn i
  have hJs : ∀ i, i <= q.atoms.length -> (J i).2.length <= 131072 := fun i hi => by rw [hJ, hN, hY]; exact jd_le a kn i hi
  have hJn : ∀ i (h : i < q.atoms.length), J (i + 1) = jdS (J i) (q.atoms[i].vars, adL d N Y x.name kn i q.atoms[i]) := fun i h => by
    rw [hJ, hJ, jdW_take (by simpa [adLs] using h)]
    simp [adLs]
  have hJS : ∀ i, Sg (J i).2 := fun i => by
    rw [hJ]
    exact sg_jdW _ (fun a ha => sg_adLs d N Y x.name kn _ a (List.mem_of_mem_take ha)) _ (sg_top [])
  rw [<- hY, <- hN]
  simp [hde, hxe, s8_35, s8_44, ]
  refine bs1 (k' := 64) (ks := []) (by rfl) (by simp) fun γ0 hs5 hh5 hg0 => ?_
  clear hg0
  simp at hh5
  simp [hde, hxe, s8_35, s8_44, ]
  refine loop_ruleL (X := Nat) (fun i _ => i <= q.atoms.length) (fun i => [(3, .d (.int .i64 kn)), (4, .ptr 4 0 0), (5, .ptr 5 0 0), (6, .ptr 6 0 0), (8, .ptr 8 0 0), (10, .ptr 10 0 0), (12, .ptr 12 0 0), (14, .d (.pl ((J i).1.map cI))), (15, .d (.pl (((J i).2.map Prod.fst).map (cP cI)))), (16, .d (.pl (((J i).2.map Prod.snd).map cI))), (68, .d (.pl (q.atoms.map eAtom))), (69, .d (.int .i64 q.atoms.length)), (70, .d (.int .i64 i))])
    (fun i => [(4, some (.box ((eDb d).map V.d))), (5, some (.box ((eQuery q).map V.d))), (6, some (.box ((eDelta x).map V.d))), (8, some (.box [.d (.int .i64 0), .d (.sl none none []), .d (.sl none none [])])), (10, some (.box ((eDb N).map V.d))), (12, some (.box ((eDelta Y).map V.d)))]) (fun i => q.atoms.length - i) ?_ ?_
  · refine (lead_frp 63 (T := 3) (sz := 1) (es := []) (by simp)).bind ?_
    rintro _ rfl
    refine (lead_frp 65 (T := 28) (sz := 1) (es := [[.sl (γ0 64) (some (3, 1)) []]]) (by simp)).bind ?_
    rintro _ rfl
    refine (lead_frp 66 (T := 3) (sz := 1) (es := [[.int .i64 1]]) (by simp)).bind ?_
    rintro _ rfl
    refine (lead_erp 15 (es := [[.sl (γ0 64) (some (3, 1)) []]]) (by simp)).bind ?_
    rintro _ rfl
    exact Lead.of ⟨0, by omega, rfl, rfl, Nat.le_refl _, by simp [hJ0, erLL, erL, D.er, cP, pS, cI], by simp [hde, hqe, hxe]⟩
  intro i hs t m hi hh
  by_cases hlt : i < q.atoms.length
  · have hwi := wr1 (i := i) (by omega)
    have hmem := List.getElem_mem hlt
    obtain ⟨⟨nm, vs⟩, ha⟩ : ∃ a, a = q.atoms[i] := ⟨_, rfl⟩
    have hn := hJn i hlt
    rw [<- ha] at hmem hn
    have hlk := f.lk _ hmem
    have har := f.ar _ hmem
    have hlke := fe.lk _ hmem
    have hare := fe.ar _ hmem
    have hvl := f.vlen _ hmem
    have hvi : ∀ v ∈ vs, 0 <= v /\ v < 5 := fun v hv => by have := f.vin _ hmem v hv; have := f.n5; omega
    rw [<- hN] at hlke hare
    have hAl := adL_len a kn i hmem
    have hlx := fun h => a.lenx hmem h
    rw [<- hN, <- hY] at hAl
    rw [<- hY] at hlx
    rw [adL_eq] at hn hAl
    simp only at hlk har hvl hlke hare hlx
    obtain ⟨A, hA⟩ : ∃ A, A = adA d N Y x.name kn i ⟨nm, vs⟩ := ⟨_, rfl⟩
    obtain ⟨M, hM⟩ : ∃ M, M = adN Y x.name kn i ⟨nm, vs⟩ := ⟨_, rfl⟩
    rw [<- hA, <- hM] at hn hAl
    rw [on_len] at hAl
    have hAl' : A.length + M.length <= 32 := by split at hAl <;> omega
    obtain ⟨BV, hBV⟩ : ∃ b, b = aVars vs := ⟨_, rfl⟩
    obtain ⟨⟨A1, P⟩, hAP⟩ : ∃ p, p = J i := ⟨_, rfl⟩
    obtain ⟨U, hU⟩ : ∃ u, u = uniL A1 BV := ⟨_, rfl⟩
    obtain ⟨L, hL⟩ : ∃ l, l = ones A ++ negs M := ⟨_, rfl⟩
    have hav := aVars_len5 vs
    obtain ⟨hl5, hrl, hpw, hr5⟩ := hJl i
    have hle := hJs i (by omega)
    have hsg := hJS i
    have huv := uniL_pw (aVars vs) hpw
    have hul := (hJl (i + 1)).1
    obtain ⟨AM, hAM⟩ : ∃ l, l = A ++ M := ⟨_, rfl⟩
    have hLL : L.length = AM.length := by rw [hAM, hL, on_len, List.length_append]
    have hL32 : L.length <= 32 := by rw [hLL, hAM, List.length_append]; exact hAl'
    have hLs : ∀ s ∈ AM, s.length = (aVars vs).length := fun s hs => by
      rw [hAM] at hs
      have := (ad_mt a kn i hmem).len
      rw [<- hN, <- hY, adL_eq, <- hA, <- hM] at this
      rw [<- on_fst] at hs
      obtain ⟨p, hp, rfl⟩ := List.mem_map.1 hs
      exact this p hp
    rw [hn] at hul
    simp only [jdS, <- hAP, <- hBV, <- hL, <- hU] at hn hl5 hrl hr5 hle hsg huv hul hav hLs ⊢
    have hcase : (i < kn) \/ (kn < i) \/ (i = kn /\ nm = x.name) \/ (i = kn /\ nm ≠ x.name) := by
      by_cases h1 : i < kn
      · exact .inl h1
      by_cases h2 : kn < i
      · exact .inr (.inl h2)
      by_cases h3 : nm = x.name
      · exact .inr (.inr (.inl ⟨by omega, h3⟩))
      · exact .inr (.inr (.inr ⟨by omega, h3⟩))
    refine anyQ2 fun Q => ?_
    rcases hcase with hc | hc | ⟨hc, hnm⟩ | ⟨hc, hnm⟩
    focus
      have eA : A = abR N ⟨nm, vs⟩ := by rw [hA, adA, if_pos hc]
      have eM : M = [] := by rw [hM, adN, if_pos hc]
      simp [hlt, <- ha, hc, hde, hqe, hxe, s8_35, s8_44, eAtom, cStr, pS, cP, cI]
      refine call_p (w_impl_AtomBindings N ⟨nm, vs⟩ hlke hare hvl.2 hvi) (by simp [hde, eAtom, cStr, pS, cP, cI]) fun hs6 hh6 hl6 => ?_
      simp at hh6
      rw [<- eA]
      simp [eReln, hde, hqe, hxe, s8_35, s8_44, eAtom, cStr, pS, cP, cI]
    rotate_left
    focus
      have eA : A = abR d ⟨nm, vs⟩ := by rw [hA, adA, if_neg (by omega), if_pos hc]
      have eM : M = [] := by rw [hM, adN, if_neg (by omega), if_pos hc]
      simp [hlt, <- ha, hc, show ¬ i < kn by omega, hde, hqe, hxe, s8_35, s8_44, eAtom, cStr, pS, cP, cI]
      refine call_p (w_impl_AtomBindings d ⟨nm, vs⟩ hlk har hvl.2 hvi) (by simp [hde, eAtom, cStr, pS, cP, cI]) fun hs6 hh6 hl6 => ?_
      simp at hh6
      rw [<- eA]
      simp [eReln, hde, hqe, hxe, s8_35, s8_44, eAtom, cStr, pS, cP, cI]
    rotate_left
    focus
      have hnq := eq_true hnm
      have eA : A = abL vs Y.ins.rows := by rw [hA, adA, if_neg (by omega), if_neg (by omega), if_pos hnm]
      have eM : M = abL vs Y.del.rows := by rw [hM, adN, if_neg (by omega), if_neg (by omega), if_pos hnm]
      have hx2 := hlx hnm
      have hi16 : Y.ins.rows.length <= 1000 := by have := nr.i16; rw [<- hY] at this; omega
      have hd16 : Y.del.rows.length <= 1000 := by have := nr.d16; rw [<- hY] at this; omega
      have hR1 := o_impl_rowsOfAtom ⟨nm, vs⟩ Y.ins.rows hvl.2 hvi (fun t ht => (hx2 t (.inl ht)).1) hi16
      have hR2 := p_impl_rowsOfAtom ⟨nm, vs⟩ Y.del.rows hvl.2 hvi (fun t ht => (hx2 t (.inr ht)).1) hd16
      simp only at hR1 hR2
      rw [<- eA] at hR1
      rw [<- eM] at hR2
      simp [hlt, <- ha, show ¬ i < kn by omega, show ¬ kn < i by omega, hnq, hde, hqe, hxe, s8_35, s8_44, eAtom, cStr, pS, cP, cI]
      refine call_o hR1 (by simp [eAtom, cStr, pS, cP, cI]) fun r7 n7 hs7 hn7 hm7 hp7 => ?_
      simp at hn7
      obtain ⟨E105, hd7, pE0, hEl, hE1⟩ : ∃ E : List (List D), ((r7 = .d (.sl none none []) /\ E = []) \/ ∃ g, r7 = .d (.sl (some g) (some (28, 1)) E) /\ n7 <= g /\ g ∉ idsLL E) /\ erLL E = A.map (cP cI) /\ E.length = A.length /\ ∀ l ∈ E, l.length = 1 := by
        rcases hp7 with ⟨rfl, hA0⟩ | ⟨g, xs, rfl, hg1, hg2, hp1⟩
        · exact ⟨[], .inl ⟨rfl, rfl⟩, by rw [hA0]; rfl, by simp [hA0], by simp⟩
        · exact ⟨_, .inr ⟨g, rfl, hg1, hg2⟩, by rw [erLL_map (er_cS er_cI), <- hp1, List.map_map], by rw [<- hp1]; simp, fun l hl => by
            obtain ⟨y, _, rfl⟩ := List.mem_map.1 hl; rfl⟩
      refine ⟨28, 1, E105, by omega, hd7, ?_⟩
      clear hd7
      simp [hde, hqe, hxe, s8_35, s8_44, eAtom, cStr, pS, cP, cI]
      refine call_p hR2 (by simp [eAtom, cStr, pS, cP, cI]) fun hs6 hh6 hl6 => ?_
      simp at hh6
      have hL2 : LenOk 24 (E105.length + M.length) := ⟨by omega, by simp only [maxLen]; omega⟩
      have pE : erLL (E105 ++ M.map (cP cI)) = (A ++ M).map (cP cI) := by
        rw [erLL_app, pE0, <- erLL_pl, List.map_append]
      have hL3 : LenOk 24 (A.length + M.length) := by rw [<- hEl]; exact hL2
      have hE2 : E105.length + M.length = (E105 ++ M.map (cP cI)).length := by rw [List.length_append, List.length_map]
      simp [hL2, hL3, hEl, hde, hqe, hxe, s8_35, s8_44, eAtom, cStr, pS, cP, cI]
    rotate_left
    focus
      have eA : A = [] := by rw [hA, adA, if_neg (by omega), if_neg (by omega), if_neg hnm]
      have eM : M = [] := by rw [hM, adN, if_neg (by omega), if_neg (by omega), if_neg hnm]
      have hNil4 := eA
      simp [hlt, <- ha, show ¬ i < kn by omega, show ¬ kn < i by omega, hnm, hde, hqe, hxe, s8_35, s8_44, eAtom, cStr, pS, cP, cI]
    all_goals
      refine call_p (w_impl_AtomVariables ⟨nm, vs⟩) (by simp [eAtom, cStr, pS, cP, cI]) fun hs8 hh8 hl8 => ?_
      simp at hh8
      rw [<- hBV]
      simp [hde, hqe, hxe, s8_35, s8_44, eAtom, cStr, pS, cP, cI]
      refine call_p (p_impl_unite A1 BV (by omega)) (by simp [pS, cI]) fun hs9 hh9 hl9 => ?_
      simp at hh9
      rw [<- hU]
      simp [hde, hqe, hxe, s8_35, s8_44, eAtom, cStr, pS, cP, cI]
      refine loop_ruleL (X := Nat) (fun k _ => k <= P.length) (fun k => [(3, .d (.int .i64 kn)), (4, .ptr 4 0 0), (5, .ptr 5 0 0), (6, .ptr 6 0 0), (8, .ptr 8 0 0), (10, .ptr 10 0 0), (12, .ptr 12 0 0), (14, .d (.pl (A1.map cI))), (16, .d (.pl ((P.map Prod.snd).map cI))), (18, .ptr 18 0 0), (19, .d (.pl (AM.map (cP cI)))), (20, .d (.int .i64 A.length)), (21, .d (.pl (U.map cI))), (22, .own 147 0 (joinW U A1 (P.take k) BV L).length), (23, .own 161 0 (joinW U A1 (P.take k) BV L).length), (68, .d (.pl (q.atoms.map eAtom))), (69, .d (.int .i64 q.atoms.length)), (70, .d (.int .i64 i)), (119, .d (.pl ((P.map Prod.fst).map (cP cI)))), (120, .d (.int .i64 P.length)), (121, .d (.int .i64 k))])
        (fun k => [(4, some (.box ((eDb d).map V.d))), (5, some (.box ((eQuery q).map V.d))), (6, some (.box ((eDelta x).map V.d))), (8, some (.box [.d (.int .i64 0), .d (.sl none none []), .d (.sl none none [])])), (10, some (.box ((eDb N).map V.d))), (12, some (.box ((eDelta Y).map V.d))), (18, some (.box [.d (.str nm), .d (.pl (vs.map cI))])), (147, some (.row 28 1 (((joinW U A1 (P.take k) BV L).map Prod.fst).map (cP cI)))), (161, some (.row 3 1 (((joinW U A1 (P.take k) BV L).map Prod.snd).map cI)))]) (fun k => P.length - k) ?_ ?_
      · refine (lead_slot 22 147 28 1 (by omega) (by omega) (by simp)).bind ?_
        rintro _ rfl
        refine (lead_slot 23 161 3 1 (by omega) (by omega) (by simp)).bind ?_
        rintro _ rfl
        first
          | (have _t := hEl
             refine (lead_frp 105 (T := 28) (sz := 1) (es := E105 ++ M.map (cP cI)) (by simp [cP, pS, cI])).bind ?_
             rintro _ rfl
             refine (lead_erp 19 (es := E105 ++ M.map (cP cI)) (by simp [hEl, List.take_of_length_le, cP, pS, cI])).bind ?_
             rintro _ rfl
             first
               | (have _t := hEl
                  exact Lead.of ⟨0, by omega, rfl, rfl, Nat.le_refl _, by simp [hAM, pE, joinW_nil, cP, pS, cI], by simp [joinW_nil, hde, hqe, hxe, s8_35, s8_44, eAtom, cStr, pS, cP, cI]⟩)
               | exact Lead.of ⟨0, by omega, rfl, rfl, Nat.le_refl _, by simp [hAM, pE, joinW_nil, cP, pS, cI], by simp [joinW_nil, hde, hqe, hxe, s8_35, s8_44, eAtom, cStr, pS, cP, cI]⟩)
          | (have _t := hNil4
             refine (lead_er 19 (x := .sl none none []) (by simp)).bind ?_
             rintro _ rfl
             exact Lead.of ⟨0, by omega, rfl, rfl, Nat.le_refl _, by simp [hAM, eA, eM, D.er, erLL, joinW_nil, cP, pS, cI], by simp [joinW_nil, hde, hqe, hxe, s8_35, s8_44, eAtom, cStr, pS, cP, cI]⟩)
          | exact Lead.of ⟨0, by omega, rfl, rfl, Nat.le_refl _, by simp [hAM, eM, joinW_nil, cP, pS, cI], by simp [joinW_nil, hde, hqe, hxe, s8_35, s8_44, eAtom, cStr, pS, cP, cI]⟩
      intro k hs10 t m hk hh10
      by_cases hkl : k < P.length
      · have hwk := wr1 (i := k) (by omega)
        have hrk := hrl _ (List.getElem_mem hkl)
        have hsk := hsg _ (List.getElem_mem hkl)
        have hz := jnW_zero U A1 P BV L k
        have hAA := jnW_all (u := U) (a := A1) (b := BV) (L := L) hkl
        obtain ⟨⟨r, rs⟩, hr⟩ : ∃ r, r = P[k] := ⟨_, rfl⟩
        rw [<- hr] at hrk hsk
        simp only at hrk hsk
        refine anyQ2 fun Q2 => ?_
        simp [hkl, <- hr, hde, hqe, hxe, s8_35, s8_44, eAtom, cStr, pS, cP, cI]
        refine loop_rule (X := Nat) (fun j => j <= L.length) (fun j => [(3, .d (.int .i64 kn)), (4, .ptr 4 0 0), (5, .ptr 5 0 0), (6, .ptr 6 0 0), (8, .ptr 8 0 0), (10, .ptr 10 0 0), (12, .ptr 12 0 0), (14, .d (.pl (A1.map cI))), (16, .d (.pl ((P.map Prod.snd).map cI))), (18, .ptr 18 0 0), (19, .d (.pl (AM.map (cP cI)))), (20, .d (.int .i64 A.length)), (21, .d (.pl (U.map cI))), (22, .own 147 0 (jnW U A1 P BV L k j).length), (23, .own 161 0 (jnW U A1 P BV L k j).length), (24, .d (.int .i64 k)), (25, .d (.pl (r.map cI))), (68, .d (.pl (q.atoms.map eAtom))), (69, .d (.int .i64 q.atoms.length)), (70, .d (.int .i64 i)), (119, .d (.pl ((P.map Prod.fst).map (cP cI)))), (120, .d (.int .i64 P.length)), (121, .d (.int .i64 k)), (126, .d (.pl (AM.map (cP cI)))), (127, .d (.int .i64 L.length)), (128, .d (.int .i64 j))])
          (fun j => [(4, some (.box ((eDb d).map V.d))), (5, some (.box ((eQuery q).map V.d))), (6, some (.box ((eDelta x).map V.d))), (8, some (.box [.d (.int .i64 0), .d (.sl none none []), .d (.sl none none [])])), (10, some (.box ((eDb N).map V.d))), (12, some (.box ((eDelta Y).map V.d))), (18, some (.box [.d (.str nm), .d (.pl (vs.map cI))])), (147, some (.row 28 1 (((jnW U A1 P BV L k j).map Prod.fst).map (cP cI)))), (161, some (.row 3 1 (((jnW U A1 P BV L k j).map Prod.snd).map cI)))]) (fun j => L.length - j) 0 (by simp) (by simp [hz, hLL, cP, pS, cI]) (by simp [hz, hde, hqe, hxe, s8_35, s8_44, eAtom, cStr, pS, cP, cI]) ?_
        intro j hs11 t m hj hh11
        by_cases hjl : j < L.length
        · have hwj := wr1 (i := j) (by omega)
          have hjA : j < AM.length := by omega
          have hsl := hLs _ (List.getElem_mem hjA)
          have hsu := jnW_succ (u := U) (a := A1) (b := BV) (L := L) hkl hjl
          have hog : L[j] = (AM[j], if j < A.length then 1 else -1) := by
            have := on_get (A := A) (N := M) (j := j) (by rw [on_len]; rw [hAM] at hjA; simpa using hjA)
            simp only [hL, hAM]; exact this
          rw [hog, <- hr] at hsu
          have hjle := jnW_len (u := U) (a := A1) (P := P) (b := BV) (L := L) (k := k) (j := j) hle hL32
          obtain ⟨s, hs'⟩ : ∃ s, s = AM[j] := ⟨_, rfl⟩
          rw [<- hs'] at hsl hsu
          obtain ⟨X, hX⟩ : ∃ x, x = jnW U A1 P BV L k j := ⟨_, rfl⟩
          rw [<- hX] at hsu hjle ⊢
          have hLo : LenOk 24 (X.length + 1) := ⟨by omega, by simp only [maxLen]; omega⟩
          have hLo8 : LenOk 8 (X.length + 1) := ⟨by omega, by simp only [maxLen]; omega⟩
          simp [hjl, hjA, <- hs', hde, hqe, hxe, s8_35, s8_44, eAtom, cStr, pS, cP, cI]
          refine call_p (w_impl_AtomVariables ⟨nm, vs⟩) (by simp [eAtom, cStr, pS, cP, cI]) fun hs12 hh12 hl12 => ?_
          simp at hh12
          rw [<- hBV]
          simp [hjl, hjA, <- hs', hde, hqe, hxe, s8_35, s8_44, eAtom, cStr, pS, cP, cI]
          refine call_p (w_impl_glue U A1 r BV s (by omega) (fun v hv => (huv.2 v).1 hv) hrk hsl) (by simp [pS, cI]) fun hs13 hh13 hl13 => ?_
          simp at hh13
          cases hg : glB U A1 r BV s
          · rw [hg] at hsu
            simp [hwj, hde, hqe, hxe, s8_35, s8_44, eAtom, cStr, pS, cP, cI]
            exact back (j + 1) (by omega) (by omega) rfl (by simp <;> omega) (by simp [hsu, cP, pS, cI]) (by simp [hsu, hde, hqe, hxe, s8_35, s8_44, eAtom, cStr, pS, cP, cI])
          · rw [hg] at hsu
            have hrs : (P.map Prod.snd)[k]'(by simpa using hkl) = rs := by simp [<- hr]
            simp [hwj, hLo, hLo8, hkl, <- hr, List.take_of_length_le, hde, hqe, hxe, s8_35, s8_44, eAtom, cStr, pS, cP, cI]
            repeat' apply And.intro
            all_goals
              refine call_f (w_impl_bit (decide (j < A.length))) (by simp) rfl fun hs14 hh14 => ?_
              simp at hh14
              have w0 : IntKind.i64.wrap 0 = 0 := by decide
              have w1 : IntKind.i64.wrap 1 = 1 := by decide
              have w2 : IntKind.i64.wrap 2 = 2 := by decide
              have wm : IntKind.i64.wrap (-1) = -1 := by decide
              rcases hsk with rfl | rfl <;> by_cases hjA2 : j < A.length
              all_goals
                simp [hjA2] at hsu
                simp [w0, w1, w2, wm, hjA2, hwj, hLo, hLo8, hkl, <- hr, List.take_of_length_le, hde, hqe, hxe, s8_35, s8_44, eAtom, cStr, pS, cP, cI]
                exact back (j + 1) (by omega) (by omega) rfl (by simp <;> omega) (by simp [hsu, cP, pS, cI]) (by simp [w0, w1, w2, wm, hsu, hde, hqe, hxe, cStr, pS, cP, cI])
        · have hn : j = L.length := by omega
          subst hn
          rw [hAA]
          simp [hwk, hde, hqe, hxe, s8_35, s8_44, eAtom, cStr, pS, cP, cI]
          exact back2 (k + 1) (by omega) (by omega) rfl (by simp <;> omega) (by simp [cP, pS, cI]) (by simp [hde, hqe, hxe, s8_35, s8_44, eAtom, cStr, pS, cP, cI])
      · have hn2 : k = P.length := by omega
        subst hn2
        rw [List.take_of_length_le (Nat.le_refl _)]
        simp [hwi, hde, hqe, hxe, s8_35, s8_44, eAtom, cStr, pS, cP, cI]
        refine Back2.lead (lead_frp 147 (T := 28) (sz := 1) (es := ((joinW U A1 P BV L).map Prod.fst).map (cP cI)) (by simp [cP, pS, cI])) ?_
        rintro _ rfl
        refine Back2.lead (lead_frp 161 (T := 3) (sz := 1) (es := ((joinW U A1 P BV L).map Prod.snd).map cI) (by simp)) ?_
        rintro _ rfl
        exact back2 (i + 1) (by omega) (by omega) rfl (by simp <;> omega) (by simp [hn, List.take_of_length_le, cP, pS, cI]) (by simp [hde, hqe, hxe, s8_35, s8_44, eAtom, cStr, pS, cP, cI])
  · have hn : i = q.atoms.length := by omega
    subst hn
    have hJa : (J q.atoms.length).2 = adJ d q x kn := by rw [hJ, hN, hY]; exact (adJ_all kn).symm
    obtain ⟨⟨A1, P⟩, hAP⟩ : ∃ p, p = J q.atoms.length := ⟨_, rfl⟩
    rw [<- hAP] at hJa ⊢
    simp only at hJa ⊢
    have hPl : P.length <= 131072 := by rw [hJa]; exact adJ_le a kn
    have ho := ad_out a
    have ho5 := f.out5
    obtain ⟨b, hb⟩ : ∃ b : PCnt, b = ⟨q.out.length, adX d q x kn, adC d q x kn⟩ := ⟨_, rfl⟩
    have hbl : b.rows.length = P.length := by rw [hb]; simp [adX, <- hJa]
    have hbc : b.cs = P.map Prod.snd := by rw [hb]; simp only [adC, <- hJa]
    have hbr : ∀ i (h : i < P.length), b.rows[i]'(by omega) = pickR q.out P[i].1 := fun i h => by subst hb; simp [adX, <- hJa]
    have hcs1 : ∀ c ∈ b.cs, -1000000 <= c /\ c <= 1000000 := fun c hc => by
      rw [hb] at hc
      have := sg_adC d q x kn c hc
      omega
    have hcl : b.cs.length = b.rows.length := by rw [hbc, hbl, List.length_map]
    have hfit : ∀ i (h : i < P.length), ∀ c ∈ q.out, 0 <= c /\ c < P[i].1.length := fun i h c hc => by
      have h1 := (ad_row a kn (z := P[i].1) (by rw [<- hJa]; exact List.mem_map_of_mem (List.getElem_mem h))).1
      have := ho.2 c hc
      omega
    have hrw : IntKind.i64.wrap (q.out.length : Int) = (q.out.length : Int) := wrap64_of (by omega) (by omega)
    simp [hde, hqe, hxe, s8_35, s8_44, eAtom, cStr, pS, cP, cI]
    refine loop_ruleL (X := (Nat × Cnt) × Sl Ints × Ints × Query × Nat) (AdT b P q B)
      (fun p => [(5, .ptr 5 0 0), (8, .ptr 8 0 0), (16, .d (dSl cI p.2.2.1)), (30, .ptr 30 0 0), (172, .d (dSl (cS cI) p.2.1)), (173, .d (.int .i64 P.length)), (174, .d (.int .i64 p.1.1))])
      (fun p => [(5, some (.box ((cQuery p.2.2.2.1).map V.d))), (8, some (.box [.d (.int .i64 0), .d (.sl none none []), .d (.sl none none [])])), (30, some (.box [.d (.int .i64 p.1.2.ar), .d (.sl p.1.2.rows.id p.1.2.rows.T (p.1.2.rows.xs.map (cS cI))), .d (.sl p.1.2.cs.id p.1.2.cs.T (p.1.2.cs.xs.map cI))]))]) (fun p => P.length - p.1.1) ?_ ?_
    · refine (lead_track 172 (x := pS (cP cI) (P.map Prod.fst)) (by simp [pS, cP, cI]) (pn_pS2 _)).bind ?_
      rintro _ ⟨y1, hs6, hh6, q1, t1, i1, rfl⟩
      refine (lead_track 16 (x := pS cI (P.map Prod.snd)) (by simp [pS, cI]) (pn_pS1 _)).bind ?_
      rintro _ ⟨y2, hs7, hh7, q2, t2, i2, rfl⟩
      refine (lead_trackB 5 (l := eQuery q) (by simp [hqe]) (by have := pn_agg (pn_eQuery q); simpa [pnVL, V.pn] using this)).bind ?_
      rintro _ ⟨y3, hs8, hh8, q3, t3, i3, rfl⟩
      obtain ⟨rw1, e1, p1⟩ := rp_sl (tk_S tk_I) (r := .d y1) (by rw [rp, q1]) (by simpa only [V.tk] using t1)
      obtain ⟨sg1, e2, p2⟩ := rp_sl tk_I (r := .d y2) (by rw [rp, q2]) (by simpa only [V.tk] using t2)
      obtain ⟨qy, rfl, p3⟩ := tk_Query y3 q t3 q3
      simp only [V.d.injEq] at e1 e2
      subst e1 e2
      simp at hh6 hh7 hh8
      exact Lead.of ⟨((0, ⟨q.out.length, nilS, nilS⟩), rw1, sg1, qy, hs8), ⟨⟨by simp, rfl, rfl, rfl, ⟨trivial, ok_nilS, ok_nilS⟩, ⟨by simp [cCnt, nilS, cS, cI, dSl, idsL, idsLL, D.ids], by simp [cCnt, nilS, cS, cI, dSl, idsL, idsLL, D.ids], (good_Cnt0 B).wh⟩, by simp [cCnt, nilS, cS, cI, dSl, idsL, idsLL, D.ids]⟩,
        by simp only; omega, Nat.le_refl _, p1, by simpa [plS, map_plI] using p2, p3, fun g hg => by have := i1 g hg; simp only; omega, fun g hg => by have := i2 g hg; simp only; omega, i3⟩, rfl, rfl, by simp; omega, by simp [hrw], by simp [nilS, dSl, hrw]⟩
    rintro ⟨⟨i, y⟩, rw1, sg1, qy, B2⟩ hs t m ⟨hI, hB2, hB3, p1, p2, p3, i1, i2, i3⟩ hh
    simp only at hI hB2 hB3 p1 p2 p3 i1 i2 i3
    have hi := hI.le
    simp only [hbl] at hi
    have hqy : (cQuery qy).map V.d = [V.d (.int .i64 qy.n), V.d (.sl qy.atoms.id qy.atoms.T (qy.atoms.xs.map cAtom)), V.d (.sl qy.out.id qy.out.T (qy.out.xs.map cI))] := by simp [cQuery, cS, cI, dSl]
    have hqo : qy.out.xs = q.out := by rw [<- p3]; simp [plQuery, plS, map_plI]
    obtain ⟨b1, b2, b3⟩ := hI.bd2 .nil rfl hcl (by simp) (by rw [hbl]; omega) (by simp) hcs1
    simp only at b1 b2 b3
    have hrl : rw1.xs.length = P.length := by
      have := congrArg List.length p1
      simpa only [List.length_map] using this
    have hsl : sg1.xs.length = P.length := by rw [p2, List.length_map]
    have har : y.ar = (q.out.length : Int) := hI.ar
    by_cases hlt : i < P.length
    · have hwi := wr1 (i := i) (by omega)
      have hltr : i < rw1.xs.length := by omega
      have hlts : i < sg1.xs.length := by omega
      have hri : rw1.xs[i].xs = P[i].1 := by
        have h1 : (rw1.xs.map (plS plI))[i]'(by simpa using hltr) = (P.map Prod.fst)[i]'(by simpa using hlt) := by simp only [p1]
        simpa [plS, map_plI] using h1
      have hsi : sg1.xs[i] = P[i].2 := by simp only [p2, List.getElem_map]
      have hfi := hfit i hlt
      have hbk : ∀ g ∈ (dSl cI y.cs).ids, B2 <= g := fun g hg => hI.good.lo g (by rw [cCnt, idsL_app, idsL_app, idsL_cS, idsL_cS]; simp [hg])
      have hpc := hJS q.atoms.length
      rw [<- hAP] at hpc
      have hsgn := hpc _ (List.getElem_mem hlt)
      obtain ⟨W, hW⟩ : ∃ W, W = (dSl cI y.cs).ids := ⟨_, rfl⟩
      rw [<- hW] at hbk
      have eW : ∀ (ws : List D) g, g < B2 -> phi W ws g = none := fun ws g hg => by
        simp only [phi]; rw [if_neg]; intro h; have := hbk g h; omega
      have e1 : ∀ ws, reV (phi W ws) (.d (.sl rw1.id rw1.T (rw1.xs.map (cS cI)))) = .d (.sl rw1.id rw1.T (rw1.xs.map (cS cI))) := fun ws => reV_id (.d (dSl (cS cI) rw1)) fun g hg => eW ws g (i1 g hg)
      have e2 : ∀ ws, reV (phi W ws) (.d (.sl sg1.id sg1.T (sg1.xs.map cI))) = .d (.sl sg1.id sg1.T (sg1.xs.map cI)) := fun ws => reV_id (.d (dSl cI sg1)) fun g hg => eW ws g (i2 g hg)
      have e3 : ∀ ws, reV (phi W ws) (.d (.sl qy.atoms.id qy.atoms.T (qy.atoms.xs.map cAtom))) = .d (.sl qy.atoms.id qy.atoms.T (qy.atoms.xs.map cAtom)) := fun ws => reV_id (.d (dSl cAtom qy.atoms)) fun g hg => eW ws g (i3 g (by
        have hg' : g ∈ (dSl cAtom qy.atoms).ids := hg
        rw [cQuery, idsL_app, idsL_app, idsL_cS, idsL_cS]; simp only [List.mem_append]; exact .inl (.inr hg')))
      have e4 : ∀ ws, reV (phi W ws) (.d (.sl qy.out.id qy.out.T (qy.out.xs.map cI))) = .d (.sl qy.out.id qy.out.T (qy.out.xs.map cI)) := fun ws => reV_id (.d (dSl cI qy.out)) fun g hg => eW ws g (i3 g (by
        have hg' : g ∈ (dSl cI qy.out).ids := hg
        rw [cQuery, idsL_app, idsL_app, idsL_cS, idsL_cS]; simp only [List.mem_append]; exact .inr hg'))
      refine anyQ2 fun Q => ?_
      simp [hlt, hltr, hlts, hde, hqe, hxe, hqy, s8_35, s8_44, eAtom, cStr, cS, cI, dSl]
      repeat' apply And.intro
      all_goals
        refine call_some (t_impl_pick rw1.xs[i] qy.out (by rw [hqo]; omega) (by rw [hqo, hri]; exact hfi)) (by simp [dSl]) (by simp) fun n2 hs2 r2 hn2 hm2 hp2 hr2 => ?_
        obtain ⟨w, rfl, pw, kw, Gw⟩ := hp2
        simp at hn2
        have hT := t_impl_tally y w sg1.xs[i] hI.ok kw hI.good.wh.2.2 hI.good.nd (by omega) b2 (by
          rw [pw, pickR_len, hqo]; omega) (by rw [hsi]; rcases hsgn with h | h <;> rw [h] <;> omega) b3
        rw [<- hW] at hT
        simp [hlt, hltr, hlts, hde, hqe, hxe, hqy, s8_35, s8_44, eAtom, cStr, cS, cI, dSl]
        repeat' apply And.intro
        all_goals
          refine call_b (k := 30) (E43) (by simp [dSl]) (by simp [cCnt, cS, cI, dSl]) (by simp) (by simp [cCnt, cS, cI, dSl]) (by simp) (by simp [cCnt, cS, cI, dSl]) (fun g hg => .inl (by have := hbk g hg; simp only; omega)) hT fun n3 hs3 r3 cs3 ws3 hn3 hm3 hp3 hr3 hv3 hw3 => ?_
          obtain ⟨rfl, z, rfl, pz, kz, _, Gz⟩ := hp3
          simp at hn3
          have u3 : ∀ g ∈ idsL (cCnt z), g < hs3 := fun g hg => hv3 g (by rw [idsVL_map_d]; exact hg)
          simp [cCnt, cS, cI, dSl, hwi, e1, e2, e3, e4, hqy, s8_35, s8_44, ]
          refine back2 ((i + 1, z), rw1, sg1, qy, B2) ⟨hI.step (m := n3) hcl (by omega) (by omega) ?_ kz (by omega) (by omega) Gz u3, hB2, by simp only; omega, p1, p2, p3, i1, i2, i3⟩ (by simp only; omega) rfl (by simp <;> omega) (by simp [dSl, e1, e2]) (by simp [hqy, e3, e4])
          rw [pz, hbr i hlt, pw, hri, hqo]
          simp [hbc, hsi]
    · obtain ⟨f1, f2⟩ := hI.fin (by omega) .nil rfl hcl
      have Gr : Good (cS (cS cI) y.rows) (whS (whS whI) y.rows) B := by
        have h1 := hI.good.nd
        rw [cCnt, idsL_app, idsL_app] at h1
        exact ⟨(List.nodup_append.1 (List.nodup_append.1 h1).1).2.1, fun g hg => Nat.le_trans hB2 (hI.good.lo g (by rw [cCnt, idsL_app, idsL_app]; simp [hg])), hI.good.wh.2.1⟩
      have hyl : y.rows.xs.length = (srtU (adX d q x kn)).length := by
        have := congrArg List.length f1
        simp only [plCnt, plS, List.length_map, List.nil_append] at this
        rw [this, hb]
      have hBk : adB d q x kn = decide ((srtU (adX d q x kn)).length <= 4000) := by
        rw [adB, hG, Bool.true_and]; rfl
      by_cases h4 : y.rows.xs.length <= 4000
      · have hB1 : adB d q x kn = true := by rw [hBk, <- hyl, decide_eq_true h4]
        simp [hlt, show ¬ (4000 : Int) < y.rows.xs.length by omega, hde, hqe, hxe, hqy, s8_35, s8_44, eAtom, cStr, cS, cI, dSl]
        refine call_some (t_impl_settled y hI.ok (by omega) b2) (by simp [cCnt, cS, cI, dSl]) (by simp) fun n4 hs4 r4 hn4 hm4 hp4 hr4 => ?_
        obtain ⟨z, rfl, pz, kz, Gz⟩ := hp4
        simp at hn4
        clear hr4
        have pz' : plCnt z = adP d q x kn := by
          rw [pz, f1, f2, adP, if_pos hB1, har]
          simp only [List.nil_append, hb, sumOf]; rfl
        simp [cCnt, cS, cI, dSl, s8_35, s8_44, ]
        exact ⟨z, ⟨by simp [cCnt, cS, cI, dSl], hB1⟩, pz', kz, Gz B (by omega) Gr⟩
      · have hB1 : adB d q x kn = false := by rw [hBk, <- hyl, decide_eq_false h4]
        simp [hlt, show (4000 : Int) < y.rows.xs.length by omega, hde, hqe, hxe, hqy, s8_35, s8_44, eAtom, cStr, cS, cI, dSl]
        exact hno B hB1
end
end Go.Proofs.YtmgphabeodaokaaGreat
namespace Go.Proofs.YtmgphabeodaokaaGreat
open Go.Vs Go.Proofs Go
set_option maxRecDepth 100000
set_option maxHeartbeats 1000000
@[simp] theorem start6 (a b c d e f : V) (B : Nat) : St.start [a, b, c, d, e, f] B = ⟨B, B, [], upd (upd (upd (upd (upd (upd (fun _ => .tup []) 5 f) 4 e) 3 d) 2 c) 1 b) 0 a, fun _ => none⟩ := by
  simp only [St.start, St.mk.injEq, true_and, and_true]
  funext i; match i with | 0 => rfl | 1 => rfl | 2 => rfl | 3 => rfl | 4 => rfl | 5 => rfl | _ + 6 => rfl
section
attribute [local simp] plI_id plStr_id map_plI map_plStr pS cP cI
theorem w_spec_l28Walk (q : PQuery) (RS : List (List (List Int))) (CS : List (List Int)) (nn : Nat) (H : WkOk q RS CS nn) : ∀ (k n : Nat) (row : List Int) (c : Int), n + k = q.atoms.length -> row.length = nn -> (c = 1 \/ c = -1) ->
   VC Tryz.prog 52 [.agg ((eQuery q).map V.d), .d (pS (cP (cP cI)) RS), .d (pS (cP cI) CS), .d (.int .i64 n), .d (pS cI row), .d (.int .i64 c)]
    (fun _ r => r = .tup [.d (pS (cP cI) ((walkW ((wAs q RS CS).drop n) row c).map Prod.fst)), .d (pS cI ((walkW ((wAs q RS CS).drop n) row c).map Prod.snd))]) := by
  have hqe : (eQuery q).map V.d = [V.d (.int .i64 q.n), V.d (.pl (q.atoms.map eAtom)), V.d (.pl (q.out.map cI))] := by simp [eQuery]
  intro k
  induction k with
  | zero =>
    intro n row c hn hrow hc
    have hn : n = q.atoms.length := by omega
    subst hn
    have hn5 := H.n5
    have hL : LenOk 8 row.length := ⟨by omega, by simp only [maxLen]; omega⟩
    have hd : (wAs q RS CS).drop q.atoms.length = [] := List.drop_of_length_le (by rw [wAs_len H]; exact Nat.le_refl _)
    rw [hd, walkW]
    clear hd
    refine VC.ofL EP s52 (by kernel_rfl) Tryz.func52 (by rfl) (by kernel_rfl) (by simp [Tryz.f52]) (by simp [Tryz.f52]) s52_ok fun B hl => ?_
    simp [Tryz.f52, s52_14, s52_17, hqe, hL, List.take_of_length_le]
  | succ k ih =>
    intro n row c hn hrow hc
    have hlt : n < q.atoms.length := by omega
    have hmem := List.getElem_mem hlt
    obtain ⟨⟨nm, vs⟩, ha⟩ : ∃ a, a = q.atoms[n] := ⟨_, rfl⟩
    rw [<- ha] at hmem
    have hn5 := H.n5
    have ha4 := H.a4
    have hRl := H.rl
    have hCl := H.cl
    have hvi := H.vs _ hmem
    have hne : ¬ n = q.atoms.length := by omega
    have hwn := wr1 (i := n) (by omega)
    obtain ⟨R, hR⟩ : ∃ R, R = RS[n]'(by omega) := ⟨_, rfl⟩
    obtain ⟨C, hC⟩ : ∃ C, C = CS[n]'(by omega) := ⟨_, rfl⟩
    have hlen := H.len n hlt
    have hsg := H.sg _ (List.getElem_mem (show n < CS.length by omega))
    have hdr := wAs_drop H hlt
    rw [<- ha, <- hR, <- hC] at hdr
    rw [<- ha, <- hR, <- hC] at hlen
    rw [<- hC] at hsg
    simp only at hlen hvi hdr
    have hd4 := wAs_d4 H (n + 1)
    have hds := wAs_dsm H (n + 1)
    rw [hdr, walkW_cons]
    simp only
    obtain ⟨AS, hAS⟩ : ∃ AS, AS = (wAs q RS CS).drop (n + 1) := ⟨_, rfl⟩
    rw [<- hAS] at hd4 hds ⊢
    have hzl : (R.zip C).length = R.length := by rw [List.length_zip]; omega
    have hnR : n < RS.length := by omega
    have hnC : n < CS.length := by omega
    refine VC.ofL EP s52 (by kernel_rfl) Tryz.func52 (by rfl) (by kernel_rfl) (by simp [Tryz.f52]) (by simp [Tryz.f52]) s52_ok fun B hl => ?_
    obtain ⟨G, hG⟩ : ∃ G : Nat -> List (List Int × Int), ∀ i, G i = ((R.zip C).take i).flatMap (wkW AS vs row c) := ⟨_, fun _ => rfl⟩
    have hG0 : G 0 = [] := by rw [hG]; rfl
    have hGs : ∀ i (h : i < R.length), G (i + 1) = G i ++ wkW AS vs row c (R[i], C[i]'(by omega)) := fun i h => by
      rw [hG, hG, flatMap_succ' (by rw [hzl]; exact h), zip_at h (by omega)]
    have hGe : (R.zip C).flatMap (wkW AS vs row c) = G R.length := by rw [hG, List.take_of_length_le (by rw [hzl]; exact Nat.le_refl _)]
    have hGl : ∀ i, (G i).length <= min i R.length * 1048576 := fun i => by
      have := wkW_all hd4 hds vs row c ((R.zip C).take i)
      rw [List.length_take, hzl] at this
      rw [hG]; exact this
    rw [hGe]
    simp [Tryz.f52, s52_14, s52_17, s52_14, s52_17, hqe, hlt, <- ha, hne]
    refine loop_rule (X := Nat) (fun i => i <= R.length) (fun i => [(1, .d (.pl (RS.map (cP (cP cI))))), (2, .d (.pl (CS.map (cP cI)))), (3, .d (.int .i64 n)), (4, .d (.pl (row.map cI))), (5, .d (.int .i64 c)), (6, .ptr 6 0 0), (14, .own 34 0 (G i).length), (15, .own 35 0 (G i).length), (16, .d (.int .i64 i))])
      (fun i => [(6, some (.box [.d (.int .i64 q.n), .d (.pl (q.atoms.map eAtom)), .d (.pl (q.out.map cI))])), (34, some (.row 28 1 (((G i).map Prod.fst).map (cP cI)))), (35, some (.row 3 1 (((G i).map Prod.snd).map cI)))]) (fun i => R.length - i) 0 (by simp) (by simp [hG0]) (by simp [hG0]) ?_
    intro i hs t m hi hh
    by_cases hil : i < R.length
    · have hwi := wr1 (i := i) (by omega)
      have hiC : i < C.length := by omega
      have htl := hlen.2.2 _ (List.getElem_mem hil)
      have hcc := hsg _ (List.getElem_mem hiC)
      obtain ⟨tt, ht⟩ : ∃ tt, tt = R[i] := ⟨_, rfl⟩
      obtain ⟨tc, htc⟩ : ∃ tc, tc = C[i] := ⟨_, rfl⟩
      have hsu := hGs i hil
      have hln := hGl i
      rw [<- ht] at htl hsu
      rw [<- htc] at hsu hcc
      obtain ⟨O, hO⟩ : ∃ O, O = G i := ⟨_, rfl⟩
      rw [<- hO] at hsu hln ⊢
      have hLr : LenOk 8 row.length := ⟨by omega, by simp only [maxLen]; omega⟩
      simp [hil, hLr, hnR, <- hR, List.take_of_length_le, s52_14, s52_17, ]
      refine loop_rule (X := Nat × List Int × Bool) (fun p => AsS row vs tt p.1 p.2.1 p.2.2) (fun p => [(1, .d (.pl (RS.map (cP (cP cI))))), (2, .d (.pl (CS.map (cP cI)))), (3, .d (.int .i64 n)), (4, .d (.pl (row.map cI))), (5, .d (.int .i64 c)), (6, .ptr 6 0 0), (14, .own 34 0 O.length), (15, .own 35 0 O.length), (16, .d (.int .i64 i)), (17, .own 45 0 row.length), (18, .d (.bool p.2.2)), (19, .d (.int .i64 p.1))])
        (fun p => [(6, some (.box [.d (.int .i64 q.n), .d (.pl (q.atoms.map eAtom)), .d (.pl (q.out.map cI))])), (34, some (.row 28 1 ((O.map Prod.fst).map (cP cI)))), (35, some (.row 3 1 ((O.map Prod.snd).map cI))), (45, some (.row 3 1 (p.2.1.map cI)))]) (fun p => vs.length - p.1) (0, row, true) .zero (by simp) (by simp) ?_
      rintro ⟨j, x, fits⟩ hs4 t m hA hh4
      simp only at hA
      have hle := hA.le
      have hxl := hA.len
      by_cases hcd : fits = true /\ j < vs.length
      · obtain ⟨rfl, hjl⟩ := hcd
        have hwj := wr1 (i := j) (by omega)
        have hvj := hvi.2 _ (List.getElem_mem hjl)
        have hjt : j < tt.length := by omega
        have hsp := hA.step hjl hjt
        obtain ⟨v, hv⟩ : ∃ v : Nat, vs[j] = (v : Int) := ⟨vs[j].toNat, by omega⟩
        have hvx : v < x.length := by omega
        rw [hv, Int.toNat_natCast, getD_el _ hvx] at hsp
        by_cases h1 : x[v] = -1
        · simp only [h1, true_or, decide_true] at hsp
          rw [hxl] at hvx
          simp [hjl, hv, h1, hlt, <- ha, <- ht, eAtom, cStr, hwj, hvx, hjt, hil, hxl, hnR, <- hR, -List.map_set, s52_14, s52_17, ]
          exact back (j + 1, x.set v tt[j], true) hsp (by simp only; omega) rfl (by simp <;> omega) (by simp) (by simp)
        · simp only [h1, false_or] at hsp
          rw [hxl] at hvx
          simp [hjl, hv, h1, hlt, <- ha, <- ht, eAtom, cStr, hwj, hvx, hjt, hil, hxl, hnR, <- hR, -List.map_set, s52_14, s52_17, ]
          exact back (j + 1, x.set v tt[j], decide (x[v] = tt[j])) hsp (by simp only; omega) rfl (by simp <;> omega) (by simp) (by simp)
      · have hdn := hA.done (fun h => Nat.le_of_not_lt fun h2 => hcd ⟨h, h2⟩)
        cases fits
        · by_cases hjl : j < vs.length
          · simp [hlt, <- ha, eAtom, cStr, hjl, hwi, s52_14, s52_17, ]
            exact back (i + 1) (by omega) (by omega) rfl (by simp <;> omega) (by simp [hsu, wkW, hdn]) (by simp [hsu, wkW, hdn])
          · simp [hlt, <- ha, eAtom, cStr, hjl, hwi, s52_14, s52_17, ]
            exact back (i + 1) (by omega) (by omega) rfl (by simp <;> omega) (by simp [hsu, wkW, hdn]) (by simp [hsu, wkW, hdn])
        · have hjl : ¬ j < vs.length := fun h => hcd ⟨rfl, h⟩
          have hwc : IntKind.i64.wrap (c * tc) = c * tc := by
            rcases hc with rfl | rfl <;> rcases hcc with rfl | rfl <;> decide
          have hx2 : (x.map cI).take row.length = x.map cI := List.take_of_length_le (by simp [hxl])
          have hwl := wkW_le hd4 hds vs row c (tt, tc)
          rw [if_pos rfl] at hdn
          have hwe : wkW AS vs row c (tt, tc) = walkW AS x (c * tc) := by rw [wkW, hdn]
          rw [hwe] at hsu hwl
          obtain ⟨WW, hWW⟩ : ∃ w, w = walkW AS x (c * tc) := ⟨_, rfl⟩
          obtain ⟨F1, hF1⟩ : ∃ w, w = WW.map Prod.fst := ⟨_, rfl⟩
          obtain ⟨F2, hF2⟩ : ∃ w, w = WW.map Prod.snd := ⟨_, rfl⟩
          rw [<- hWW] at hsu hwl
          have hf1 : F1.length = WW.length := by rw [hF1, List.length_map]
          have hf2 : F2.length = WW.length := by rw [hF2, List.length_map]
          have hLw : LenOk 24 (O.length + WW.length) := ⟨by omega, by simp only [maxLen]; omega⟩
          have hLw8 : LenOk 8 (O.length + WW.length) := ⟨by omega, by simp only [maxLen]; omega⟩
          have hih := ih (n + 1) x (c * tc) (by omega) (by omega) (sg_mul hc hcc)
          rw [<- hAS, <- hWW, <- hF1, <- hF2] at hih
          simp [hlt, <- ha, eAtom, cStr, hjl, hwi, hwn, hwc, hnC, <- hC, hiC, <- htc, s52_14, s52_17, ]
          repeat' apply And.intro
          all_goals
            refine call_p hih (by simp [hqe, hx2, show row.length <= x.length by omega]) fun hs5 hh5 hl5 => ?_
            simp at hh5
            simp [hwi, hf1, hf2, hLw, hLw8, s52_14, s52_17, ]
            repeat' apply And.intro
            all_goals exact back (i + 1) (by omega) (by omega) rfl (by simp <;> omega) (by simp [hsu]) (by simp [hsu, hF1, hF2, List.take_of_length_le])
    · have hn : i = R.length := by omega
      subst hn
      obtain ⟨O, hO⟩ : ∃ O, O = G R.length := ⟨_, rfl⟩
      rw [<- hO]
      simp [hil, hnR, <- hR, List.take_of_length_le, s52_14, s52_17, ]
end
end Go.Proofs.YtmgphabeodaokaaGreat
namespace Go.Proofs.YtmgphabeodaokaaGreat
open Go.Vs Go.Proofs Go
set_option maxRecDepth 100000
set_option maxHeartbeats 1000000
theorem mapT {α β : Type} (f : α -> β) {l : List α} {i : Nat} {x : α} (h : l.take (i + 1) = l.take i ++ [x]) : (l.map f).take (i + 1) = (l.map f).take i ++ [f x] := by
  rw [<- List.map_take, h, List.map_append, List.map_take]; rfl
theorem erLL_cP {α : Type} (c : α -> List D) : ∀ l : List (List α), erLL (l.map (cP c)) = l.map (cP c)
  | [] => rfl
  | x :: l => by
    have := erLL_cP c l
    simp only [List.map_cons, erLL]
    rw [this]; rfl
theorem erLL_tk {α : Type} (c : α -> List D) (l : List (List α)) (i : Nat) : erLL ((l.map (cP c)).take i) = (l.map (cP c)).take i := by
  rw [<- List.map_take]; exact erLL_cP c _
section
attribute [local simp] plI_id plStr_id map_plI map_plStr pS cP cI
theorem w_spec_AtomDelta (d : PDb) (q : PQuery) (x : PDelta) (k : Int) (hz : szDb d) (hst : ∀ t ∈ d.tabs, t.name.length <= maxLen) (hsq : ∀ a ∈ q.atoms, a.rel.length <= maxLen) (hnm : x.name.length <= maxLen) :
   VC Tryz.prog 9 [.agg ((eDb d).map V.d), .agg ((eQuery q).map V.d), .agg ((eDelta x).map V.d), .d (.int .i64 k)] (fun _ r => r = .tup [.agg ((eCnt (adP d q x k)).map V.d), .d (.bool (adB d q x k))]) := by
  have hde : ∀ d : PDb, (eDb d).map V.d = [V.d (.pl (d.tabs.map eTab))] := fun d => by simp [eDb]
  have hqe : (eQuery q).map V.d = [V.d (.int .i64 q.n), V.d (.pl (q.atoms.map eAtom)), V.d (.pl (q.out.map cI))] := by simp [eQuery]
  have hxe : ∀ x : PDelta, (eDelta x).map V.d = [V.d (.str x.name), V.d (.int .i64 x.ins.ar), V.d (.pl (x.ins.rows.map (cP cI))), V.d (.int .i64 x.del.ar), V.d (.pl (x.del.rows.map (cP cI)))] := fun x => by simp [eDelta, eReln, cStr]
  have hno : adB d q x k = false -> adP d q x k = ⟨0, [], []⟩ := fun h => by simp [adP, h]
  have hst2 := app_strs (x := x) hst
  refine VC.ofL EP s9 (by kernel_rfl) Tryz.func9 (by rfl) (by kernel_rfl) (by simp [Tryz.f9]) (by simp [Tryz.f9]) s9_ok fun B hl => ?_
  simp [Tryz.f9, s9_10, s9_12, s9_16, s9_19, s9_30, hde, hqe, hxe]
  refine call_p (w_spec_ApplyDelta d x hz hst hnm) (by simp [hde, hxe]) fun hs1 hh1 hl1 => ?_
  simp at hh1
  simp [hde, hqe, hxe, s9_10, s9_12, s9_16, s9_19, s9_30, ]
  refine call_p (w_spec_NormalizeDelta d x hst) (by simp [hde, hxe]) fun hs2 hh2 hl2 => ?_
  simp at hh2
  cases h1 : appB d x
  · have hn : adB d q x k = false := by simp [adB, adG, h1]
    simp [hn, hno hn, hde, hqe, hxe, eCnt, s9_10, s9_12, s9_16, s9_19, s9_30, ]
  simp [hde, hqe, hxe, s9_10, s9_12, s9_16, s9_19, s9_30, ]
  refine call_f (w_spec_IsQueryFor d q hst hsq) (by simp [hde, hqe]) rfl fun hs3 hh3 => ?_
  simp at hh3
  cases h2 : qryFor d q
  · have hn : adB d q x k = false := by simp [adB, adG, h2]
    simp [hn, hno hn, hde, hqe, hxe, eCnt, s9_10, s9_12, s9_16, s9_19, s9_30, ]
  have f := qf_of h2
  have ha4 := f.a4
  have h2e : qryFor (appP d x) q = true := by rw [qf_app f.dok h1]; exact h2
  simp [hde, hqe, hxe, s9_10, s9_12, s9_16, s9_19, s9_30, ]
  refine call_f (w_spec_IsQueryFor (appP d x) q hst2 hsq) (by simp [hde, hqe]) rfl fun hs4 hh4 => ?_
  simp at hh4
  rw [h2e]
  have hw : IntKind.i64.wrap ((q.atoms.length : Int) - 1) = (q.atoms.length : Int) - 1 := wrap64_of (by omega) (by omega)
  simp [hde, hqe, hxe, hw, s9_10, s9_12, s9_16, s9_19, s9_30, ]
  refine call_f (w_spec_l1In k 0 (q.atoms.length - 1)) (by simp) rfl fun hs5 hh5 => ?_
  simp at hh5
  cases h3 : inR k 0 ((q.atoms.length : Int) - 1)
  · have hn : adB d q x k = false := by simp [adB, adG, h3]
    simp [hn, hno hn, hde, hqe, hxe, eCnt, s9_10, s9_12, s9_16, s9_19, s9_30, ]
  have hG : adG d q x k = true := by simp [adG, h1, h2, h3]
  have a := adG_ad hG
  have fe := a.qe
  have hk := adG_k hG
  have href := ad_ref hG
  obtain ⟨kn, rfl⟩ : ∃ kn : Nat, k = (kn : Int) := ⟨k.toNat, by omega⟩
  rw [show ((kn : Int)).toNat = kn from rfl] at href
  have hWk := ad_wk a kn
  have hwA := ad_wAs d (appP d x) (norP d x) x.name kn q
  obtain ⟨Y, hY⟩ : ∃ Y, Y = norP d x := ⟨_, rfl⟩
  obtain ⟨N, hN⟩ : ∃ N, N = appP d x := ⟨_, rfl⟩
  obtain ⟨RS, hRS⟩ : ∃ RS, RS = adRS d N Y x.name kn q.atoms := ⟨_, rfl⟩
  obtain ⟨CS, hCS⟩ : ∃ CS, CS = adCS d N Y x.name kn q.atoms := ⟨_, rfl⟩
  have hRl : RS.length = q.atoms.length := by rw [hRS]; exact adRS_len _ _ _ _ _ _
  have hCl : CS.length = q.atoms.length := by rw [hCS]; exact adCS_len _ _ _ _ _ _
  have hRn : ∀ i (h : i < q.atoms.length), RS.take (i + 1) = RS.take i ++ [(adT d N Y x.name kn i q.atoms[i]).map Prod.fst] := fun i h => by rw [hRS]; exact adRS_succ h
  have hCn : ∀ i (h : i < q.atoms.length), CS.take (i + 1) = CS.take i ++ [(adT d N Y x.name kn i q.atoms[i]).map Prod.snd] := fun i h => by rw [hCS]; exact adCS_succ h
  have hno2 := nor_of a.app
  have hzz := ad_z a.app
  rw [<- hN, <- hY, <- hRS, <- hCS] at hWk hwA
  rw [<- hN] at hst2 h2e
  rw [<- hY] at hzz
  rw [<- hY, <- hN]
  simp [hde, hqe, hxe, s9_10, s9_12, s9_16, s9_19, s9_30, ]
  refine loop_ruleL (X := Nat) (fun i _ => i <= q.atoms.length) (fun i => [(3, .d (.int .i64 kn)), (4, .ptr 4 0 0), (5, .ptr 5 0 0), (6, .ptr 6 0 0), (8, .ptr 8 0 0), (10, .ptr 10 0 0), (12, .ptr 12 0 0), (14, .own 68 0 i), (15, .own 69 0 i), (16, .d (.int .i64 i))])
    (fun i => [(4, some (.box ((eDb d).map V.d))), (5, some (.box ((eQuery q).map V.d))), (6, some (.box ((eDelta x).map V.d))), (8, some (.box [.d (.int .i64 0), .d (.sl none none []), .d (.sl none none [])])), (10, some (.box ((eDb N).map V.d))), (12, some (.box ((eDelta Y).map V.d))),
      (68, some (.row 31 1 ((RS.take i).map (cP (cP cI))))), (69, some (.row 28 1 ((CS.take i).map (cP cI))))]) (fun i => q.atoms.length - i) ?_ ?_
  · exact Lead.of ⟨0, by omega, rfl, rfl, Nat.le_refl _, by simp, by simp [hde, hqe, hxe]⟩
  intro i hs t m hi hh
  by_cases hlt : i < q.atoms.length
  · have hwi := wr1 (i := i) (by omega)
    have hmem := List.getElem_mem hlt
    obtain ⟨⟨nm, vs⟩, ha⟩ : ∃ a, a = q.atoms[i] := ⟨_, rfl⟩
    have hRi := hRn i hlt
    have hCi := hCn i hlt
    rw [<- ha] at hmem hRi hCi
    have hlk := f.lk _ hmem
    have hlke := fe.lk _ hmem
    rw [<- hN] at hlke
    simp only at hlk hlke
    have hok := lk_ok hlk
    have hoke := lk_ok hlke
    have hcd := cnt_of hok
    have hce := cnt_of hoke
    have hLo : LenOk 24 (i + 1) := ⟨by omega, by simp only [maxLen]; omega⟩
    have hmR : min i RS.length = i := by omega
    have hmC : min i CS.length = i := by omega
    have hcase : (i < kn) \/ (kn < i) \/ (i = kn /\ nm = x.name) \/ (i = kn /\ nm ≠ x.name) := by
      by_cases h1 : i < kn
      · exact .inl h1
      by_cases h2 : kn < i
      · exact .inr (.inl h2)
      by_cases h3 : nm = x.name
      · exact .inr (.inr (.inl ⟨by omega, h3⟩))
      · exact .inr (.inr (.inr ⟨by omega, h3⟩))
    refine anyQ2 fun Q => ?_
    have hA1 := w_spec_LookupRelation d nm hst
    have hA2 := w_spec_LookupRelation N nm hst2
    have hB1 := w_spec_CountedFromRelation (lkR d nm)
    have hB2 := w_spec_CountedFromRelation (lkR N nm)
    simp [hlt, <- ha, hde, hqe, hxe, eAtom, cStr, s9_10, s9_12, s9_16, s9_19, s9_30, ]
    repeat' apply And.intro
    all_goals
      refine call_p hA1 (by simp [hde]) fun hs6 hh6 hl6 => ?_
      simp at hh6
      rcases hcase with hc | hc | ⟨hc, hnm⟩ | ⟨hc, hnm⟩
      focus
        have eT : adT d N Y x.name kn i ⟨nm, vs⟩ = ones (lkR N nm).rows := by rw [adT, if_pos hc]
        rw [eT, ones_fst] at hRi
        rw [eT, ones_snd] at hCi
        simp [hlt, <- ha, hc, show ¬ i = kn by omega, hde, hqe, hxe, eReln, eAtom, cStr, s9_10, s9_12, s9_16, s9_19, s9_30, ]
        repeat' apply And.intro
        all_goals
          refine call_p hA2 (by simp [hde]) fun hs7 hh7 hl7 => ?_
          simp at hh7
          simp [hlt, <- ha, hc, show ¬ i = kn by omega, hde, hqe, hxe, eReln, eAtom, cStr, s9_10, s9_12, s9_16, s9_19, s9_30, ]
          repeat' apply And.intro
          all_goals
            refine call_p hB2 (by simp [eReln]) fun hs8 hh8 hl8 => ?_
            simp at hh8
            simp [hlt, <- ha, hc, show ¬ i = kn by omega, hde, hqe, hxe, eCnt, hce.2.2.1, hce.2.2.2, hwi, hLo, hmR, hmC, s9_10, s9_12, s9_16, s9_19, s9_30, ]
            exact back2 (i + 1) (by omega) (by omega) rfl (by simp <;> omega) (by simp) (by simp [hde, hqe, hxe, mapT (cP (cP cI)) hRi, mapT (cP cI) hCi])
      focus
        have eT : adT d N Y x.name kn i ⟨nm, vs⟩ = ones (lkR d nm).rows := by rw [adT, if_neg (by omega), if_pos hc]
        rw [eT, ones_fst] at hRi
        rw [eT, ones_snd] at hCi
        simp [hlt, <- ha, show ¬ i < kn by omega, show ¬ i = kn by omega, hde, hqe, hxe, eReln, eAtom, cStr, s9_10, s9_12, s9_16, s9_19, s9_30, ]
        repeat' apply And.intro
        all_goals
          refine call_p hB1 (by simp [eReln]) fun hs8 hh8 hl8 => ?_
          simp at hh8
          simp [hlt, <- ha, show ¬ i < kn by omega, show ¬ i = kn by omega, hde, hqe, hxe, eCnt, hcd.2.2.1, hcd.2.2.2, hwi, hLo, hmR, hmC, s9_10, s9_12, s9_16, s9_19, s9_30, ]
          exact back2 (i + 1) (by omega) (by omega) rfl (by simp <;> omega) (by simp) (by simp [hde, hqe, hxe, mapT (cP (cP cI)) hRi, mapT (cP cI) hCi])
      focus
        have eT : adT d N Y x.name kn i ⟨nm, vs⟩ = (adZ Y).rows.zip (adZ Y).cs := by rw [adT, if_neg (by omega), if_neg (by omega), if_pos hnm]
        have t1 := tup_z a.app
        have t2 := tup_c a.app
        rw [<- hY] at t1 t2
        rw [eT, t1] at hRi
        rw [eT, t2] at hCi
        have hnq := eq_true hnm
        have hY1 := w_spec_CountedFromRelation Y.ins
        have hY2 := w_spec_CountedFromRelation Y.del
        have cn := cnt_of hno2.del
        rw [<- hY] at cn
        obtain ⟨s1, s2, s3⟩ := cnts_small cn.1
        have hNg := w_spec_NegateCounted (cntOf Y.del) s1 s2 s3
        rw [negW_eq cn.1] at hNg
        have hAd := w_spec_AddCounted (cntOf Y.ins) (negP (cntOf Y.del))
        rw [show addCP (cntOf Y.ins) (negP (cntOf Y.del)) = adZ Y from rfl] at hAd
        simp [hlt, <- ha, show ¬ i < kn by omega, eq_true hc, hnq, hde, hqe, hxe, eReln, eAtom, cStr, s9_10, s9_12, s9_16, s9_19, s9_30, ]
        repeat' apply And.intro
        all_goals
          refine call_p hB1 (by simp [eReln]) fun hs8 hh8 hl8 => ?_
          simp at hh8
          simp [hlt, <- ha, show ¬ i < kn by omega, eq_true hc, hnq, hde, hqe, hxe, eCnt, eAtom, cStr, s9_10, s9_12, s9_16, s9_19, s9_30, ]
          repeat' apply And.intro
          all_goals
            refine call_p hY1 (by simp [eReln]) fun hs9 hh9 hl9 => ?_
            simp at hh9
            simp [hde, hqe, hxe, eCnt, eAtom, cStr, s9_10, s9_12, s9_16, s9_19, s9_30, ]
            repeat' apply And.intro
            all_goals
              refine call_p hY2 (by simp [eReln]) fun hs10 hh10 hl10 => ?_
              simp at hh10
              simp [hde, hqe, hxe, eCnt, eAtom, cStr, s9_10, s9_12, s9_16, s9_19, s9_30, ]
              repeat' apply And.intro
              all_goals
                refine call_p hNg (by simp [eCnt]) fun hs11 hh11 hl11 => ?_
                simp at hh11
                simp [hde, hqe, hxe, eCnt, eAtom, cStr, s9_10, s9_12, s9_16, s9_19, s9_30, ]
                repeat' apply And.intro
                all_goals
                  refine call_p hAd (by simp [eCnt]) fun hs12 hh12 hl12 => ?_
                  simp at hh12
                  simp [hde, hqe, hxe, eCnt, hwi, hLo, hmR, hmC, s9_10, s9_12, s9_16, s9_19, s9_30, ]
                  exact back2 (i + 1) (by omega) (by omega) rfl (by simp <;> omega) (by simp) (by simp [hde, hqe, hxe, mapT (cP (cP cI)) hRi, mapT (cP cI) hCi])
      focus
        have eT : adT d N Y x.name kn i ⟨nm, vs⟩ = [] := by rw [adT, if_neg (by omega), if_neg (by omega), if_neg hnm]
        rw [eT] at hRi hCi
        simp [hlt, <- ha, show ¬ i < kn by omega, eq_true hc, hnm, hde, hqe, hxe, eReln, eAtom, cStr, s9_10, s9_12, s9_16, s9_19, s9_30, ]
        repeat' apply And.intro
        all_goals
          refine call_p hB1 (by simp [eReln]) fun hs8 hh8 hl8 => ?_
          simp at hh8
          simp [hlt, <- ha, show ¬ i < kn by omega, eq_true hc, hnm, hde, hqe, hxe, eCnt, eAtom, cStr, hwi, hLo, hmR, hmC, s9_10, s9_12, s9_16, s9_19, s9_30, ]
          refine Back2.lead (lead_rowE 68 (T := 31) (sz := 1) (es := (RS.map (cP (cP cI))).take i ++ [[.sl none none []]]) (by simp)) ?_
          rintro _ rfl
          refine Back2.lead (lead_rowE 69 (T := 28) (sz := 1) (es := (CS.map (cP cI)).take i ++ [[.sl none none []]]) (by simp)) ?_
          rintro _ rfl
          exact back2 (i + 1) (by omega) (by omega) rfl (by simp <;> omega) (by simp) (by simp [hde, hqe, hxe, mapT (cP (cP cI)) hRi, mapT (cP cI) hCi, erLL_app, erLL, erL, D.er, erLL_tk])
  · have hn : i = q.atoms.length := by omega
    subst hn
    rw [List.take_of_length_le (show RS.length <= q.atoms.length by omega), List.take_of_length_le (show CS.length <= q.atoms.length by omega)]
    have hn5 := f.n5
    simp [hde, hqe, hxe, s9_10, s9_12, s9_16, s9_19, s9_30, ]
    refine loop_rule (X := Nat) (fun j => j <= q.n.toNat) (fun j => [(5, .ptr 5 0 0), (8, .ptr 8 0 0), (14, .own 68 0 q.atoms.length), (15, .own 69 0 q.atoms.length), (25, .own 149 0 j)])
      (fun j => [(5, some (.box ((eQuery q).map V.d))), (8, some (.box [.d (.int .i64 0), .d (.sl none none []), .d (.sl none none [])])), (68, some (.row 31 1 (RS.map (cP (cP cI))))), (69, some (.row 28 1 (CS.map (cP cI)))), (149, some (.row 3 1 ((List.replicate j (-1)).map cI)))]) (fun j => q.n.toNat - j) 0 (by simp) (by simp) (by simp [hqe]) ?_
    intro j hs t m hj hh2
    by_cases hjl : j < q.n.toNat
    · have hlj : (j : Int) < q.n := by omega
      have hLo8 : LenOk 8 (j + 1) := ⟨by omega, by simp only [maxLen]; omega⟩
      simp [hlj, hLo8, List.take_of_length_le, hde, hqe, hxe, s9_10, s9_12, s9_16, s9_19, s9_30, ]
      exact back (j + 1) (by omega) (by omega) rfl (by simp <;> omega) (by simp) (by simp [hqe, List.replicate_succ'])
    · have hj : j = q.n.toNat := by omega
      subst hj
      have hlj : ¬ ((q.n.toNat : Int) < q.n) := by omega
      have hlj2 : ¬ (max q.n 0 < q.n) := by omega
      obtain ⟨KK, hKK⟩ : ∃ w, w = adK d q x kn := ⟨_, rfl⟩
      have hwk := w_spec_l28Walk q RS CS q.n.toNat hWk q.atoms.length 0 (List.replicate q.n.toNat (-1)) 1 (by omega) (by simp) (.inl rfl)
      rw [List.drop_zero, hwA] at hwk
      rw [show walkW (adTs d N Y x.name kn q.atoms) (List.replicate q.n.toNat (-1)) 1 = KK by rw [hKK, adK, hN, hY]] at hwk
      rw [<- hKK] at href
      have hKl : KK.length <= 1048576 := by
        rw [hKK, adK]
        refine walkW_le (by simp [adTs]; exact ha4.2) (fun b hb => ?_) _ _
        obtain ⟨i, hi, rfl⟩ := List.getElem_of_mem hb
        simp only [adTs, List.length_mapIdx] at hi
        simp only [adTs, List.getElem_mapIdx]
        have := adT_len a kn i (List.getElem_mem hi)
        split at this <;> omega
      have hKs : Sg KK := by
        rw [hKK, adK]
        refine sg_walk _ _ _ (fun b hb => ?_) (.inl rfl)
        obtain ⟨i, hi, rfl⟩ := List.getElem_of_mem hb
        simp only [adTs, List.getElem_mapIdx]
        exact sg_adT a kn i _
      have hKr : ∀ z ∈ KK.map Prod.fst, z.length = q.n.toNat /\ valsOk z = true := fun z hz => ad_row a kn ((ad_sup a kn z).2 (by rw [<- hKK]; exact hz))
      obtain ⟨F1, hF1⟩ : ∃ w, w = KK.map Prod.fst := ⟨_, rfl⟩
      obtain ⟨F2, hF2⟩ : ∃ w, w = KK.map Prod.snd := ⟨_, rfl⟩
      rw [<- hF1, <- hF2] at hwk href
      rw [<- hF1] at hKr
      have hf1 : F1.length = KK.length := by rw [hF1, List.length_map]
      have hf2 : F2.length = KK.length := by rw [hF2, List.length_map]
      have ho := ad_out a
      obtain ⟨F3, hF3⟩ : ∃ w, w = F1.map (pickR q.out) := ⟨_, rfl⟩
      have hf3 : F3.length = F1.length := by rw [hF3, List.length_map]
      simp [hlj, hlj2, hde, hqe, hxe, s9_10, s9_12, s9_16, s9_19, s9_30, ]
      refine call_p hwk (by simp [hqe, List.take_of_length_le, hRl, hCl]) fun hs6 hh6 hl6 => ?_
      simp at hh6
      simp [hde, hqe, hxe, s9_10, s9_12, s9_16, s9_19, s9_30, ]
      refine loop_rule (X := Nat) (fun i => i <= F1.length) (fun i => [(5, .ptr 5 0 0), (8, .ptr 8 0 0), (26, .d (.pl (F1.map (cP cI)))), (27, .d (.pl (F2.map cI))), (28, .own 166 0 i), (29, .d (.int .i64 i))])
        (fun i => [(5, some (.box ((eQuery q).map V.d))), (8, some (.box [.d (.int .i64 0), .d (.sl none none []), .d (.sl none none [])])), (166, some (.row 28 1 ((F3.take i).map (cP cI))))]) (fun i => F1.length - i) 0 (by simp) (by simp) (by simp [hqe]) ?_
      intro i hs t m hi hh3
      by_cases hil : i < F1.length
      · have hwi := wr1 (i := i) (by omega)
        have hLo : LenOk 24 (i + 1) := ⟨by omega, by simp only [maxLen]; omega⟩
        have hz := (hKr _ (List.getElem_mem hil)).1
        have hst3 : F3.take (i + 1) = F3.take i ++ [pickR q.out F1[i]] := by
          rw [List.take_succ_eq_append_getElem (by omega)]; simp [hF3]
        simp [hil, hde, hqe, hxe, s9_10, s9_12, s9_16, s9_19, s9_30, ]
        repeat' apply And.intro
        all_goals
          refine call_p (w_spec_l5Cols F1[i] q.out (by have := f.out5; omega) (fun c hc => by have := ho.2 c hc; omega)) (by simp) fun hs7 hh7 hl7 => ?_
          simp at hh7
          simp [hwi, hLo, show min i F3.length = i by omega, List.take_of_length_le, hde, hqe, hxe, s9_10, s9_12, s9_16, s9_19, s9_30, ]
          exact back (i + 1) (by omega) (by omega) rfl (by simp <;> omega) (by simp) (by simp [hqe, mapT (cP cI) hst3])
      · have hi : i = F1.length := by omega
        subst hi
        rw [List.take_of_length_le (show F3.length <= F1.length by omega)]
        have hS := w_spec_l27Sum q.out.length (F1.map (pickR q.out)) F2 ho.1 (fun y hy => by
          obtain ⟨z, hz, rfl⟩ := List.mem_map.1 hy
          obtain ⟨k1, k2⟩ := hKr z hz
          refine ⟨by rw [pickR_len], pickR_ok k2 fun c hc => ?_⟩
          have := ho.2 c hc; omega) (by rw [List.length_map]; omega) (by rw [List.length_map]; omega) (fun c hc => by
          rw [hF2] at hc
          obtain ⟨p, hp, rfl⟩ := List.mem_map.1 hc
          have := hKs p hp; omega)
        rw [href.1, href.2, <- hF3] at hS
        simp [hil, hde, hqe, hxe, s9_10, s9_12, s9_16, s9_19, s9_30, ]
        refine call_p hS (by simp [hf3, List.take_of_length_le]) fun hs7 hh7 hl7 => ?_
        simp at hh7
        simp [eCnt, hde, hqe, hxe, s9_10, s9_12, s9_16, s9_19, s9_30, ]
end
end Go.Proofs.YtmgphabeodaokaaGreat
namespace Go.Proofs.YtmgphabeodaokaaGreat
open Go.Vs Go.Proofs Go
set_option maxRecDepth 100000
set_option maxHeartbeats 1000000
section
attribute [local simp] plI_id plStr_id map_plI map_plStr
end
end Go.Proofs.YtmgphabeodaokaaGreat
namespace Go.Proofs.YtmgphabeodaokaaGreat
open Go.Vs Go.Proofs Go
set_option maxRecDepth 100000
set_option maxHeartbeats 1000000
section
attribute [local simp] plI_id plStr_id map_plI map_plStr pS cP cI cStr cU8 cB
theorem w_spec_VariableName (v : Int) : VC Tryz.prog 143 [.d (.int .i64 v)] (fun _ r => r = .d (.str (varNm v))) := by
  refine VC.ofL EP s143 (by kernel_rfl) Tryz.func143 (by rfl) (by kernel_rfl) (by simp [Tryz.f143]) (by simp [Tryz.f143]) s143_ok fun B hl => ?_
  simp [Tryz.f143, ]
  refine call_f (w_spec_l1In v 0 4) (by simp) rfl fun hs1 hh1 => ?_
  simp at hh1
  cases h : inR v 0 4
  · simp [varNm, h]
  have h' := h
  simp only [inR, Bool.and_eq_true, decide_eq_true_eq] at h'
  have hw : IntKind.i64.wrap (v + 1) = v + 1 := wrap64_of (by omega) (by omega)
  obtain ⟨k, rfl⟩ : ∃ k : Nat, v = (k : Int) := ⟨v.toNat, by omega⟩
  have hk : k < 5 := by omega
  have h1 : ((k : Int) + 1).toNat = k + 1 := by omega
  simp [varNm, h, hw, h1]
  omega
theorem w_spec_l7Vars (l : List Int) (hb : l.length <= 4611686018427387904) : VC Tryz.prog 145 [.d (pS cI l)] (fun _ r => r = .d (.str ([40] ++ varsS l ++ [41]))) := by
  refine VC.ofL EP s145 (by kernel_rfl) Tryz.func145 (by rfl) (by kernel_rfl) (by simp [Tryz.f145]) (by simp [Tryz.f145]) s145_ok fun B hl => ?_
  simp [pS, maxLen] at hl
  simp [Tryz.f145, ]
  refine loop_rule (X := Nat) (fun i => i <= l.length) (fun i => [(0, .d (.pl (l.map cI))), (3, .d (.str ([40] ++ varsS (l.take i)))), (4, .d (.int .i64 i))]) (fun _ => []) (fun i => l.length - i) 0 (by simp) (by simp [varsS]) (by simp) ?_
  intro i hs t m hi hh
  have h1 := varsS_len (l.take i)
  rw [List.length_take] at h1
  by_cases hlt : i < l.length
  · have hwi := wr1 (i := i) (by omega)
    simp [hlt, ]
    refine call_f (w_spec_VariableName l[i]) (by simp) rfl fun hs1 hh1 => ?_
    simp at hh1
    have h2 := varNm_len l[i]
    simp [hwi]
    refine ⟨by omega, ?_⟩
    exact back (i + 1) (by omega) (by omega) rfl (by simp <;> omega) (by simp [varsS_step hlt]) (by simp)
  · have h3 := varsS_len l
    simp [hlt, List.take_of_length_le (show l.length <= i by omega)]
    omega
end
end Go.Proofs.YtmgphabeodaokaaGreat
namespace Go.Proofs.YtmgphabeodaokaaGreat
open Go.Vs Go.Proofs Go
set_option maxRecDepth 100000
set_option maxHeartbeats 1000000
section
attribute [local simp] plI_id plStr_id map_plI map_plStr pS cP cI cStr cU8 cB
theorem w_spec_l5Cut (s : List UInt8) (c : UInt8) (hb : s.length <= 1000000000) : VC Tryz.prog 141 [.d (.str s), .d (.int .u8 c.toNat)] (fun _ r => r = .d (pS cStr (cutB c s))) := by
  refine VC.ofL EP s141 (by kernel_rfl) Tryz.func141 (by rfl) (by kernel_rfl) (by simp [Tryz.f141]) (by simp [Tryz.f141]) s141_ok fun B hl => ?_
  simp [Tryz.f141, ]
  refine loop_rule (X := Nat × Nat × List (List UInt8)) (fun p => CutI c s p) (fun p => [(0, .d (.str s)), (1, .d (.int .u8 c.toNat)), (5, .own 8 0 p.2.2.length), (6, .d (.int .i64 p.1)), (7, .d (.int .i64 p.2.1))]) (fun p => [(8, some (.row 9 1 (p.2.2.map cStr)))]) (fun p => s.length - p.2.1) (0, 0, []) .zero (by simp) (by simp) ?_
  rintro ⟨f, i, out⟩ hs t m hI hh
  have hf := hI.fr
  have hi := hI.le
  have hol := hI.len
  simp only at hf hi hol
  have hwi := wr1 (i := i) (by omega)
  have hL : LenOk 16 (out.length + 1) := ⟨by omega, by simp only [maxLen]; omega⟩
  by_cases hlt : i < s.length
  · by_cases e : s[i] = c
    · have hn := hI.hit hlt e
      simp [hlt, e, hwi, hL, hf, hi, ]
      exact back (i + 1, i + 1, _) hn (by simp only; omega) rfl (by simp <;> omega) (by simp) (by simp [List.take_of_length_le])
    · have hn := hI.miss hlt e
      have e' : ¬ s[i].toNat = c.toNat := fun h => e (UInt8.toNat_inj.1 h)
      simp [hlt, e, e', hwi, hL, ]
      exact back (f, i + 1, out) hn (by simp only; omega) rfl (by simp <;> omega) (by simp) (by simp)
  · have hn := hI.done (by omega)
    have hil : i = s.length := by omega
    subst hil
    simp [hL, hf, ]
    rw [List.take_of_length_le (by simp), <- hn.1]; simp
end
end Go.Proofs.YtmgphabeodaokaaGreat
namespace Go.Proofs.YtmgphabeodaokaaGreat
open Go.Vs Go.Proofs Go
set_option maxRecDepth 100000
set_option maxHeartbeats 1000000
section
attribute [local simp] plI_id plStr_id map_plI map_plStr pS cP cI cStr
theorem e_spec_l7List (s : List UInt8) (hb : s.length <= 100000) : VC Tryz.prog 142 [.d (.str s)]
   (fun n r => ∃ y : Ints, r = .d (dSl cI y) /\ y.xs = lstV s /\ okS okI y /\ Good (cS cI y) (whS whI y) n /\ y.T = some (3, 1)) := by
  refine VC.of E s142 (by kernel_rfl) Tryz.func142 (by rfl) (by kernel_rfl) (by simp [Tryz.f142]) (by simp [Tryz.f142]) s142_ok fun B => ?_
  simp [Tryz.f142, s142_8, s142_8, ]
  have hlv := lstV_len s
  refine loop_rule (X := Nat) (fun i => i <= s.length) (fun i => [(0, .d (.str s)), (3, .own 6 0 (lstV (s.take i)).length), (4, .d (.int .i64 i))]) (fun i => [(6, some (.row 3 1 ((lstV (s.take i)).map cI)))]) (fun i => s.length - i) 0 (by simp) (by simp [lstV]) (by simp [lstV]) ?_
  intro i hs t m hi hh
  have hlt2 := lstV_len (s.take i)
  rw [List.length_take] at hlt2
  by_cases hlt : i < s.length
  · have hwi := wr1 (i := i) (by omega)
    have hstp := lstV_step hlt
    obtain ⟨L, hL⟩ : ∃ L, L = lstV (s.take i) := ⟨_, rfl⟩
    rw [<- hL] at hstp hlt2 ⊢
    obtain ⟨c, hc⟩ : ∃ c, c = s[i] := ⟨_, rfl⟩
    rw [<- hc] at hstp
    refine anyQ fun Q => ?_
    simp [hlt, s142_8, ]
    refine loop_rule (X := Nat) (fun j => j <= 5) (fun j => [(0, .d (.str s)), (3, .own 6 0 (L ++ lstT c j).length), (4, .d (.int .i64 i)), (5, .d (.int .i64 j))]) (fun j => [(6, some (.row 3 1 ((L ++ lstT c j).map cI)))]) (fun j => 5 - j) 0 (by simp) (by simp [lstT, rangeI_zero]) (by simp [lstT, rangeI_zero]) ?_
    intro j hs2 t m hj hh2
    have hjl := lstT_len c j
    by_cases hj5 : j < 5
    · have hwj := wr1 (i := j) (by omega)
      have hjz : (j : Int) < 5 := by omega
      have hs3 := lstT_succ c j
      refine anyQ fun Q => ?_
      have hsl : (s.drop i).take 1 = [c] := by rw [List.drop_eq_getElem_cons hlt, hc]; rfl
      have hL1 : LenOk 8 (L.length + (lstT c j).length + 1) := ⟨by omega, by simp only [maxLen]; omega⟩
      simp [hj5, hjz, hwi, s142_8, ]
      repeat' apply And.intro
      all_goals (try omega)
      all_goals
        refine call_f (w_spec_VariableName j) (by simp) rfl fun hs4 hh4 => ?_
        simp at hh4
        by_cases e : varNm j = [c]
        · rw [if_pos e] at hs3
          simp [hj5, hjz, hwi, hwj, e, hsl, hL1, List.take_of_length_le, s142_8, ]
          exact back (j + 1) (by omega) (by omega) rfl (by simp <;> omega) (by simp [hs3]; omega) (by simp [hs3])
        · rw [if_neg e, List.append_nil] at hs3
          simp [hj5, hjz, hwi, hwj, e, hsl, s142_8, ]
          exact back (j + 1) (by omega) (by omega) rfl (by simp <;> omega) (by simp [hs3]) (by simp [hs3])
    · have hj' : j = 5 := by omega
      have hjz : ¬ (j : Int) < 5 := by omega
      subst hj'
      simp [hwi, s142_8, ]
      exact back (i + 1) (by omega) (by omega) rfl (by simp <;> omega) (by simp [hstp, lstT, lstB]) (by simp [hstp, lstT, lstB])
  · simp [hlt, List.take_of_length_le (show s.length <= i by omega), s142_8, ]
    intro γ hs' h1 hg
    obtain ⟨q1, q2⟩ := gam_at hg (k := 6) (T := 3) (sz := 1) (es := (lstV s).map cI) (by simp)
    clear hg
    exact ⟨⟨γ 6, some (3, 1), lstV s⟩, by simp [dSl, List.take_of_length_le], rfl, ⟨by simp only [maxLen]; show (lstV s).length <= _; omega, fun _ _ => trivial⟩, good_ints (fun g hg => (q1 g hg).1) (by simpa using q2), rfl⟩
end
end Go.Proofs.YtmgphabeodaokaaGreat
namespace Go.Proofs.YtmgphabeodaokaaGreat
open Go.Vs Go.Proofs Go
set_option maxRecDepth 100000
set_option maxHeartbeats 1000000
section
attribute [local simp] plI_id plStr_id map_plI map_plStr pS cP cI cStr
theorem fmtA_len {a : PAtom} (h1 : a.rel.length <= 1000000) (h2 : a.vars.length <= 1000000) : (fmtA a).length <= 2000010 := by
  have := varsS_len a.vars
  simp only [fmtA, List.length_append, List.length_singleton]; omega
theorem w_spec_FormatQuery (q : PQuery) (hst : ∀ a ∈ q.atoms, a.rel.length <= maxLen) : VC Tryz.prog 144 [.agg ((eQuery q).map V.d)] (fun _ r => r = .d (.str (fmtQ q))) := by
  refine VC.ofL EP s144 (by kernel_rfl) Tryz.func144 (by rfl) (by kernel_rfl) (by simp [Tryz.f144]) (by simp [Tryz.f144]) s144_ok fun B hl => ?_
  obtain ⟨n, l, o⟩ := q
  simp only at hst
  have hF : fmtQ ⟨n, l, o⟩ = if queryOk ⟨n, l, o⟩ then ([40] ++ varsS o ++ [41]) ++ [61] ++ joinB [44] (l.map fmtA) else [] := rfl
  simp [Tryz.f144, s144_9, s144_9, eQuery]
  refine call_f (w_spec_IsValidQuery ⟨n, l, o⟩ hst) (by simp [eQuery]) rfl fun hs1 hh1 => ?_
  simp at hh1
  cases hq : queryOk ⟨n, l, o⟩
  · rw [if_neg (by rw [hq]; simp)] at hF
    simp [hF, s144_9, eQuery]
  rw [if_pos hq] at hF
  have hqb := qok_small hq
  obtain ⟨hl4, ho5, hat⟩ := hqb
  simp only at hl4 ho5 hat
  have hvo := varsS_len o
  have hfl : ∀ a ∈ l, (fmtA a).length <= 2000010 := fun a ha => by
    have := hat a ha
    exact fmtA_len (by omega) (by omega)
  simp [s144_9, eQuery]
  refine call_f (w_spec_l7Vars o (by omega)) (by simp) rfl fun hs2 hh2 => ?_
  simp at hh2
  simp [s144_9, eQuery]
  refine ⟨by omega, ?_⟩
  obtain ⟨H, hH⟩ : ∃ H, H = ([40] ++ varsS o ++ [41]) ++ [61] := ⟨_, rfl⟩
  have hHl : H.length <= 100 := by rw [hH]; simp; omega
  refine loop_rule (X := Nat) (fun i => i <= l.length) (fun i => [(1, .ptr 1 0 0), (3, .d (.str (H ++ joinB [44] ((l.take i).map fmtA)))), (4, .d (.int .i64 i))]) (fun i => [(1, some (.box [.d (.int .i64 n), .d (.pl (l.map eAtom)), .d (.pl (o.map cI))]))]) (fun i => l.length - i) 0 (by simp) (by simp [joinB, hH]) (by simp) ?_
  intro i hs t m hi hh
  by_cases hlt : i < l.length
  · have hwi := wr1 (i := i) (by omega)
    have hjl := joinB_len [44] ((l.take i).map fmtA)
    have hst := strW_map fmtA 1 2000010 (l.take i) fun a ha => hfl a (List.mem_of_mem_take ha)
    rw [List.length_take] at hst
    have hstp := joinB_step (sep := [44]) (l := l.map fmtA) (i := i) (by simpa using hlt)
    rw [show (l.map fmtA).take i = (l.take i).map fmtA from List.map_take.symm, List.getElem_map] at hstp
    have hw1 : IntKind.i64.wrap 1 = 1 := wrap64_of (by omega) (by omega)
    have hm := List.getElem_mem hlt
    obtain ⟨ar, av, hA⟩ : ∃ ar av, l[i] = ⟨ar, av⟩ := ⟨_, _, rfl⟩
    rw [hA] at hm hstp
    have hab := hat _ hm
    simp only at hab
    have hvl := varsS_len av
    obtain ⟨J, hJ⟩ : ∃ J, J = joinB [44] ((l.take i).map fmtA) := ⟨_, rfl⟩
    rw [<- hJ] at hstp hjl ⊢
    simp only [List.length_singleton] at hjl
    have hJl : J.length <= 10000000 := by
      have : (2000010 + 1) * min i l.length <= 2000011 * 4 := Nat.mul_le_mul (Nat.le_refl _) (by omega)
      omega
    refine anyQ fun Q => ?_
    by_cases h0 : i = 0
    · subst h0
      simp [hlt, hA, eAtom, s144_9, eQuery]
      repeat' apply And.intro
      all_goals (try omega)
      all_goals
        refine call_f (w_spec_l7Vars av (by omega)) (by simp) rfl fun hs4 hh4 => ?_
        simp at hh4
        simp [hlt, hwi, hA, eAtom, s144_9, eQuery]
        repeat' apply And.intro
        all_goals (try omega)
        all_goals exact back (0 + 1) (by omega) (by omega) rfl (by simp <;> omega) (by simp [hstp, hw1, fmtA]) (by simp)
    · have h0' : 0 < i := by omega
      simp [hlt, h0', hA, eAtom, s144_9, eQuery]
      repeat' apply And.intro
      all_goals (try omega)
      all_goals
        refine call_f (w_spec_l7Vars av (by omega)) (by simp) rfl fun hs4 hh4 => ?_
        simp at hh4
        simp [hlt, hwi, hA, eAtom, s144_9, eQuery]
        repeat' apply And.intro
        all_goals (try omega)
        all_goals exact back (i + 1) (by omega) (by omega) rfl (by simp <;> omega) (by simp [hstp, h0, fmtA]) (by simp)
  · simp [hlt, hF, List.take_of_length_le (show l.length <= i by omega), hH, s144_9, eQuery]
end
end Go.Proofs.YtmgphabeodaokaaGreat
namespace Go.Proofs.YtmgphabeodaokaaGreat
open Go.Vs Go.Proofs Go
set_option maxRecDepth 100000
set_option maxHeartbeats 1000000
section
attribute [local simp] plI_id plStr_id map_plI map_plStr pS cP cI cStr
theorem plA_app (nm : List UInt8) (y : Ints) (l : List UInt8) (h1 : nm = (cutB 40 l).getD 0 []) (h2 : y.xs = lstV l) : plAtom ⟨nm, y⟩ = prsA l := by
  simp only [plAtom, prsA, plS, plStr_id, map_plI, h1, h2]
theorem seqAny2 {P : Program} {E : Md} {sc : Nat -> Tr} {a b : Code} {Q : Exit -> St -> Prop} {σ : St} (h : ∀ b', vwp P E sc (a.seq b') Q σ) : vwp P E sc (a.seq b) Q σ := h b
theorem copI_up {α β : Type} {c : α -> List D} {wh : α -> Prop} {ok : α -> Prop} {pl : α -> β} {l : List β} {B : Nat} {p : Nat × List α} {h h' : Nat} (H : CopI c wh ok pl l B p h) (hh : h <= h') : CopI c wh ok pl l B p h' :=
  ⟨H.le, H.pl, H.ok, ⟨H.good.nd, H.good.lo, fun g hg => Nat.lt_of_lt_of_le (H.good.hi g hg) hh, H.good.wh⟩⟩
theorem e_spec_ParseQuery (s : List UInt8) (hb : s.length <= 1000) : VC Tryz.prog 136 [.d (.str s)]
   (fun n v => ∃ y : Query, v = .tup [.agg ((cQuery y).map V.d), .d (.bool (prsB' s))] /\ plQuery y = prsP s /\ okQuery y /\ Good (cQuery y) (whQuery y) n /\ (∀ g, y.atoms.id = some g -> y.atoms.T = some (78, 2)) /\ (∀ g, y.out.id = some g -> y.out.T = some (3, 1))) := by
  refine VC.of E s136 (by kernel_rfl) Tryz.func136 (by rfl) (by kernel_rfl) (by simp [Tryz.f136]) (by simp [Tryz.f136]) s136_ok fun B => ?_
  have h0 : ∀ n : Nat, plQuery ⟨0, nilS, nilS⟩ = ⟨0, [], []⟩ /\ okQuery ⟨0, nilS, nilS⟩ /\ Good (cQuery ⟨0, nilS, nilS⟩) (whQuery ⟨0, nilS, nilS⟩) n := fun n =>
    ⟨by simp [plQuery, nilS, plS], ⟨trivial, ok_nilS, ok_nilS⟩, by simp [cQuery, cCnt, nilS, cS, cI, dSl, idsL, D.ids, idsLL], by simp [cQuery, cCnt, nilS, cS, cI, dSl, idsL, D.ids, idsLL], ⟨trivial, ⟨⟨by simp [nilS], by simp [nilS]⟩, by simp [nilS]⟩, ⟨⟨by simp [nilS], by simp [nilS]⟩, by simp [nilS]⟩⟩⟩
  simp [Tryz.f136, s136_10, s136_17, s136_10, s136_17, ]
  refine call_some (VC.track (w_spec_l5Cut s 61 (by omega)) (by simp) (by simp [V.pn])) (by simp) (by simp) fun n1 hs1 r1 hn1 hm1 hp1 hr1 => ?_
  obtain ⟨hq1, ht1⟩ := hp1
  obtain ⟨⟨wid, wT, w⟩, rfl, pw⟩ := rp_sl tk_Str hq1 ht1
  have pw : w = cutB 61 s := by simpa [plS] using pw
  simp at hn1
  have hB : prsB' s = (decide (w.length = 2) && decide (fmtQ (prsC s) = s) && decide (s ≠ [])) := by rw [pw]; rfl
  by_cases hw2 : w.length = 2
  case neg =>
    have hw2' : ¬ (w.length : Int) = 2 := by omega
    have hBf : prsB' s = false := by rw [hB]; simp [hw2]
    have hP : prsP s = ⟨0, [], []⟩ := by rw [prsP, if_neg (by rw [hBf]; simp)]
    simp [hw2, hw2', hBf, hP, dSl, cS, s136_10, s136_17, ]
    exact ⟨⟨0, nilS, nilS⟩, by simp [cQuery, cS, dSl, nilS], (h0 B).1, (h0 B).2.1, (h0 B).2.2, by simp [nilS], by simp [nilS]⟩
  obtain ⟨w0, w1, rfl⟩ : ∃ w0 w1, w = [w0, w1] := by
    match w, hw2 with
    | [a, b], _ => exact ⟨a, b, rfl⟩
  have hC : prsC s = ⟨prsM (cutB 44 w1), (cutB 44 w1).map prsA, lstV w0⟩ := by rw [prsC, <- pw]; rfl
  have hwl0 : w0.length <= 1000 := Nat.le_trans (cutB_mem (c := 61) (s := s) (by rw [<- pw]; simp)) hb
  have hwl1 : w1.length <= 1000 := Nat.le_trans (cutB_mem (c := 61) (s := s) (by rw [<- pw]; simp)) hb
  simp [dSl, cS, s136_10, s136_17, ]
  refine call_some (e_spec_l7List w0 (by omega)) (by simp) (by simp) fun n2 hs2 r2 hn2 hm2 hp2 hr2 => ?_
  obtain ⟨y0, rfl, p0, k0, G0, T0⟩ := hp2
  simp at hn2
  have u0 : ∀ g ∈ idsL (cS cI y0), g < hs2 := fun g hg => hr2 g (by rw [idsL_cS] at hg; exact hg)
  simp [dSl, cS, s136_10, s136_17, ]
  refine call_some (VC.track (w_spec_l5Cut w1 44 (by omega)) (by simp) (by simp [V.pn])) (by simp) (by simp) fun n3 hs3 r3 hn3 hm3 hp3 hr3 => ?_
  obtain ⟨hq3, ht3⟩ := hp3
  obtain ⟨⟨cid, cT, ls⟩, rfl, pl3⟩ := rp_sl tk_Str hq3 ht3
  have pl3 : ls = cutB 44 w1 := by simpa [plS] using pl3
  have hll : ls.length <= 1001 := by rw [pl3]; have := cutB_len 44 w1; omega
  have hlm : ∀ x ∈ ls, x.length <= 1000 := fun x hx => by rw [pl3] at hx; exact Nat.le_trans (cutB_mem hx) hwl1
  rw [<- pl3] at hC
  simp at hn3
  simp [dSl, cS, s136_17, ]
  refine loop_ruleL (X := Nat × List Atom) (CopI cAtom whAtom okAtom plAtom (ls.map prsA) hs3) (fun p => [(0, .d (.str s)), (2, .ptr 2 0 0), (3, .d (.bool false)), (5, .ptr 5 0 0), (6, .d (.sl cid cT (ls.map cStr))), (7, .d (.int .i64 p.1))]) (fun p => [(2, some (.box [.d (.int .i64 0), .d (.sl none none []), .d (.sl none none [])])), (5, some (.box [.d (.int .i64 (prsM (ls.take p.1))), .own 900 0 p.2.length, .d (dSl cI y0)])), (900, some (.row 78 2 (p.2.map cAtom)))]) (fun p => ls.length - p.1) ?_ ?_
  · refine (lead_box 5 1 900 78 2 [.d (.int .i64 0), .d (.sl none none []), .d (dSl cI y0)] (by omega) (by omega) (by omega) (by simp [dSl]) rfl).bind ?_
    rintro _ rfl
    exact Lead.of ⟨(0, []), .zero, rfl, rfl, Nat.le_refl _, by simp, by simp [dSl, prsM]⟩
  rintro ⟨i, ys⟩ hs t m hI hh
  have hle := hI.le
  have hyl := hI.len
  simp only [List.length_map] at hle
  by_cases hlt : i < ls.length
  · have hwi := wr1 (i := i) (by omega)
    have hL : LenOk 40 (ys.length + 1) := ⟨by omega, by simp only [maxLen]; omega⟩
    obtain ⟨li, hli⟩ : ∃ li, li = ls[i] := ⟨_, rfl⟩
    have hlil : li.length <= 1000 := by rw [hli]; exact hlm _ (List.getElem_mem hlt)
    have hns := prsM_step hlt
    have hn5 := prsM_in (ls.take i)
    rw [<- hli] at hns
    refine anyQ2 fun Q => ?_
    simp [hlt, <- hli, dSl, s136_17, ]
    refine call_some (VC.track (w_spec_l5Cut li 40 (by omega)) (by simp) (by simp [V.pn])) (by simp) (by simp) fun n4 hs4 r4 hn4 hm4 hp4 hr4 => ?_
    obtain ⟨hq4, ht4⟩ := hp4
    obtain ⟨⟨did, dT, ds⟩, rfl, pd⟩ := rp_sl tk_Str hq4 ht4
    have pd : ds = cutB 40 li := by simpa [plS] using pd
    obtain ⟨d0, dr, rfl⟩ : ∃ d0 dr, ds = d0 :: dr := by
      have := (cutA_len 40 li []).2
      rw [pd]
      cases h : cutB 40 li with
      | nil => exact absurd h this
      | cons a r => exact ⟨a, r, rfl⟩
    have hd0 : d0.length <= 1000 := Nat.le_trans (cutB_mem (c := 40) (s := li) (by rw [<- pd]; simp)) hlil
    have hpa : ∀ y : Ints, y.xs = lstV li -> plAtom ⟨d0, y⟩ = prsA li := fun y h => plA_app d0 y li (by rw [<- pd]; rfl) h
    simp at hn4
    simp [hlt, <- hli, dSl, cS, s136_17, ]
    refine cutT (X := Ints) (fun y hs' => y.xs = lstV li /\ okS okI y /\ (∃ m, hs4 <= m /\ m <= hs' /\ Good (cAtom ⟨d0, y⟩) (whAtom ⟨d0, y⟩) m) /\ ∀ g ∈ idsL (cAtom ⟨d0, y⟩), g < hs') (fun _ => [(0, .d (.str s)), (2, .ptr 2 0 0), (3, .d (.bool false)), (5, .ptr 5 0 0), (6, .d (.sl cid cT (ls.map cStr))), (7, .d (.int .i64 i))]) (fun y => [(2, some (.box [.d (.int .i64 0), .d (.sl none none []), .d (.sl none none [])])), (5, some (.box [.d (.int .i64 (prsM (ls.take i))), .own 900 0 (ys ++ [(⟨d0, y⟩ : Atom)]).length, .d (dSl cI y0)])), (900, some (.row 78 2 ((ys ++ [(⟨d0, y⟩ : Atom)]).map cAtom)))]) ?_ ?_
    · intro K hK
      simp [hlt, <- hli, dSl, cS, s136_10, ]
      repeat' apply And.intro
      all_goals
        refine call_some (e_spec_l7List li (by omega)) (by simp) (by simp) fun n5 hs5 r5 hn5' hm5 hp5 hr5 => ?_
        obtain ⟨y, rfl, p5, k5, G5, T5⟩ := hp5
        simp at hn5'
        have u5 : ∀ g ∈ idsL (cAtom ⟨d0, y⟩), g < hs5 := fun g hg => hr5 g (by
          rw [cAtom, idsL_app] at hg
          have := (List.mem_append.1 hg).resolve_left (by simp [cStr, idsL, D.ids])
          rw [idsL_cS] at this; exact this)
        have Ga : Good (cAtom ⟨d0, y⟩) (whAtom ⟨d0, y⟩) n5 := Good.app (good_Str n5 d0) G5 fun g h h' => by simp [cStr, idsL, D.ids] at h
        simp [hL, hlt, <- hli, dSl, cS, s136_10, ]
        exact hK y _ ⟨p5, k5, ⟨n5, by omega, hm5, Ga⟩, u5⟩ rfl rfl (by simp <;> omega) (by simp) (by simp [dSl, cAtom, cStr, cS])
    rintro y hs5 t m ⟨py, ky, ⟨m5, hm5, hm5', Ga⟩, uy⟩ hh5
    obtain ⟨ys2, hys2⟩ : ∃ ys2, ys2 = ys ++ [(⟨d0, y⟩ : Atom)] := ⟨_, rfl⟩
    have hI2 := hI.snoc (by simpa using hlt) (by rw [hpa y py, List.getElem_map, <- hli]) (show okAtom (⟨d0, y⟩ : Atom) from ⟨show d0.length <= maxLen by simp only [maxLen]; omega, ky⟩) ⟨by omega, by omega⟩ hm5' Ga uy
    rw [<- hys2] at hI2 ⊢
    obtain ⟨n0, hn0⟩ : ∃ n0, n0 = prsM (ls.take i) := ⟨_, rfl⟩
    rw [<- hn0] at hns hn5 ⊢
    simp [dSl, cS, s136_17, ]
    refine loop_rule (X := Nat) (fun k => k <= li.length) (fun k => [(0, .d (.str s)), (2, .ptr 2 0 0), (3, .d (.bool false)), (5, .ptr 5 0 0), (6, .d (.sl cid cT (ls.map cStr))), (7, .d (.int .i64 i)), (9, .d (.int .i64 k))]) (fun k => [(2, some (.box [.d (.int .i64 0), .d (.sl none none []), .d (.sl none none [])])), (5, some (.box [.d (.int .i64 (vcS n0 (li.take k))), .own 900 0 ys2.length, .d (dSl cI y0)])), (900, some (.row 78 2 (ys2.map cAtom)))]) (fun k => li.length - k) 0 (by simp) (by simp) (by simp [dSl, vcS]) ?_
    intro k hs6 t m hk hh6
    by_cases hkl : k < li.length
    · have hwk := wr1 (i := k) (by omega)
      have hst := vcS_step (n := n0) hkl
      have hin := vcS_in (li.take k) hn5
      obtain ⟨nk, hnk⟩ : ∃ nk, nk = vcS n0 (li.take k) := ⟨_, rfl⟩
      obtain ⟨c, hc⟩ : ∃ c, c = li[k] := ⟨_, rfl⟩
      rw [<- hnk, <- hc] at hst
      rw [<- hnk] at hin ⊢
      have hsl : (li.drop k).take 1 = [c] := by rw [List.drop_eq_getElem_cons hkl, hc]; rfl
      refine anyQ fun Q => ?_
      simp [hlt, <- hli, hkl, dSl, cS, s136_10, s136_17, ]
      refine loop_rule (X := Int × Int) (fun p => VcI c nk p.1 p.2) (fun p => [(0, .d (.str s)), (2, .ptr 2 0 0), (3, .d (.bool false)), (5, .ptr 5 0 0), (6, .d (.sl cid cT (ls.map cStr))), (7, .d (.int .i64 i)), (9, .d (.int .i64 k)), (10, .d (.int .i64 p.1))]) (fun p => [(2, some (.box [.d (.int .i64 0), .d (.sl none none []), .d (.sl none none [])])), (5, some (.box [.d (.int .i64 p.2), .own 900 0 ys2.length, .d (dSl cI y0)])), (900, some (.row 78 2 (ys2.map cAtom)))]) (fun p => (5 - p.1).toNat) (nk, nk) (VcI.zero hin) (by simp) (by simp [dSl]) ?_
      rintro ⟨v, cur⟩ hs7 t m hV hh7
      have hv5 := hV.le
      simp only at hv5
      by_cases hv : v < 5
      · have hn := hV.step hv
        have hwv : IntKind.i64.wrap (v + 1) = v + 1 := wrap64_of (by omega) (by omega)
        refine anyQ fun Q => ?_
        simp [hlt, <- hli, hkl, hwk, hv, dSl, cS, s136_10, s136_17, ]
        repeat' apply And.intro
        all_goals (try omega)
        all_goals
          refine call_f (w_spec_VariableName v) (by simp) rfl fun hs8 hh8 => ?_
          simp at hh8
          by_cases e : varNm v = [c]
          · rw [if_pos e] at hn
            simp [hlt, <- hli, hkl, hwk, hv, hwv, e, hsl, dSl, cS, s136_10, s136_17, ]
            exact back (_, _) hn (by simp only; omega) rfl (by simp <;> omega) (by simp) (by simp [dSl])
          · rw [if_neg e] at hn
            simp [hlt, <- hli, hkl, hwk, hv, hwv, e, hsl, dSl, cS, s136_10, s136_17, ]
            exact back (_, _) hn (by simp only; omega) rfl (by simp <;> omega) (by simp) (by simp [dSl])
      · have hd := hV.done hv
        simp [hv, hwk, dSl, cS, s136_10, s136_17, ]
        exact back (k + 1) (by omega) (by omega) rfl (by simp <;> omega) (by simp) (by simp [dSl, hst, hd])
    · have hkl' : k = li.length := by omega
      subst hkl'
      simp [hlt, <- hli, hwi, dSl, cS, s136_10, s136_17, ]
      exact back2 (i + 1, ys2) (copI_up hI2 (by simp <;> omega)) (by simp only; omega) rfl (by simp <;> omega) (by simp) (by simp [dSl, hns])
  · have hil : i = ls.length := by omega
    have hall := hI.all (by simp; omega)
    rw [hil, List.take_of_length_le (Nat.le_refl _)]
    have hFq : ∀ g : Option Nat, plQuery ⟨prsM ls, ⟨g, some (78, 2), ys⟩, y0⟩ = prsC s := fun g => by
      rw [hC]
      simp only [plQuery, plS, hall, map_plI, p0, plI]
    have hsz : ∀ a ∈ (prsC s).atoms, a.rel.length <= maxLen := fun a ha => by
      rw [hC] at ha
      simp only [List.mem_map] at ha
      obtain ⟨x, hx, rfl⟩ := ha
      have := hlm x hx
      have h2 : ((cutB 40 x).getD 0 []).length <= x.length := by
        have h3 := (cutA_len 40 x []).2
        cases h : cutB 40 x with
        | nil => simp
        | cons a r => exact cutB_mem (c := 40) (s := x) (by rw [h]; simp)
      simp only [prsA, maxLen]; omega
    have hpA : hpLL (ys.map cAtom) = false := hpLL_map (fun a => by simp) ys
    have hBe : prsB' s = (decide (fmtQ (prsC s) = s) && decide (s ≠ [])) := by rw [hB]; simp
    refine seqAny2 fun b' => ?_
    simp [dSl, cS, hil, s136_10, s136_17, ]
    refine call_own (post := fun _ r => r = .d (.str (fmtQ (prsC s)))) (by simp) (fun γ n hn hg => ⟨[.agg ((cQuery ⟨prsM ls, ⟨γ 900, some (78, 2), ys⟩, y0⟩).map V.d)], by simp [hpA, cQuery, cS, dSl, List.take_of_length_le], ?_⟩) (by rintro _ _ rfl; simp [V.ids, D.ids, V.hp, D.hp]) fun n9 hs9 r9 hn9 hm9 hp9 hr9 => ?_
    · refine (w_spec_FormatQuery (prsC s) hsz).er ?_
      simp only [rpL, rp, rpL_d, Option.map_some, er_cQuery, hFq]
    obtain rfl := hp9
    replace hn9 : hs <= n9 := hn9
    have fin : ∀ (γ : Nat -> Option Nat) (hs' : Nat) (σ : St), σ.B = B -> σ.m 900 = some (.row 78 2 (ys.map cAtom)) -> σ.m 5 = some (.box [.d (.int .i64 (prsM ls)), .own 900 0 ys.length, .d (.sl y0.id y0.T (y0.xs.map cI))]) -> Gam σ γ hs' -> plQuery ⟨prsM ls, ⟨γ 900, some (78, 2), ys⟩, y0⟩ = prsC s /\ okQuery ⟨prsM ls, ⟨γ 900, some (78, 2), ys⟩, y0⟩ /\ Good (cQuery ⟨prsM ls, ⟨γ 900, some (78, 2), ys⟩, y0⟩) (whQuery ⟨prsM ls, ⟨γ 900, some (78, 2), ys⟩, y0⟩) B := fun γ hs' σ hσB hm9 hm5 hg => by
      obtain ⟨q1, q2⟩ := gam_at hg hm9
      rw [hσB] at q1
      have q3 := gam_row hg hm9
      have qf : ∀ g, γ 900 = some g -> g ∉ (dSl cI y0).ids := fun g hγ => by
        have hb := (hg.fr 900 78 2 _ g hm9 hγ).1.box 5 _ hm5
        simpa [V.ids, idsVL, D.ids, idsLL, dSl] using hb
      clear hg
      have hG := hI.good
      have K2 : Good (cS cAtom ⟨γ 900, some (78, 2), ys⟩) (whS whAtom ⟨γ 900, some (78, 2), ys⟩) B := good_row (fun g hg => (q1 g hg).1) (by simpa using q2) q3 ⟨hG.nd, fun g hg => Nat.le_trans (by omega) (hG.lo g hg)⟩ hG.wh
      refine ⟨hFq _, ⟨trivial, ⟨by simp only [maxLen]; show ys.length <= _; omega, hI.ok⟩, k0⟩, ?_⟩
      have K1 := Good.app (good_I B (prsM ls)) K2 (fun g h h' => by simp [cI, idsL, D.ids] at h)
      have K := Good.app K1 (G0.le (show B <= n2 by omega)) (fun g h h' => by
        have h0 := u0 g h'
        rw [idsL_app] at h
        rcases List.mem_append.1 h with h | h
        · simp [cI, idsL, D.ids] at h
        · rw [idsL_cS] at h h'
          simp only [dSl, D.ids, List.mem_append] at h
          rcases h with h | h
          · exact qf g (by cases hk : γ 900 with
              | none => rw [hk] at h; simp at h
              | some z => rw [hk] at h; simp at h; rw [h]) h'
          · have := hG.lo g h; omega)
      exact ⟨K.nd, K.lo, K.wh.1.1, K.wh.1.2, K.wh.2⟩
    by_cases hf : fmtQ (prsC s) = s
    case neg =>
      have hBf : prsB' s = false := by rw [hBe]; simp [hf]
      have hP : prsP s = ⟨0, [], []⟩ := by rw [prsP, if_neg (by rw [hBf]; simp)]
      simp [hf, hBf, hP, dSl, cS, s136_10, s136_17, ]
      exact ⟨⟨0, nilS, nilS⟩, by simp [cQuery, cS, dSl, nilS], (h0 B).1, (h0 B).2.1, (h0 B).2.2, by simp [nilS], by simp [nilS]⟩
    by_cases hs0 : s = []
    · have hBf : prsB' s = false := by rw [hBe]; simp [hs0]
      have hP : prsP s = ⟨0, [], []⟩ := by rw [prsP, if_neg (by rw [hBf]; simp)]
      have hf' := eq_true hf
      have hs0' := eq_true hs0
      simp [hf', hs0', hBf, hP, dSl, cS, s136_10, s136_17, ]
      exact ⟨⟨0, nilS, nilS⟩, by simp [cQuery, cS, dSl, nilS], (h0 B).1, (h0 B).2.1, (h0 B).2.2, by simp [nilS], by simp [nilS]⟩
    have hBf : prsB' s = true := by rw [hBe]; simp [hs0, hf]
    have hP : prsP s = prsC s := by rw [prsP, if_pos hBf]
    have hf' := eq_true hf
    have hs0' := eq_false hs0
    simp [hf', hs0', hBf, hP, dSl, cS, s136_10, s136_17, ]
    intro γ hs' h1' hg
    have hfin := fin γ hs' _ rfl (by simp) (by simp) hg
    clear hg
    exact ⟨⟨prsM ls, ⟨γ 900, some (78, 2), ys⟩, y0⟩, by simp [cQuery, cS, dSl, hpA, List.take_of_length_le], hfin.1, hfin.2.1, hfin.2.2, fun _ _ => rfl, fun _ _ => T0⟩
end
end Go.Proofs.YtmgphabeodaokaaGreat
namespace Go.Proofs.YtmgphabeodaokaaGreat
open Go.Vs Go.Proofs Go
set_option maxRecDepth 100000
set_option maxHeartbeats 1000000
structure QryC (tA tI : Nat) (b : Sl Int) (n : Nat) (r : V) (cs : List V) : Prop where
  ex : ∃ (c' : Nat × Int) (y : Query), r = .agg ((cQuery y).map V.d) /\ okQuery y /\ Good (cQuery y) (whQuery y) n /\ queryOk (plQuery y) = true /\ smallQ (plQuery y) /\ ((∀ g, y.atoms.id = some g -> y.atoms.T = some (tA, 2)) /\ (∀ g, y.out.id = some g -> y.out.T = some (tI, 1))) /\ cs = (curD b c').map V.d /\ curO b c'
section
attribute [local simp] pS dSl cP cI cW
theorem w_spec_l7Query (b : Sl Int) (c : Nat × Int) (hb : b.xs.length <= 1048576) (hc : curO b c) : VX Tryz.prog 115 [] [.ptr 1000 0 0] (some ((curD b c).map V.d)) (fun n r cs _ => QryC 78 3 b n r cs) := by
  refine VX.of E s115 (by kernel_rfl) Tryz.func115 (by rfl) (by kernel_rfl) (by simp [Tryz.f115]) (by simp [Tryz.f115]) s115_ok ?_ ?_ fun B hB => ?_
  · simp
  · rintro cs h
    cases h
    simp [curD]
  simp [Tryz.f115, s115_14, s115_14, curD]
  refine call_curK c E122 (w_spec_l1Pick b c knownQ hb hc (by simp [knownQ]) (by simp [knownQ])) (by simp) (by simp [curD]) (by simp [knownQ, cStr]) fun r0 c0 hs0 hh0 hq0 hl0 o0 => ?_
  obtain ⟨s, rfl, hs⟩ := hq0
  have hsl := known_len s hs
  have hB0 : B <= hs0 := hh0
  simp [s115_14, curD]
  refine call_some (e_spec_ParseQuery s (by omega)) (by simp) (by simp) fun n1 hs1 r1 hn1 hm1 hp1 hr1 => ?_
  obtain ⟨q, rfl, pq, kq, Gq, TA, TI⟩ := hp1
  have hn1' : hs0 <= n1 := hn1
  have okq := known_ok s hs
  have smq := known_small s hs
  rw [<- pq] at okq smq
  obtain ⟨qn, ⟨qaid, qaT, qa⟩, ⟨qoid, qoT, qo⟩⟩ := q
  have hfin : ∀ c' : Nat × Int, curO b c' -> QryC 78 3 b B (.agg ((cQuery ⟨qn, ⟨qaid, qaT, qa⟩, ⟨qoid, qoT, qo⟩⟩).map V.d)) ((curD b c').map V.d) := fun c' ho => ⟨⟨c', _, rfl, kq, Gq.le (by omega), okq, smq, ⟨TA, TI⟩, rfl, ho⟩⟩
  simp [cQuery, cS, s115_14, curD]
  refine call_cur c0 E106 (w_spec_l1Once b c0 3 hb o0 (by omega)) (by simp) (by simp [curD]) (by simp) (by simp) fun r2 c2 hs2 hh2 hq2 hl2 o2 => ?_
  obtain ⟨u, rfl⟩ := hq2
  have hh2' : hs1 <= hs2 := hh2
  cases u
  · simp [vendX, cQuery, cS, s115_14, curD]
    intro γ hs' h1 hg
    clear hg
    simpa [cQuery, cS, curD] using hfin c2 o2
  simp [cQuery, cS, s115_14, curD]
  refine call_cur c2 E32 (w_spec_l1Below b c2 4 hb o2 (by omega)) (by simp) (by simp [curD]) (by simp) (by simp) fun r3 c3 hs3 hh3 hq3 hl3 o3 => ?_
  obtain ⟨N, rfl, N0, N1, _⟩ := hq3
  have N1 := N1 (by omega)
  have hh3' : hs2 <= hs3 := hh3
  have hwN : IntKind.i64.wrap (1 + N) = 1 + N := wrap64_of (by omega) (by omega)
  simp [hwN, s115_14, curD]
  refine call_cur c3 E32 (w_spec_l1Below b c3 4 hb o3 (by omega)) (by simp) (by simp [curD]) (by simp) (by simp) fun r4 c4 hs4 hh4 hq4 hl4 o4 => ?_
  obtain ⟨M, rfl, M0, M1, _⟩ := hq4
  have M1 := M1 (by omega)
  have hh4' : hs3 <= hs4 := hh4
  obtain ⟨M, rfl⟩ : ∃ k : Nat, M = k := ⟨M.toNat, by omega⟩
  have hwM : IntKind.i64.wrap (1 + (M : Int)) = ((M + 1 : Nat) : Int) := by rw [wrap64_of (by omega) (by omega)]; omega
  obtain ⟨N', hN'⟩ : ∃ N' : Int, N' = 1 + N := ⟨_, rfl⟩
  simp [hwM, <- hN', cQuery, cS, curD]
  refine loop_ruleL (X := (Nat × Int) × List Atom × Nat) (fun p h => curO b p.1 /\ p.2.1.length + p.2.2 <= 4 /\ GoodL cAtom whAtom B h p.2.1 /\ ∀ y ∈ p.2.1, okAtom y) (fun p => [(0, .ptr 1000 0 0), (2, .ptr 2 0 0), (4, .ptr 4 0 0), (6, .ptr 6 0 0), (7, .d (.int .i64 p.2.2))]) (fun p => [(1000, some (.box ((curD b p.1).map V.d))), (2, some (.box [.d (.int .i64 0), .d (.sl none none []), .d (.sl none none [])])), (4, some (.box ((cQuery ⟨qn, ⟨qaid, qaT, qa⟩, ⟨qoid, qoT, qo⟩⟩).map V.d))), (6, some (.box [.d (.int .i64 N'), .own 900 0 p.2.1.length, .d (.sl none none [])])), (900, some (.row 78 2 (p.2.1.map cAtom)))]) (fun p => p.2.2) ?_ ?_
  · refine (lead_box 6 1 900 78 2 [.d (.int .i64 N'), .d (.sl none none []), .d (.sl none none [])] (by omega) (by omega) (by omega) (by simp) rfl).bind ?_
    rintro _ rfl
    exact Lead.of ⟨(c4, [], M + 1), ⟨o4, by simp; omega, GoodL.nil, by simp⟩, rfl, rfl, Nat.le_refl _, by simp, by simp [curD, cQuery, cS]⟩
  rintro ⟨c5, ys, k⟩ hs t m ⟨o5, hyl, hG, hyk⟩ hh
  simp only at o5 hyl hG hyk
  have hh' : hs4 <= hs := hh
  cases k with
  | succ k =>
    obtain ⟨u, hu⟩ : ∃ u : Nat, u = k + 1 := ⟨_, rfl⟩
    have hup : 0 < u := by omega
    have hwm : IntKind.i64.wrap ((u : Int) - 1) = k := by rw [wrap64_of (by omega) (by omega)]; omega
    have hL : LenOk 40 (ys.length + 1) := ⟨by omega, by simp only [maxLen]; omega⟩
    rw [<- hu] at hyl ⊢
    refine anyQ2 fun Q => ?_
    simp [hup, cQuery, cS, curD, ]
    refine call_cur c5 E32 (w_spec_l1Below b c5 5 hb o5 (by omega)) (by simp) (by simp [curD]) (by simp) (by simp) fun r6 c6 hs6 hh6 hq6 hl6 o6 => ?_
    obtain ⟨x, rfl, x0, x1, _⟩ := hq6
    have x1 := x1 (by omega)
    have hh6' : hs <= hs6 := hh6
    obtain ⟨j, rfl⟩ : ∃ j : Nat, x = j := ⟨x.toNat, by omega⟩
    have hj : j < nms.length := by rw [nms_len]; omega
    have hj5 : j < 5 := by omega
    obtain ⟨nm, hnm⟩ : ∃ nm, nm = nms[j]'hj := ⟨_, rfl⟩
    have hnl : nm.length <= 10 := by rw [hnm]; exact nms_one _ (List.getElem_mem hj)
    have eN : [[D.str [114]], [D.str [115]], [D.str [116]], [D.str [117]], [D.str [118]]] = nms.map cStr := rfl
    obtain ⟨M2, hM2⟩ : ∃ M2 : Nat, IntKind.i64.wrap (2 + IntKind.i64.wrap ((j : Int) / 4)) = M2 /\ M2 <= 3 := by
      have h5 : j = 0 \/ j = 1 \/ j = 2 \/ j = 3 \/ j = 4 := by omega
      rcases h5 with rfl | rfl | rfl | rfl | rfl
      · exact ⟨2, by decide, by omega⟩
      · exact ⟨2, by decide, by omega⟩
      · exact ⟨2, by decide, by omega⟩
      · exact ⟨2, by decide, by omega⟩
      · exact ⟨3, by decide, by omega⟩
    obtain ⟨hM2, hM3⟩ := hM2
    simp [eN, hj, hj5, <- hnm, hM2, nms_len, cStr, cQuery, cS, curD, ]
    refine loop_ruleL (X := (Nat × Int) × List Int × Nat) (fun p h => (curO b p.1 /\ p.2.1.length + p.2.2 <= 3)) (fun p => [(0, .ptr 1000 0 0), (2, .ptr 2 0 0), (4, .ptr 4 0 0), (6, .ptr 6 0 0), (7, .d (.int .i64 u)), (9, .ptr 9 0 0), (10, .d (.int .i64 p.2.2))]) (fun p => [(1000, some (.box ((curD b p.1).map V.d))), (2, some (.box [.d (.int .i64 0), .d (.sl none none []), .d (.sl none none [])])), (4, some (.box ((cQuery ⟨qn, ⟨qaid, qaT, qa⟩, ⟨qoid, qoT, qo⟩⟩).map V.d))), (6, some (.box [.d (.int .i64 N'), .own 900 0 ys.length, .d (.sl none none [])])), (900, some (.row 78 2 (ys.map cAtom))), (9, some (.box [.d (.str nm), .own 901 0 p.2.1.length])), (901, some (.row 3 1 (p.2.1.map cI)))]) (fun p => p.2.2) ?_ ?_
    · refine (lead_box 9 1 901 3 1 [.d (.str nm), .d (.sl none none [])] (by omega) (by omega) (by omega) (by simp) rfl).bind ?_
      rintro _ rfl
      exact Lead.of ⟨(c6, [], M2), ⟨o6, by simp; omega⟩, rfl, rfl, Nat.le_refl _, by simp, by simp [curD, cQuery, cS]⟩
    rintro ⟨c7, vs, k2⟩ hs7 t m ⟨o7, hvl⟩ hh7
    simp only at o7 hvl
    have hh7' : hs6 <= hs7 := hh7
    cases k2 with
    | succ k2 =>
      obtain ⟨u2, hu2⟩ : ∃ u2 : Nat, u2 = k2 + 1 := ⟨_, rfl⟩
      have hup2 : 0 < u2 := by omega
      have hwm2 : IntKind.i64.wrap ((u2 : Int) - 1) = k2 := by rw [wrap64_of (by omega) (by omega)]; omega
      have hL2 : LenOk 8 (vs.length + 1) := ⟨by omega, by simp only [maxLen]; omega⟩
      rw [<- hu2] at hvl ⊢
      refine anyQ2 fun Q => ?_
      simp [hup2, cQuery, cS, curD, ]
      refine cutT (X := (Nat × Int) × Int) (fun p _ => curO b p.1) (fun _ => [(0, .ptr 1000 0 0), (2, .ptr 2 0 0), (4, .ptr 4 0 0), (6, .ptr 6 0 0), (7, .d (.int .i64 u)), (9, .ptr 9 0 0), (10, .d (.int .i64 u2))]) (fun p => [(1000, some (.box ((curD b p.1).map V.d))), (2, some (.box [.d (.int .i64 0), .d (.sl none none []), .d (.sl none none [])])), (4, some (.box ((cQuery ⟨qn, ⟨qaid, qaT, qa⟩, ⟨qoid, qoT, qo⟩⟩).map V.d))), (6, some (.box [.d (.int .i64 N'), .own 900 0 ys.length, .d (.sl none none [])])), (900, some (.row 78 2 (ys.map cAtom))), (9, some (.box [.d (.str nm), .own 901 0 (vs ++ [p.2]).length])), (901, some (.row 3 1 ((vs ++ [p.2]).map cI)))]) ?_ ?_
      · intro K hK
        simp [hup2, cQuery, cS, curD, s115_14, ]
        repeat' apply And.intro
        all_goals
          refine call_cur c7 E32 (w_spec_l1Below b c7 N' hb o7 (by omega)) (by simp) (by simp [curD]) (by simp) (by simp) fun r8 c8 hs8 hh8 hq8 hl8 o8 => ?_
          obtain ⟨v, rfl, _, _, _⟩ := hq8
          simp [hL2, hup2, List.take_of_length_le, cQuery, cS, curD, s115_14, ]
          exact hK (c8, v) _ o8 rfl rfl (by simpa using hh8) (by simp) (by simp [curD, cQuery, cS])
      rintro ⟨c8, v⟩ hs8 t m o8 hh8
      simp only at o8
      simp [hwm2, cQuery, cS, curD, ]
      exact back2 (c8, vs ++ [v], k2) ⟨o8, by simp; omega⟩ (by simp only; omega) rfl (by simp <;> omega) (by simp) (by simp [curD, cQuery, cS])
    | zero =>
      have hpI : hpLL (vs.map cI) = false := hpLL_mapI _
      simp [cQuery, cS, curD, ]
      rw [w_bs1 (k' := 901) (ks := []) _ _ _ (by simp) (by simp)]
      intro γ hs8 h1 hg
      simp only at h1
      obtain ⟨q1, q2⟩ := gam_at hg (k := 901) (T := 3) (sz := 1) (es := vs.map cI) (by simp)
      have q3 := gam_row2 hg (k := 901) (T := 3) (sz := 1) (es := vs.map cI) (k2 := 900) (T2 := 78) (sz2 := 2) (es2 := ys.map cAtom) (by simp) (by simp)
      clear hg
      have hid : ∀ L : List Int, idsLL (L.map cI) = [] := fun L => by simp
      simp [vpre, vnext, veff, vval, isPure, St.frzs, St.frz, Vs.frz, hpI, hL, hwm, List.take_of_length_le]
      have hgi : Good (cS cI (⟨γ 901, some (3, 1), vs⟩ : Ints)) (whS whI ⟨γ 901, some (3, 1), vs⟩) B := good_ints (fun g hg => (q1 g hg).1) (by simpa using q2)
      have hy : ∀ g, g ∈ idsL (cAtom ⟨nm, ⟨γ 901, some (3, 1), vs⟩⟩) -> γ 901 = some g := fun g hg => by
        rw [cAtom, idsL_app] at hg
        have hg := (List.mem_append.1 hg).resolve_left (by simp [cStr, idsL, D.ids])
        rw [idsL_cS] at hg
        rcases mem_sl_ids.1 hg with h | h
        · exact h
        · simp only at h; rw [hid] at h; simp at h
      have hGa : Good (cAtom ⟨nm, ⟨γ 901, some (3, 1), vs⟩⟩) (whAtom ⟨nm, ⟨γ 901, some (3, 1), vs⟩⟩) B := Good.app (good_Str B nm) hgi fun g h h' => by simp [cStr, idsL, D.ids] at h
      refine back2 (c7, ys ++ [⟨nm, ⟨γ 901, some (3, 1), vs⟩⟩], k) ⟨o7, by simp; omega, ?_, ?_⟩ (by simp only; omega) rfl (by simp <;> omega) (by simp) (by simp [curD, cAtom, cStr, cQuery, cS, List.take_of_length_le])
      · exact GoodL.snoc2 hG (by simp <;> omega) hGa (fun g hg => q3 g (hy g hg)) (fun g hg => (q1 g (hy g hg)).2)
      · intro z hz
        rcases List.mem_append.1 hz with hz | hz
        · exact hyk z hz
        · rw [List.mem_singleton.1 hz]
          exact ⟨show nm.length <= maxLen by simp only [maxLen]; omega, by show vs.length <= maxLen; simp only [maxLen]; omega, fun _ _ => trivial⟩
  | zero =>
    have hN5 : 1 <= N' /\ N' <= 4 := by omega
    refine seqAny2 fun b' => ?_
    simp [cQuery, cS, curD, ]
    refine loop_rule2 (X := (Nat × Int) × Ints × Nat) (fun p h => (curO b p.1 /\ (p.2.2 : Int) <= N' /\ p.2.1.xs.length <= p.2.2) /\ okS okI p.2.1 /\ Good (cS cI p.2.1) (whS whI p.2.1) B /\ (∀ g ∈ idsL (cS cI p.2.1), g < h /\ g ∉ idsLL (ys.map cAtom)) /\ ∀ g, p.2.1.id = some g -> p.2.1.T = some (3, 1)) (fun p => [(0, .ptr 1000 0 0), (2, .ptr 2 0 0), (4, .ptr 4 0 0), (6, .ptr 6 0 0), (11, .d (.int .i64 p.2.2))]) (fun p => [(1000, some (.box ((curD b p.1).map V.d))), (2, some (.box [.d (.int .i64 0), .d (.sl none none []), .d (.sl none none [])])), (4, some (.box ((cQuery ⟨qn, ⟨qaid, qaT, qa⟩, ⟨qoid, qoT, qo⟩⟩).map V.d))), (6, some (.box [.d (.int .i64 N'), .own 900 0 ys.length, .d (dSl cI p.2.1)])), (900, some (.row 78 2 (ys.map cAtom)))]) (fun p => 5 - p.2.2) (c5, nilS, 0) ⟨⟨o5, by simp; omega, by simp [nilS]⟩, ok_nilS, good_nilS B, fun g hg => by rw [idsL_cS] at hg; simp [nilS, dSl, D.ids, idsLL] at hg, by simp [nilS]⟩ (by simp) (by simp [curD, cQuery, cS, nilS]) ?_
    rintro ⟨c6, out, i⟩ hs6 t m ⟨⟨o6, hiN, hol⟩, hok, hGo, hgo, hTo⟩ hh6
    simp only at o6 hiN hol hok hGo hgo hTo
    by_cases hlt : (i : Int) < N'
    · have hwi := wr1 (i := i) (by omega)
      refine anyQ2 fun Q => ?_
      simp [hlt, cQuery, cS, curD, s115_14, ]
      refine call_cur c6 E106 (w_spec_l1Once b c6 2 hb o6 (by omega)) (by simp) (by simp [curD]) (by simp) (by simp) fun r7 c7 hs7 hh7 hq7 hl7 o7 => ?_
      obtain ⟨u, rfl⟩ := hq7
      have hh7' : hs6 <= hs7 := hh7
      cases u
      · simp [hwi, cQuery, cS, curD, s115_14, ]
        exact back2 (c7, out, i + 1) ⟨⟨o7, by simp only; omega, by simp only; omega⟩, hok, hGo, fun g hg => ⟨by have := (hgo g hg).1; simp <;> omega, (hgo g hg).2⟩, hTo⟩ (by simp only; omega) rfl (by simp <;> omega) (by simp) (by simp [curD, cQuery, cS])
      · have hL : LenOk 8 (1 + out.xs.length) := ⟨by omega, by simp only [maxLen]; omega⟩
        have hL' : LenOk 8 (out.xs.length + 1) := ⟨by omega, by simp only [maxLen]; omega⟩
        simp [hwi, hL, hL', List.take_of_length_le, cQuery, cS, curD, s115_14, ]
        refine Back2.lead (lead_frz 73 (T := 3) (sz := 1) (es := ((i : Int) :: out.xs).map cI) (by simp)) ?_
        rintro _ ⟨γ, hs8, h8, hg, rfl⟩
        obtain ⟨q1, q2⟩ := gam_at hg (k := 73) (T := 3) (sz := 1) (es := ((i : Int) :: out.xs).map cI) (by simp)
        have q3 := gam_row2 hg (k := 73) (T := 3) (sz := 1) (es := ((i : Int) :: out.xs).map cI) (k2 := 900) (T2 := 78) (sz2 := 2) (es2 := ys.map cAtom) (by simp) (by simp)
        clear hg
        simp only at h8 q1
        have hpo : hpLL (out.xs.map cI) = false := hpLL_mapI _
        have hy : ∀ g, g ∈ idsL (cS cI (⟨γ 73, some (3, 1), (i : Int) :: out.xs⟩ : Ints)) -> γ 73 = some g := fun g hg => by
          rw [idsL_cS] at hg
          rcases mem_sl_ids.1 hg with h | h
          · exact h
          · have hid : ∀ L : List Int, idsLL (L.map cI) = [] := fun L => by simp
            simp only at h
            rw [hid] at h
            cases h
        refine back2 (c7, ⟨γ 73, some (3, 1), (i : Int) :: out.xs⟩, i + 1) ⟨⟨o7, by simp only; omega, by simp only [List.length_cons]; omega⟩, ⟨by simp only [List.length_cons, maxLen]; omega, fun _ _ => trivial⟩, good_ints (fun g hg => (q1 g hg).1) (by simpa using q2), fun g hg => ⟨by have := (q1 g (hy g hg)).2; simpa using this, q3 g (hy g hg)⟩, fun _ _ => rfl⟩ (by simp only; omega) rfl (by simp <;> omega) (by simp) (by simp [hpo, Vs.frz, St.frz, Nat.add_comm 1, List.take_of_length_le, curD, cQuery, cS])
    · have hlt' := hlt
      refine seqAny2 fun b' => ?_
      simp [hlt, cQuery, cS, curD, s115_14, ]
      have hpA : hpLL (ys.map cAtom) = false := hpLL_map (fun a => by simp) ys
      have hQe : ∀ g : Option Nat, plQuery ⟨N', ⟨g, some (78, 2), ys⟩, out⟩ = ⟨N', ys.map plAtom, out.xs⟩ := fun g => by
        simp only [plQuery, plS, map_plI, plI]
      have hsz : ∀ a ∈ (⟨N', ys.map plAtom, out.xs⟩ : PQuery).atoms, a.rel.length <= maxLen := fun a ha => by
        obtain ⟨y, hy, rfl⟩ := List.mem_map.1 ha
        exact (hyk y hy).1
      refine call_own (post := fun _ r => r = .d (.bool (queryOk ⟨N', ys.map plAtom, out.xs⟩))) (by simp) (fun γ n hn hg => ⟨[.agg ((cQuery ⟨N', ⟨γ 900, some (78, 2), ys⟩, out⟩).map V.d)], by simp [hpA, cQuery, cS, dSl, List.take_of_length_le], ?_⟩) (by rintro _ _ rfl; simp [V.ids, D.ids, V.hp, D.hp]) fun n9 hs9 r9 hn9 hm9 hp9 hr9 => ?_
      · refine (w_spec_IsValidQuery ⟨N', ys.map plAtom, out.xs⟩ hsz).er ?_
        simp only [rpL, rp, rpL_d, Option.map_some, er_cQuery, hQe]
      obtain rfl := hp9
      replace hn9 : hs6 <= n9 := hn9
      cases hv : queryOk ⟨N', ys.map plAtom, out.xs⟩
      · simp [vendX, cQuery, cS, s115_14, curD]
        intro γ hs' h1 hg
        clear hg
        simpa [cQuery, cS, curD] using hfin c6 o6
      simp [vendX, cQuery, cS, s115_14, curD]
      intro γ hs' h1 hg
      obtain ⟨q1, q2⟩ := gam_at hg (k := 900) (T := 78) (sz := 2) (es := ys.map cAtom) (by simp)
      have q3 := gam_row hg (k := 900) (T := 78) (sz := 2) (es := ys.map cAtom) (by simp)
      have qf : ∀ g, γ 900 = some g -> g ∉ idsL (cS cI out) := fun g hγ => by
        have hb := (hg.fr 900 78 2 (ys.map cAtom) g (by simp) hγ).1.box 6 [.d (.int .i64 N'), .own 900 0 ys.length, .d (dSl cI out)] (by simp)
        rw [idsL_cS]
        simpa [V.ids, idsVL, D.ids, idsLL, dSl] using hb
      clear hg
      have K2 : Good (cS cAtom ⟨γ 900, some (78, 2), ys⟩) (whS whAtom ⟨γ 900, some (78, 2), ys⟩) B := good_row (fun g hg => (q1 g hg).1) (by simpa using q2) q3 ⟨hG.nd, hG.lo⟩ hG.wh
      have K1 := Good.app (good_I B N') K2 (fun g h h' => by simp [cI, idsL, D.ids] at h)
      have K := Good.app K1 hGo (fun g h h' => by
        rw [idsL_app] at h
        rcases List.mem_append.1 h with h | h
        · simp [cI, idsL, D.ids] at h
        · rw [idsL_cS] at h
          rcases mem_sl_ids.1 h with h | h
          · exact qf g h h'
          · exact (hgo g h').2 h)
      have hfx : QryC 78 3 b B (.agg ((cQuery ⟨N', ⟨γ 900, some (78, 2), ys⟩, out⟩).map V.d)) ((curD b c6).map V.d) := ⟨⟨c6, _, rfl, ⟨trivial, ⟨by simp only [maxLen]; show ys.length <= _; omega, hyk⟩, hok⟩, ⟨K.nd, K.lo, K.wh.1.1, K.wh.1.2, K.wh.2⟩, by rw [hQe]; exact hv, by rw [hQe]; exact .inl (by simp only; omega), ⟨fun _ _ => rfl, hTo⟩, rfl, o6⟩⟩
      simpa [hpA, cQuery, cS, curD, List.take_of_length_le] using hfx
end
end Go.Proofs.YtmgphabeodaokaaGreat
namespace Go.Proofs.YtmgphabeodaokaaGreat
open Go.Vs Go.Proofs Go
set_option maxRecDepth 100000
set_option maxHeartbeats 1000000
theorem call_qry {tA tI : Nat} {P : Program} {E : Md} {args : List Operand} {f : FuncId} {rest As : List V} {k : Nat} {dst : Option Tmp} {K : St -> Prop} {σ : St} {b : Sl Int} (c : Nat × Int) (hE : E f = true)
    (hc : VX P f [] (.ptr 1000 0 0 :: As) (some ((curD b c).map V.d)) (fun n r cs _ => QryC tA tI b n r cs)) (hvs : args.map σ.ev = .ptr k 0 0 :: rest) (hm : σ.m k = some (.box ((curD b c).map V.d)))
    (hr : rpL σ.m rest = some As) (hk : keysVL rest = [])
    (hK : ∀ (y : Query) c' n hs', σ.hs <= n -> n <= hs' -> okQuery y -> Good (cQuery y) (whQuery y) n -> (∀ g ∈ idsL (cQuery y), g < hs') -> queryOk (plQuery y) = true -> smallQ (plQuery y) -> (∀ g, y.atoms.id = some g -> y.atoms.T = some (tA, 2)) -> (∀ g, y.out.id = some g -> y.out.T = some (tI, 1)) -> curO b c' -> K ({ σ with hs := hs', m := upd σ.m k (some (.box ((curD b c').map V.d))) }.put dst (.agg ((cQuery y).map V.d)))) : vcallA P E f args (.ptr k 0 0 :: rest) dst K σ := by
  refine call_xi hE hvs hm hr (by simp [curD, dSl]) hc fun r cs' ws n hs' h1 h2 h3 h4 h5 h9 => ?_
  obtain ⟨c', y, rfl, h6, h7, h8, h10, ⟨h11, h12⟩, rfl, ho⟩ := h3.ex
  have : keysVL rest ++ keysVL ((curD b c).map V.d) = [] := by rw [hk]; simp [curD]
  rw [this]
  exact hK y c' n hs' h1 h2 h6 h7 (fun g hg => h9 g (by rw [ids_agg]; exact hg)) h8 h10 h11 h12 ho
structure QryA (b : Sl Int) (r : V) (cs : List V) : Prop where
  ex : ∃ (c' : Nat × Int) (y : Query), r = .agg ((cQuery y).map V.d) /\ okQuery y /\ QA (plQuery y) /\ cs = (curD b c').map V.d /\ curO b c'
section
attribute [local simp] pS dSl cP cI cW
theorem cAtom_len (t : Atom) : (cAtom t).length = 2 := by simp [cAtom, cStr, cS, cI]
theorem re_raw {g : Nat} {T : TypeId × Nat} {es es' : List (List D)} (h : es'.map List.length = es.map List.length) : reV (one g (.sl (some g) (some T) es')) (.d (.sl (some g) (some T) es)) = .d (.sl (some g) (some T) es') := by
  have h1 : reD (one g (.sl (some g) (some T) es')) (.sl (some g) (some T) es) = some (.sl (some g) (some T) es') := by
    simp only [reD, one, if_true]
    rw [if_pos]
    exact ⟨trivial, rfl, trivial, h⟩
  simp only [reV, h1]
theorem w_spec_l7Any (b : Sl Int) (c : Nat × Int) (hb : b.xs.length <= 1048576) (hc : curO b c) : VX Tryz.prog 117 [] [.ptr 1000 0 0] (some ((curD b c).map V.d)) (fun _ r cs _ => QryA b r cs) := by
  refine VX.of E s117 (by kernel_rfl) Tryz.func117 (by rfl) (by kernel_rfl) (by simp [Tryz.f117]) (by simp [Tryz.f117]) s117_ok ?_ ?_ fun B hB => ?_
  · simp
  · rintro cs h
    cases h
    simp [curD]
  simp [Tryz.f117, s117_6, s117_8, s117_12, s117_6, s117_8, s117_12, curD]
  refine call_qry c E115 (w_spec_l7Query b c hb hc) (by simp) (by simp [curD]) (by simp) (by simp) fun q c0 n0 hs0 hn0 hm0 kq Gq uq okq smq TA TI o0 => ?_
  obtain ⟨qn, ⟨qaid, qaT, qa⟩, ⟨qoid, qoT, qo⟩⟩ := q
  have hnB : B <= n0 := hn0
  have hQ : plQuery ⟨qn, ⟨qaid, qaT, qa⟩, ⟨qoid, qoT, qo⟩⟩ = ⟨qn, qa.map plAtom, qo⟩ := by simp only [plQuery, plS, map_plI, plI]
  rw [hQ] at okq smq
  have hsm := qok_small okq
  have hqv := qok_vars okq
  simp only [List.length_map] at hsm hqv
  obtain ⟨hal, hol, hat⟩ := hsm
  obtain ⟨⟨ar, ⟨avid, avT, av⟩⟩, ra, rfl⟩ : ∃ a ra, qa = a :: ra := by
    cases qa with
    | nil => simp at hqv
    | cons a r => exact ⟨a, r, rfl⟩
  have hav : 1 <= av.length := by
    have := (hqv.1 (plAtom ⟨ar, ⟨avid, avT, av⟩⟩) (by simp)).1
    simpa [plAtom, plS] using this
  obtain ⟨v0, rv, rfl⟩ : ∃ v rv, av = v :: rv := by
    cases av with
    | nil => simp at hav
    | cons a r => exact ⟨a, r, rfl⟩
  obtain ⟨_, hok1, hok2⟩ := kq
  have wh1 := Gq.wh.2.1
  have wh2 := Gq.wh.2.2
  obtain ⟨ga, rfl⟩ : ∃ ga, qaid = some ga := by
    cases hq : qaid with
    | none => have := wh1.1.nil hq; simp at this
    | some g => exact ⟨g, rfl⟩
  obtain rfl : qaT = some (78, 2) := TA ga rfl
  have wh3 := wh1.2 ⟨ar, ⟨avid, avT, v0 :: rv⟩⟩ (by simp)
  obtain ⟨gv, rfl⟩ : ∃ gv, avid = some gv := by
    cases hq : avid with
    | none => have := wh3.2.1.nil hq; simp at this
    | some g => exact ⟨g, rfl⟩
  obtain ⟨Tv, rfl⟩ : ∃ Tv, avT = some Tv := Option.isSome_iff_exists.1 (wh3.2.1.some (by simp))
  have eI : idsL (cQuery ⟨qn, ⟨some ga, some (78, 2), ⟨ar, ⟨some gv, some Tv, v0 :: rv⟩⟩ :: ra⟩, ⟨qoid, qoT, qo⟩⟩) = ga :: gv :: (idsLL (ra.map cAtom) ++ qoid.toList) := by
    simp [cQuery, cAtom, cStr, cS, idsL, D.ids, idsLL]
  have hnd := Gq.nd
  have hlo := Gq.lo
  rw [eI] at hnd hlo
  simp only [List.nodup_cons, List.mem_cons, List.mem_append, not_or] at hnd
  obtain ⟨⟨n1, n2, n3⟩, ⟨n4, n5⟩, n6⟩ := hnd
  have n7 := (List.nodup_append.1 n6).2.2
  have b1 : B <= ga := by have := hlo ga (by simp); omega
  have b2 : B <= gv := by have := hlo gv (by simp); omega
  have b3 : ∀ g, qoid = some g -> B <= g := fun g hg => by have := hlo g (by simp [hg]); omega
  have n3' : qoid ≠ some ga := fun h => n3 (by simp [h])
  have n5' : qoid ≠ some gv := fun h => n5 (by simp [h])
  have hn5 := queryOk_n5 okq
  simp only at hn5
  have hwn : IntKind.i64.wrap (qn + 1) = qn + 1 := wrap64_of (by omega) (by omega)
  have okA := hok1.2 ⟨ar, ⟨some gv, some Tv, v0 :: rv⟩⟩ (by simp)
  have okR : ∀ a ∈ ra, okAtom a := fun a ha => hok1.2 a (by simp [ha])
  have hal2 : ra.length <= 3 := by simp only [List.length_cons] at hal; omega
  have eC : cAtom ⟨ar, ⟨some gv, some Tv, v0 :: rv⟩⟩ = [.str ar, .sl (some gv) (some Tv) ([.int .i64 v0] :: rv.map cI)] := by simp [cAtom, cStr, cS]
  have hcur : ∀ f : Nat -> Option D, (∀ j, B <= j \/ f j = none) -> reV f (.d (.sl b.id b.T (b.xs.map cW))) = .d (.sl b.id b.T (b.xs.map cW)) := fun f hf => reV_id _ (fun j hj => by
    rcases hf j with h | h
    · have := hB j (.inr (by simpa [curD] using hj)); omega
    · exact h) (by simp [tkLL_mapW])
  simp [cQuery, cS, eC, s117_6, s117_8, s117_12, curD]
  refine call_cur c0 E32 (w_spec_l1Below b c0 14 hb o0 (by omega)) (by simp) (by simp [curD]) (by simp) (by simp) fun r2 c2 hs2 hh2 hq2 hl2 o2 => ?_
  obtain ⟨u, rfl, u0, u1, _⟩ := hq2
  refine forgetG [(0, .ptr 1000 0 0), (2, .ptr 2 0 0), (3, .ptr 3 0 0), (7, .d (.int .i64 u))] [(1000, some (.box ((curD b c2).map V.d))), (2, some (.box [.d (.int .i64 0), .d (.sl none none []), .d (.sl none none [])])), (3, some (.box [.d (.int .i64 qn), .d (.sl (some ga) (some (78, 2)) ([.str ar, .sl (some gv) (some Tv) ([.int .i64 v0] :: rv.map cI)] :: ra.map cAtom)), .d (.sl qoid qoT (qo.map cI))]))] (by simp) (by simp [curD, cQuery, cS]) fun t m => ?_
  have fin : ∀ (c' : Nat × Int) (y : Query), curO b c' -> okQuery y -> QA (plQuery y) -> QryA b (.agg ((cQuery y).map V.d)) ((curD b c').map V.d) := fun c' y h1 h2 h3 => ⟨⟨c', y, rfl, h2, h3, rfl, h1⟩⟩
  by_cases e0 : u = 0
  · subst e0
    simp [hwn, curD, s117_6, s117_8, s117_12, ]
    refine call_curK c2 E135 (w_spec_l1PickInt b c2 [0, 6, qn + 1] hb o2 (by simp) (by simp)) (by simp) (by simp [curD]) (by simp) fun r3 c3 hs3 hh3 hq3 hl3 o3 => ?_
    obtain ⟨v, rfl, hv⟩ := hq3
    simp [vendX, curD, s117_6, s117_8, s117_12, ]
    intro γ hs' h1 hg
    clear hg
    have := fin c3 ⟨v, ⟨some ga, some (78, 2), ⟨ar, ⟨some gv, some Tv, v0 :: rv⟩⟩ :: ra⟩, ⟨qoid, qoT, qo⟩⟩ o3 ⟨trivial, hok1, hok2⟩ (by have := QA.n okq hv; simpa only [plQuery, plS, map_plI, plI] using this)
    simpa [cQuery, cS, curD, eC] using this
  by_cases e1 : u = 1
  · subst e1
    have hp0 : hpLL (ra.map cAtom) = false := hpLL_map (fun a => by simp) ra
    have L0 : LenOk 8 1 := ⟨by omega, by simp only [maxLen]; omega⟩
    have L1 : LenOk 40 (ra.length + 1 + 1) := ⟨by omega, by simp only [maxLen]; omega⟩
    have k1 : ∀ j, B <= j \/ kphi (some ga) j = none := fun j => by
      by_cases h : j = ga
      · left; omega
      · right; simp only [kphi]; rw [if_neg (by simpa using Ne.symm h)]
    have kC := hcur _ k1
    have kO : reV (kphi (some ga)) (.d (.sl qoid qoT (qo.map cI))) = .d (.sl qoid qoT (qo.map cI)) := reV_id (.d (dSl cI ⟨qoid, qoT, qo⟩)) fun j hj => by
      have hne : j ≠ ga := fun e => by
        rcases mem_sl_ids.1 hj with h | h
        · subst e; exact n3' h
        · simp at h
      simp only [kphi]; rw [if_neg (by simpa using Ne.symm hne)]
    have f1 : ga ∉ idsLL ([.str ar, .sl (some gv) (some Tv) ([.int .i64 v0] :: rv.map cI)] :: ra.map cAtom) := by simp [idsLL, idsL, D.ids]; exact ⟨n1, n2⟩
    have F0 : ∀ (nm : List UInt8) (g24 : Nat), g24 ≠ ga -> ga ∉ idsLL [[.str nm, .sl (some g24) (some (3, 1)) [[.int .i64 0]]]] := fun nm g24 h => by simp [idsLL, idsL, D.ids]; exact Ne.symm h
    have KE : ∀ (nm : List UInt8) (g24 : Nat), g24 ≠ ga -> reLL (kphi (some ga)) ([.str ar, .sl (some gv) (some Tv) ([.int .i64 v0] :: rv.map cI)] :: (ra.map cAtom ++ [[.str nm, .sl (some g24) (some (3, 1)) [[.int .i64 0]]]])) = some ([.str ar, .sl (some gv) (some Tv) ([.int .i64 v0] :: rv.map cI)] :: (ra.map cAtom ++ [[.str nm, .sl (some g24) (some (3, 1)) [[.int .i64 0]]]])) := fun nm g24 h => by
      have e : [.str ar, .sl (some gv) (some Tv) ([.int .i64 v0] :: rv.map cI)] :: (ra.map cAtom ++ [[.str nm, .sl (some g24) (some (3, 1)) [[D.int .i64 0]]]]) = ((⟨ar, ⟨some gv, some Tv, v0 :: rv⟩⟩ : Atom) :: ra ++ [(⟨nm, ⟨some g24, some (3, 1), [0]⟩⟩ : Atom)]).map cAtom := by simp [cAtom, cStr, cS]
      refine reLL_id _ (fun j hj => ?_) (by rw [e]; exact tkLL_map _ (by simp))
      have hne : j ≠ ga := fun e => by
        subst e
        rw [<- List.cons_append, idsLL_append] at hj
        rcases List.mem_append.1 hj with h2 | h2
        · exact f1 h2
        · exact F0 nm g24 h h2
      simp only [kphi]; rw [if_neg (by simpa using Ne.symm hne)]
    simp [curD, s117_6, s117_8, s117_12, ]
    repeat' apply And.intro
    all_goals
      refine call_curK c2 E122 (w_spec_l1Pick b c2 [[], [119], [114]] hb o2 (by simp) (by simp)) (by simp) (by simp [curD]) (by simp [cStr]) fun r3 c3 hs3 hh3 hq3 hl3 o3 => ?_
      obtain ⟨nm, rfl, hnm⟩ := hq3
      have hnl : nm.length <= 10 := by
        simp only [List.mem_cons, List.not_mem_nil, or_false] at hnm
        rcases hnm with rfl | rfl | rfl <;> simp
      simp [curD, s117_6, s117_8, s117_12, ]
      rw [w_bs1 (k' := 24) (ks := []) _ _ _ (by simp) (by simp)]
      intro γ hs4 h1 hg
      obtain ⟨q1, q2⟩ := gam_at hg (k := 24) (T := 3) (sz := 1) (es := [[.int .i64 0]]) (by simp)
      obtain ⟨g24, h24⟩ := Option.ne_none_iff_exists'.1 (q2 (by simp))
      have qf : g24 ≠ ga := fun e => by
        have hb := (hg.fr 24 3 1 [[.int .i64 0]] g24 (by simp) h24).1.box 3 [.d (.int .i64 qn), .d (.sl (some ga) (some (78, 2)) ([.str ar, .sl (some gv) (some Tv) ([.int .i64 v0] :: rv.map cI)] :: ra.map cAtom)), .d (.sl qoid qoT (qo.map cI))] (by simp)
        simp [idsVL, V.ids, D.ids, e] at hb
      clear hg
      have f0 := F0 nm g24 qf
      have kE := KE nm g24 qf
      simp [vpre, vnext, veff, vval, isPure, St.frzs, St.frz, Vs.frz, hpLL, hpL, D.hp, h24, St.kill, b1, f0, f1, L1, kC, kO, kE, vendX, List.take_of_length_le, curD, s117_6, s117_8, s117_12, ]
      refine ⟨fun a _ => cAtom_len a, ?_⟩
      intro γ2 hs' h1' hg
      clear hg
      have := fin c3 ⟨qn, ⟨γ2 27, some (78, 2), ⟨ar, ⟨some gv, some Tv, v0 :: rv⟩⟩ :: ra ++ [⟨nm, ⟨some g24, some (3, 1), [0]⟩⟩]⟩, ⟨qoid, qoT, qo⟩⟩ o3 ⟨trivial, ⟨by simp [maxLen]; omega, fun a ha => by
        rcases List.mem_append.1 ha with h | h
        · rcases List.mem_cons.1 h with h | h
          · rw [h]; exact okA
          · exact okR a h
        · rw [List.mem_singleton.1 h]; exact ⟨by show nm.length <= maxLen; simp only [maxLen]; omega, by simp [maxLen], fun _ _ => trivial⟩⟩, hok2⟩ (by
          have := QA.atom okq smq hnl
          simpa [plQuery, plAtom, plS, map_plI, plI, plStr] using this)
      simpa [cQuery, cS, curD, cAtom, cStr] using this
  by_cases e2 : u = 2
  · subst e2
    have L0 : LenOk 8 1 := ⟨by omega, by simp only [maxLen]; omega⟩
    have hp0 : hpLL (qo.map cI) = false := hpLL_mapI _
    have hol' : qo.length <= 5 := hol
    have L1 : LenOk 8 (qo.length + 1) := ⟨by omega, by simp only [maxLen]; omega⟩
    simp [curD, s117_6, s117_8, s117_12, ]
    repeat' apply And.intro
    all_goals
      refine call_cur c2 E32 (w_spec_l1Below b c2 6 hb o2 (by omega)) (by simp) (by simp [curD]) (by simp) (by simp) fun r3 c3 hs3 hh3 hq3 hl3 o3 => ?_
      obtain ⟨x, rfl, x0, x1, _⟩ := hq3
      have x1 := x1 (by omega)
      have hwx : IntKind.i64.wrap (x - 1) = x - 1 := wrap64_of (by omega) (by omega)
      have done := fun g T => fin c3 ⟨qn, ⟨some ga, some (78, 2), ⟨ar, ⟨some gv, some Tv, v0 :: rv⟩⟩ :: ra⟩, ⟨g, T, qo ++ [x - 1]⟩⟩ o3 ⟨trivial, hok1, ⟨by simp only [List.length_append, List.length_singleton, maxLen]; omega, fun _ _ => trivial⟩⟩ (by have := QA.out (v := x - 1) okq smq; simpa only [plQuery, plS, map_plI, plI] using this)
      cases hq : qoid with
      | none =>
        have hq0 : qo = [] := by have := wh2.1.nil hq; simpa using this
        subst hq0
        cases qoT with
        | none =>
          simp [hwx, L0, vendX, curD, s117_6, s117_8, s117_12, ]
          intro γ hs' h1 hg
          clear hg
          simpa [cQuery, cS, curD, eC] using done (γ 37) (some (3, 1))
        | some T =>
          simp [hwx, L0, vendX, curD, s117_6, s117_8, s117_12, ]
          intro γ hs' h1 hg
          clear hg
          simpa [cQuery, cS, curD, eC] using done (γ 37) (some (3, 1))
      | some go =>
        obtain rfl : qoT = some (3, 1) := TI go hq
        have hgo := b3 go hq
        have k1 : ∀ j, B <= j \/ kphi (some go) j = none := fun j => by
          by_cases h : j = go
          · left; omega
          · right; simp only [kphi]; rw [if_neg (by simpa using Ne.symm h)]
        have kC := hcur _ k1
        have kA : reV (kphi (some go)) (.d (.sl (some ga) (some (78, 2)) ([.str ar, .sl (some gv) (some Tv) ([.int .i64 v0] :: rv.map cI)] :: ra.map cAtom))) = .d (.sl (some ga) (some (78, 2)) ([.str ar, .sl (some gv) (some Tv) ([.int .i64 v0] :: rv.map cI)] :: ra.map cAtom)) := reV_id _ (fun j hj => by
          have hne : j ≠ go := fun e => by
            subst e
            simp [V.ids, D.ids, idsLL, idsL] at hj
            rcases hj with h | h | h
            · subst h; exact n3' hq
            · subst h; exact n5' hq
            · exact n7 j h j (by simp [hq]) rfl
          simp only [kphi]; rw [if_neg (by simpa using Ne.symm hne)]) (by simp [V.tk, D.tk, tkLL, tkL, tkLL_map])
        have kE : reLL (kphi (some go)) (qo.map cI ++ [[.int .i64 (x - 1)]]) = some (qo.map cI ++ [[.int .i64 (x - 1)]]) := by
          have e : qo.map cI ++ [[D.int .i64 (x - 1)]] = (qo ++ [x - 1]).map cI := by simp
          rw [e]
          have hid : ∀ L : List Int, idsLL (L.map cI) = [] := fun L => by simp
          exact reLL_id _ (fun j hj => by rw [hid] at hj; cases hj) (tkLL_map _ (by simp))
        have f9 : go ∉ idsLL [[D.int .i64 (x - 1)]] := by simp [idsLL, idsL, D.ids]
        simp [hwx, St.kill, hgo, L1, kC, kA, kE, f9, vendX, List.take_of_length_le, curD, s117_6, s117_8, s117_12, ]
        intro γ hs' h1 hg
        clear hg
        simpa [cQuery, cS, curD, eC] using done (γ 37) (some (3, 1))
  by_cases e3 : u = 3
  · subst e3
    have eR := re_raw (g := ga) (T := (78, 2)) (es := [.str ar, .sl (some gv) (some Tv) ([.int .i64 v0] :: rv.map cI)] :: ra.map cAtom) (es' := [.str ar, .sl none none []] :: ra.map cAtom) (by simp)
    have eC3 : ∀ d, reV (one ga d) (.d (.sl b.id b.T (b.xs.map cW))) = .d (.sl b.id b.T (b.xs.map cW)) := fun d => hcur _ fun j => by
      by_cases h : j = ga
      · left; omega
      · exact .inr (one_out h)
    have eO3 : ∀ d, reV (one ga d) (.d (.sl qoid qoT (qo.map cI))) = .d (.sl qoid qoT (qo.map cI)) := fun d => reV_id (.d (dSl cI ⟨qoid, qoT, qo⟩)) fun j hj => one_out fun e => by
      rcases mem_sl_ids.1 hj with h | h
      · subst e; exact n3' h
      · simp at h
    simp [b1, n1, n2, idsLL, idsL, D.ids, eR, eC3, eO3, vendX, curD, s117_6, s117_8, s117_12, ]
    intro γ hs' h1 hg
    clear hg
    have := fin c2 ⟨qn, ⟨some ga, some (78, 2), ⟨ar, nilS⟩ :: ra⟩, ⟨qoid, qoT, qo⟩⟩ o2 ⟨trivial, ⟨hok1.1, fun a ha => by
      rcases List.mem_cons.1 ha with h | h
      · rw [h]; exact ⟨okA.1, ok_nilS⟩
      · exact okR a h⟩, hok2⟩ (by
        have := QA.set (a' := ⟨ar, []⟩) okq smq rfl (by simp) (.inl rfl)
        simpa [plQuery, plAtom, plS, map_plI, plI, plStr, nilS] using this)
    simpa [cQuery, cS, curD, cAtom, cStr, nilS] using this
  by_cases e4 : u = 4
  · subst e4
    have eC4 : ∀ d, reV (one gv d) (.d (.sl b.id b.T (b.xs.map cW))) = .d (.sl b.id b.T (b.xs.map cW)) := fun d => hcur _ fun j => by
      by_cases h : j = gv
      · left; omega
      · exact .inr (one_out h)
    have eO4 : ∀ d, reV (one gv d) (.d (.sl qoid qoT (qo.map cI))) = .d (.sl qoid qoT (qo.map cI)) := fun d => reV_id (.d (dSl cI ⟨qoid, qoT, qo⟩)) fun j hj => one_out fun e => by
      rcases mem_sl_ids.1 hj with h | h
      · subst e; exact n5' h
      · simp at h
    have eR : ∀ x : Int, reV (one gv (.sl (some gv) (some Tv) ([.int .i64 x] :: rv.map cI))) (.d (.sl (some ga) (some (78, 2)) ([.str ar, .sl (some gv) (some Tv) ([.int .i64 v0] :: rv.map cI)] :: ra.map cAtom))) = .d (.sl (some ga) (some (78, 2)) ([.str ar, .sl (some gv) (some Tv) ([.int .i64 x] :: rv.map cI)] :: ra.map cAtom)) := fun x => by
      have h1 : reLL (one gv (.sl (some gv) (some Tv) ([.int .i64 x] :: rv.map cI))) (ra.map cAtom) = some (ra.map cAtom) := reLL_id _ (fun j hj => one_out fun e => n4 (e ▸ hj)) (tkLL_map _ (by simp))
      have h2 : one gv (.sl (some gv) (some Tv) ([.int .i64 x] :: rv.map cI)) ga = none := one_out n1
      have h3 : one gv (.sl (some gv) (some Tv) ([.int .i64 x] :: rv.map cI)) gv = some (.sl (some gv) (some Tv) ([.int .i64 x] :: rv.map cI)) := by simp [one]
      simp [reV, reD, reLL, reL, h1, h2, h3]
    simp [curD, s117_6, s117_8, s117_12, ]
    repeat' apply And.intro
    all_goals
      refine call_curK c2 E135 (w_spec_l1PickInt b c2 [-1, 5] hb o2 (by simp) (by simp)) (by simp) (by simp [curD]) (by simp) fun r3 c3 hs3 hh3 hq3 hl3 o3 => ?_
      obtain ⟨x, rfl, hx⟩ := hq3
      simp [b2, n1, n2, idsLL, idsL, D.ids, eR, eC4, eO4, vendX, curD, s117_6, s117_8, s117_12, ]
      intro γ hs' h1 hg
      clear hg
      have := fin c3 ⟨qn, ⟨some ga, some (78, 2), ⟨ar, ⟨some gv, some Tv, x :: rv⟩⟩ :: ra⟩, ⟨qoid, qoT, qo⟩⟩ o3 ⟨trivial, ⟨hok1.1, fun a ha => by
        rcases List.mem_cons.1 ha with h | h
        · rw [h]; exact ⟨okA.1, by have := okA.2.1; simpa using this, fun _ _ => trivial⟩
        · exact okR a h⟩, hok2⟩ (by
          have := QA.set (a' := ⟨ar, x :: rv⟩) okq smq rfl (by simp [plAtom, plS]) (.inr ⟨x, by simp, by simp only [List.mem_cons, List.not_mem_nil, or_false] at hx; omega⟩)
          simpa [plQuery, plAtom, plS, map_plI, plI, plStr] using this)
      simpa [cQuery, cS, curD, cAtom, cStr] using this
  simp [vendX, e0, e1, e2, e3, e4, curD, s117_6, s117_8, s117_12, ]
  intro γ hs' h1 hg
  clear hg
  have := fin c2 ⟨qn, ⟨some ga, some (78, 2), ⟨ar, ⟨some gv, some Tv, v0 :: rv⟩⟩ :: ra⟩, ⟨qoid, qoT, qo⟩⟩ o2 ⟨trivial, hok1, hok2⟩ (by have := QA.of okq smq; simpa only [plQuery, plS, map_plI, plI] using this)
  simpa [cQuery, cS, curD, eC] using this
end
end Go.Proofs.YtmgphabeodaokaaGreat
namespace Go.Proofs.YtmgphabeodaokaaGreat
open Go.Vs Go.Proofs Go
set_option maxRecDepth 100000
set_option maxHeartbeats 1000000
structure QryB (b : Sl Int) (r : V) (cs : List V) : Prop where
  ex : ∃ (c' : Nat × Int) (d : Db) (y : Query), r = .tup [.agg ((cDb d).map V.d), .agg ((cQuery y).map V.d)] /\ (bdD d /\ okDb d) /\ okQuery y /\ QA (plQuery y) /\ cs = (curD b c').map V.d /\ curO b c'
section
attribute [local simp] pS dSl cP cI cW
theorem w_spec_l7Both (b : Sl Int) (c : Nat × Int) (hb : b.xs.length <= 1048576) (hc : curO b c) : VX Tryz.prog 75 [] [.ptr 1000 0 0] (some ((curD b c).map V.d)) (fun _ r cs _ => QryB b r cs) := by
  refine VX.of E s75 (by kernel_rfl) Tryz.func75 (by rfl) (by kernel_rfl) (by simp [Tryz.f75]) (by simp [Tryz.f75]) s75_ok ?_ ?_ fun B hB => ?_
  · simp
  · rintro cs h
    cases h
    simp [curD]
  simp [Tryz.f75, s75_5, s75_7, s75_8, s75_5, s75_7, s75_8, curD]
  refine call_db c E114 (w_spec_l6Db b c hb hc) (by simp) (by simp [curD]) (by simp) (by simp) fun xs g0 c0 n0 hs0 hn0 hm0 bd0 ok0 len0 hgn hgs hgx o0 => ?_
  simp [cDb, cS, curD, s75_5, s75_7, s75_8, ]
  refine call_qry c0 E115 (w_spec_l7Query b c0 hb o0) (by simp) (by simp [curD]) (by simp) (by simp) fun q c1 n1 hs1 hn1 hm1 kq Gq uq okq smq TA TI o1 => ?_
  obtain ⟨qn, ⟨qaid, qaT, qa⟩, ⟨qoid, qoT, qo⟩⟩ := q
  have hqa := QA.of okq smq
  clear Gq TA TI
  simp [cQuery, cDb, cS, curD, s75_5, s75_7, s75_8, ]
  refine call_cur c1 E32 (w_spec_l1Below b c1 24 hb o1 (by omega)) (by simp) (by simp [curD]) (by simp) (by simp) fun r2 c2 hs2 hh2 hq2 hl2 o2 => ?_
  obtain ⟨u, rfl, u0, u1, _⟩ := hq2
  have fin : ∀ (c' : Nat × Int) (d : Db) (y : Query), curO b c' -> bdD d -> okDb d -> okQuery y -> QA (plQuery y) -> QryB b (.tup [.agg ((cDb d).map V.d), .agg ((cQuery y).map V.d)]) ((curD b c').map V.d) := fun c' d y h1 h2 h3 h4 h5 => ⟨⟨c', d, y, rfl, ⟨h2, h3⟩, h4, h5, rfl, h1⟩⟩
  by_cases e0 : u = 0
  · subst e0
    simp [cQuery, cDb, cS, curD, s75_5, s75_7, s75_8, ]
    repeat' apply And.intro
    all_goals
      refine call_dbA c2 E116 (w_spec_l6Any b c2 hb o2) (by simp) (by simp [curD]) (by simp) (by simp) fun z c3 hs3 hh3 bdz okz o3 => ?_
      obtain ⟨⟨zid, zT, zx⟩⟩ := z
      simp [vendX, cQuery, cDb, cS, curD, s75_5, s75_7, s75_8, ]
      intro γ hs' h1 hg
      clear hg
      simpa [cQuery, cDb, cS, curD] using fin c3 ⟨⟨zid, zT, zx⟩⟩ ⟨qn, ⟨qaid, qaT, qa⟩, ⟨qoid, qoT, qo⟩⟩ o3 bdz okz kq hqa
  by_cases e1 : u = 1
  · subst e1
    simp [cQuery, cDb, cS, curD, s75_5, s75_7, s75_8, ]
    repeat' apply And.intro
    all_goals
      refine call_cp c2 E117 (w_spec_l7Any b c2 hb o2) (by simp) (by simp [curD]) (by simp) (by simp) fun r cs hs3 hh3 hp3 => ?_
      obtain ⟨c3, ⟨yn, ⟨yaid, yaT, ya⟩, ⟨yoid, yoT, yo⟩⟩, rfl, ky, qy, rfl, o3⟩ := hp3.ex
      simp [vendX, cQuery, cDb, cS, curD, s75_5, s75_7, s75_8, ]
      intro γ hs' h1 hg
      clear hg
      simpa [cQuery, cDb, cS, curD] using fin c3 ⟨⟨some g0, some (128, 3), xs⟩⟩ ⟨yn, ⟨yaid, yaT, ya⟩, ⟨yoid, yoT, yo⟩⟩ o3 bd0 ok0 ky qy
  simp [vendX, e0, e1, cQuery, cDb, cS, curD, s75_5, s75_7, s75_8, ]
  intro γ hs' h1 hg
  clear hg
  simpa [cQuery, cDb, cS, curD] using fin c2 ⟨⟨some g0, some (128, 3), xs⟩⟩ ⟨qn, ⟨qaid, qaT, qa⟩, ⟨qoid, qoT, qo⟩⟩ o2 bd0 ok0 kq hqa
end
end Go.Proofs.YtmgphabeodaokaaGreat
namespace Go.Proofs.YtmgphabeodaokaaGreat
open Go.Vs Go.Proofs Go
set_option maxRecDepth 100000
set_option maxHeartbeats 1000000
structure BthA (b : Sl Int) (r : V) (cs : List V) : Prop where
  ex : ∃ (c' : Nat × Int) (d : Db) (q : Query) (x : Delta), r = .tup [.agg ((cDb d).map V.d), .agg ((cQuery q).map V.d), .agg ((cDelta x).map V.d)] /\ (bdD d /\ okDb d) /\ (okQuery q /\ QA (plQuery q)) /\ (bdX x /\ okDelta x) /\ cs = (curD b c').map V.d /\ curO b c'
structure AdD (v : V) : Prop where
  ex : ∃ (d : Db) (q : Query) (x : Delta) (k : Int), v = .tup [.agg ((cDb d).map V.d), .agg ((cQuery q).map V.d), .agg ((cDelta x).map V.d), .d (.int .i64 k)] /\ (bdD d /\ okDb d) /\ (okQuery q /\ QA (plQuery q)) /\ (bdX x /\ okDelta x)
section
attribute [local simp] pS dSl cP cI cW
theorem w_spec_l28Both (b : Sl Int) (c : Nat × Int) (hb : b.xs.length <= 1048576) (hc : curO b c) : VX Tryz.prog 31 [] [.ptr 1000 0 0] (some ((curD b c).map V.d)) (fun _ r cs _ => BthA b r cs) := by
  refine VX.of E s31 (by kernel_rfl) Tryz.func31 (by rfl) (by kernel_rfl) (by simp [Tryz.f31]) (by simp [Tryz.f31]) s31_ok ?_ ?_ fun B hB => ?_
  · simp
  · rintro cs h
    cases h
    simp [curD]
  simp [Tryz.f31, s31_2, s31_2, curD]
  refine call_cp c E75 (w_spec_l7Both b c hb hc) (by simp) (by simp [curD]) (by simp) (by simp) fun r cs hs1 hh1 hp1 => ?_
  obtain ⟨c1, ⟨⟨did, dT, dx⟩⟩, ⟨qn, ⟨qaid, qaT, qa⟩, ⟨qoid, qoT, qo⟩⟩, rfl, ⟨bd1, ok1⟩, kq, aq, rfl, o1⟩ := hp1.ex
  simp [cQuery, cDb, cS, curD, s31_2, ]
  repeat' apply And.intro
  all_goals
    refine call_del c1 E81 (w_spec_l26Delta b c1 (plDb ⟨⟨did, dT, dx⟩⟩) hb o1 (bdPd_of bd1)) (by simp) (by simp [curD]) (by simp [eDb, plDb, plS, er_tabs]) (by simp) fun x c2 hs2 hh2 bdx okx o2 => ?_
    obtain ⟨xn, ⟨xi, xir⟩, ⟨xd, xdr⟩⟩ := x
    simp [cQuery, cDelta, cStr, cReln, cDb, cS, curD, vendX, s31_2, ]
    intro γ hs' h1 hg
    clear hg
    exact ⟨⟨c2, ⟨⟨did, dT, dx⟩⟩, ⟨qn, ⟨qaid, qaT, qa⟩, ⟨qoid, qoT, qo⟩⟩, ⟨xn, ⟨xi, xir⟩, ⟨xd, xdr⟩⟩, by simp [cQuery, cDelta, cStr, cReln, cDb, cS], ⟨bd1, ok1⟩, ⟨kq, aq⟩, ⟨bdx, okx⟩, by simp [curD], o2⟩⟩
theorem w_spec_DrawAtomDelta (b : Sl Int) (hb : b.xs.length <= 1048576) : VC Tryz.prog 7 [.d (dSl cW b)] (fun _ v => AdD v) := by
  refine VC.of E s7 (by kernel_rfl) Tryz.func7 (by rfl) (by kernel_rfl) (by simp [Tryz.f7]) (by simp [Tryz.f7]) s7_ok fun B => ?_
  simp [Tryz.f7, s7_3, s7_3, ]
  refine call_nt (w_spec_l1New b hb) (by simp) (by simp) fun ds n0 hs0 hn0 hm0 hp0 hl0 hi0 => ?_
  obtain ⟨c0, rfl, o0⟩ := hp0
  simp [curD, s7_3, ]
  refine call_cp c0 E31 (w_spec_l28Both b c0 hb o0) (by simp) (by simp [curD]) (by simp) (by simp) fun r cs hs1 hh1 hp1 => ?_
  obtain ⟨c1, ⟨⟨did, dT, dx⟩⟩, ⟨qn, ⟨qaid, qaT, qa⟩, ⟨qoid, qoT, qo⟩⟩, ⟨xn, ⟨xi, xir⟩, ⟨xd, xdr⟩⟩, rfl, ⟨bd1, ok1⟩, ⟨kq, aq⟩, ⟨bdx, okx⟩, rfl, o1⟩ := hp1.ex
  simp [cQuery, cDelta, cStr, cReln, cDb, cS, curD, s7_3, ]
  repeat' apply And.intro
  all_goals
    refine call_cur c1 E32 (w_spec_l1Below b c1 6 hb o1 (by omega)) (by simp) (by simp [curD]) (by simp) (by simp) fun r2 c2 hs2 hh2 hq2 hl2 o2 => ?_
    obtain ⟨u, rfl, u0, u1, _⟩ := hq2
    simp [cQuery, cDelta, cStr, cReln, cDb, cS, curD, s7_3, ]
    exact ⟨⟨⟨⟨did, dT, dx⟩⟩, ⟨qn, ⟨qaid, qaT, qa⟩, ⟨qoid, qoT, qo⟩⟩, ⟨xn, ⟨xi, xir⟩, ⟨xd, xdr⟩⟩, _, by simp [cQuery, cDelta, cStr, cReln, cDb, cS]; rfl, ⟨bd1, ok1⟩, ⟨kq, aq⟩, ⟨bdx, okx⟩⟩⟩
end
end Go.Proofs.YtmgphabeodaokaaGreat
namespace Go.Proofs.YtmgphabeodaokaaGreat
open Go.Vs Go.Proofs Go
set_option maxRecDepth 100000
set_option maxHeartbeats 1000000
section
attribute [local simp] plI_id plStr_id map_plI map_plStr pS cP cI cW dSl
theorem er_atomsL (l : List Atom) : erLL (l.map cAtom) = (l.map plAtom).map eAtom := erLL_map er_cAtom l
theorem er_rowsL (l : List Ints) : erLL (l.map (cS cI)) = (l.map (plS plI)).map (cP cI) := erLL_map (er_cS er_cI) l
theorem er_intsL (l : List Int) : erLL (l.map cI) = (l.map plI).map cI := erLL_map er_cI l
theorem rp_db (m : Nat -> Option Blk) (v : Db) : rp m (.agg ((cDb v).map V.d)) = some (.agg ((eDb (plDb v)).map V.d)) := by
  simp [cDb, cS, eDb, plDb, plS, er_tabs, rp, rpL]
theorem rp_delta (m : Nat -> Option Blk) (v : Delta) : rp m (.agg ((cDelta v).map V.d)) = some (.agg ((eDelta (plDelta v)).map V.d)) := by
  simp [cDelta, cReln, cStr, cS, eDelta, eReln, plDelta, plReln, plS, er_rowsL, rp, rpL]
theorem rp_qry (m : Nat -> Option Blk) (v : Query) : rp m (.agg ((cQuery v).map V.d)) = some (.agg ((eQuery (plQuery v)).map V.d)) := by
  simp [cQuery, cS, eQuery, plQuery, plS, er_atomsL, er_intsL, rp, rpL]
theorem rp_e (m : Nat -> Option Blk) (l : List D) (h : erL l = l) : rp m (.agg (l.map V.d)) = some (.agg (l.map V.d)) := by
  have : ∀ l : List D, rpL m (l.map V.d) = some ((erL l).map V.d) := fun l => by
    induction l with
    | nil => rfl
    | cons x r ih => simp only [List.map_cons, rpL, rp, ih, erL]
  simp only [rp, this, h, Option.map_some]
theorem rpL_cons {m : Nat -> Option Blk} {v v' : V} {l l' : List V} (h : rp m v = some v') (h' : rpL m l = some l') : rpL m (v :: l) = some (v' :: l') := by simp only [rpL, h, h']
theorem xDb (d : Db) : (cDb d).map V.d = [.d (.sl d.tabs.id d.tabs.T (d.tabs.xs.map cTab))] := by simp [cDb, cS]
theorem xDelta (x : Delta) : (cDelta x).map V.d = [.d (.str x.name), .d (.int .i64 x.ins.ar), .d (.sl x.ins.rows.id x.ins.rows.T (x.ins.rows.xs.map (cS cI))), .d (.int .i64 x.del.ar), .d (.sl x.del.rows.id x.del.rows.T (x.del.rows.xs.map (cS cI)))] := by simp [cDelta, cReln, cStr, cS]
theorem xQuery (q : Query) : (cQuery q).map V.d = [.d (.int .i64 q.n), .d (.sl q.atoms.id q.atoms.T (q.atoms.xs.map cAtom)), .d (.sl q.out.id q.out.T (q.out.xs.map cI))] := by simp [cQuery, cS]
theorem yCnt (c : PCnt) : (eCnt c).map V.d = [.d (.int .i64 c.ar), .d (.pl (c.rows.map (cP cI))), .d (.pl (c.cs.map cI))] := by simp [eCnt]
theorem neg64_ok {z : PCnt} (h : cntsOk z = true) : negW z = negP z := by
  have hc := cntsOk_cs h
  rw [negW, negP]
  congr 1
  refine List.map_congr_left fun n hn => ?_
  have := hc n hn
  rw [neg64]
  rw [wrap64_of (by omega) (by omega)]
theorem nvR_ar {d : PDb} {q : PQuery} (h : nvB d q = true) : (nvR d q).ar = q.out.length := by
  have h0 := h
  simp only [nvB, Bool.and_eq_true] at h
  rw [nvR, if_pos h0, projP, if_pos h.2]
  rfl
theorem vd_all {d : PDb} {q : PQuery} {x : PDelta} (h : Ad d q x) (hd : Dmn d x) (hs : smallQ q) : vdB d q x = true /\ vdR d q x = smP d q x q.atoms.length := by
  obtain ⟨n1, n2, hl⟩ := dt_sum h hd hs
  have k1 := nvR_ok n1
  have k2 := nvR_ok n2
  have hG : vdG d q x = true := by simp only [vdG, h.app, n1, n2, Bool.and_true]
  have hA := addC_of (a := nvR (appP d x) q) (b := negP (nvR d q)) (w := smP d q x q.atoms.length) k2 (negP_ok k1) (by rw [nvR_ar n2]; exact (nvR_ar n1).symm) (dt_rows h hd hs fun y hy => List.mem_append.1 hy) (smP_ok h hd hs h.qf.a4.2) (by rw [nvR_ar n2]; rfl) fun y => by
    rw [hl]
    have : lkC (negP (nvR d q)).rows (negP (nvR d q)).cs y = - lkC (nvR d q).rows (nvR d q).cs y := look_neg y _ _
    rw [this]; omega
  rw [<- neg64_ok k1] at hA
  exact ⟨by rw [vdB, hG, hA.1]; rfl, by rw [vdR, if_pos hG]; exact hA.2⟩
theorem dmn_of {d : Db} {x : Delta} (h1 : bdD d) (h2 : bdX x) : Dmn (plDb d) (plDelta x) := by
  have key : ∀ y : Reln, dmA y -> dmW (plReln y) := fun y h => by
    refine ⟨by have := h.1; simpa [plReln, plS] using this, fun t ht v hv => ?_⟩
    simp only [plReln, plS] at ht
    obtain ⟨r, hr, rfl⟩ := List.mem_map.1 ht
    exact h.2 r hr v (by simpa [plS, map_plI] using hv)
  refine ⟨fun t ht => ?_, key _ h2.2.2.2⟩
  simp only [plDb, plS] at ht
  obtain ⟨u, hu, rfl⟩ := List.mem_map.1 ht
  exact key _ (h1.2 u hu).2.2
theorem w_laws_FnDeltaTerms (b : Sl Int) :
   VC Tryz.prog 3 [.d (dSl cW b)] (fun _ r => r = .d (.bool true)) := by
  refine VC.of E s3 (by kernel_rfl) Tryz.func3 (by rfl) (by kernel_rfl) (by simp [Tryz.f3]) (by simp [Tryz.f3]) s3_ok fun B => ?_
  simp [Tryz.f3, ]
  refine call_pure (w_laws_big b) rfl (by simp) rfl fun hz zz => ?_
  simp at zz
  by_cases hb : (1048576 : Int) < b.xs.length
  · simp [hb]
  simp [hb, ]
  refine call_some (w_spec_DrawAtomDelta b (by omega)) rfl (by simp) fun n1 hs1 r1 hn1 hm1 hp1 hr1 => ?_
  obtain ⟨d, q, x, k, rfl, ⟨bd, kd⟩, ⟨kq, aq⟩, bx, kx⟩ := hp1.ex
  have dmn := dmn_of bd bx
  have zD : szDb (plDb d) := szDb_bd bd
  have sD := okDb_st kd
  have sQ := okQuery_strs kq
  have sX : (plDelta x).name.length <= maxLen := kx.1
  have rDQXk : ∀ (m : Nat -> Option Blk) (j : Int), rpL m [.agg ((cDb d).map V.d), .agg ((cQuery q).map V.d), .agg ((cDelta x).map V.d), .d (.int .i64 j)] = some [.agg ((eDb (plDb d)).map V.d), .agg ((eQuery (plQuery q)).map V.d), .agg ((eDelta (plDelta x)).map V.d), .d (.int .i64 j)] := fun m j => rpL_cons (rp_db m d) (rpL_cons (rp_qry m q) (rpL_cons (rp_delta m x) rfl))
  have rDQX : ∀ m, rpL m [.agg ((cDb d).map V.d), .agg ((cQuery q).map V.d), .agg ((cDelta x).map V.d)] = some [.agg ((eDb (plDb d)).map V.d), .agg ((eQuery (plQuery q)).map V.d), .agg ((eDelta (plDelta x)).map V.d)] := fun m => rpL_cons (rp_db m d) (rpL_cons (rp_qry m q) (rpL_cons (rp_delta m x) rfl))
  have hal : q.atoms.xs.length = (plQuery q).atoms.length := by simp [plQuery, plS]
  have hol : q.out.xs.length = (plQuery q).out.length := by simp [plQuery, plS]
  simp only [xDb, xQuery, xDelta] at rDQXk rDQX
  obtain ⟨D0, hD⟩ : ∃ D, D = plDb d := ⟨_, rfl⟩
  obtain ⟨Q0, hQ⟩ : ∃ Q, Q = plQuery q := ⟨_, rfl⟩
  obtain ⟨X0, hX⟩ : ∃ X, X = plDelta x := ⟨_, rfl⟩
  simp only [<- hD, <- hQ, <- hX] at *
  have hI := fun j => VC.plain2 er_cCnt (e_impl_AtomDelta D0 Q0 X0 j zD sD sQ sX)
  have hS := w_spec_AtomDelta D0 Q0 X0 k zD sD sQ sX
  simp [xDb, xQuery, xDelta, ]
  refine call_p (hI k) (rDQXk _ k) fun hs2 hh2 hl2 => ?_
  simp at hh2
  simp [xDb, xQuery, xDelta, yCnt, ]
  refine call_p hS (rDQXk _ k) fun hs3 hh3 hl3 => ?_
  simp at hh3
  simp [xDb, xQuery, xDelta, yCnt, ]
  have rEE : ∀ m (a c : PCnt), rpL m [.agg ((eCnt a).map V.d), .agg ((eCnt c).map V.d)] = some [.agg ((eCnt a).map V.d), .agg ((eCnt c).map V.d)] := fun m a c => rpL_cons (rp_e m _ (by simp [eCnt, erL, D.er])) (rpL_cons (rp_e m _ (by simp [eCnt, erL, D.er])) rfl)
  simp only [yCnt] at rEE
  refine call_f (VC.to (w_spec_EqualCounted (adP D0 Q0 X0 k) (adP D0 Q0 X0 k)) (show _ = V.d (.bool true) by simp)) (by simpa only [yCnt] using rEE _ _ _) rfl fun hs4 hh4 => ?_
  simp at hh4
  simp [xDb, xQuery, xDelta, yCnt, ]
  refine call_p (p_impl_ViewDelta D0 Q0 X0 zD sD sQ sX) (rDQX _) fun hs5 hh5 hl5 => ?_
  simp at hh5
  have hAd : appB D0 X0 = true -> qryFor D0 Q0 = true -> Ad D0 Q0 X0 := fun h1 h2 => ⟨h1, qf_of h2⟩
  cases hB : vdB D0 Q0 X0
  · have h0 : adB D0 Q0 X0 k = false := by
      cases e : adB D0 Q0 X0 k with
      | false => rfl
      | true =>
        have hg : adG D0 Q0 X0 k = true := by simp only [adB, Bool.and_eq_true] at e; exact e.1
        have := vd_all (adG_ad hg) dmn (aq.sm (adG_ad hg).qf.qok)
        rw [hB] at this
        exact absurd this.1 (by simp)
    simp [h0, xDb, xQuery, xDelta, yCnt, ]
  have had : Ad D0 Q0 X0 := by
    have h0 := hB
    simp only [vdB, vdG, nvB, bdB, Bool.and_eq_true] at h0
    exact hAd h0.1.1.1 h0.1.1.2.1.1
  have hsm := aq.sm had.qf.qok
  have hva := vd_all had dmn hsm
  have h4 := had.qf.a4
  simp [xDb, xQuery, xDelta, yCnt, ]
  refine loop_rule (X := Nat × D × D) (fun p => p.1 <= Q0.atoms.length /\ p.2.1.er = .pl ((smP D0 Q0 X0 p.1).rows.map (cP cI)) /\ p.2.2.er = .pl ((smP D0 Q0 X0 p.1).cs.map cI)) (fun p => [(3, .ptr 3 0 0), (4, .ptr 4 0 0), (5, .ptr 5 0 0), (11, .ptr 11 0 0), (13, .ptr 13 0 0), (14, .d (.int .i64 p.1))])
    (fun p => [(3, some (.box ((cDb d).map V.d))), (4, some (.box ((cQuery q).map V.d))), (5, some (.box ((cDelta x).map V.d))), (11, some (.box ((eCnt (vdR D0 Q0 X0)).map V.d))), (13, some (.box [.d (.int .i64 Q0.out.length), .d p.2.1, .d p.2.2]))]) (fun p => Q0.atoms.length - p.1) (0, .sl none none [], .sl none none []) ⟨by simp, by simp [smP_zero, D.er, erLL], by simp [smP_zero, D.er, erLL]⟩ (by simp) (by simp [xDb, xQuery, xDelta, yCnt, hol]) ?_
  rintro ⟨i, rr, cc⟩ hs t m ⟨hi, er, ec⟩ hh
  simp only at hi er ec
  by_cases hlt : i < Q0.atoms.length
  · have hwi := wr1 (i := i) (by omega)
    have hok := adB_ok had dmn hsm hlt
    have hst := sm_step had dmn hsm hlt
    refine anyQ fun Q => ?_
    simp [hlt, hal, xDb, xQuery, xDelta, yCnt, ]
    refine call_p (hI i) (rDQXk _ i) fun hs6 hh6 hl6 => ?_
    simp at hh6
    simp [hlt, hal, hok, xDb, xQuery, xDelta, yCnt, ]
    refine call_p (w_spec_AddCounted (smP D0 Q0 X0 i) (adP D0 Q0 X0 i)) (by simp [rpL, rp, er, ec, yCnt, D.er, show (smP D0 Q0 X0 i).ar = Q0.out.length from rfl]) fun hs7 hh7 hl7 => ?_
    simp at hh7
    rw [hst.1, hst.2]
    simp [hlt, hal, hok, hwi, xDb, xQuery, xDelta, yCnt, ]
    exact back (i + 1, .pl ((smP D0 Q0 X0 (i + 1)).rows.map (cP cI)), .pl ((smP D0 Q0 X0 (i + 1)).cs.map cI)) ⟨hlt, by simp [D.er], by simp [D.er]⟩ (by simp only; omega) rfl (by simp <;> omega) (by simp) (by simp [xDb, xQuery, xDelta, yCnt, show (smP D0 Q0 X0 (i + 1)).ar = Q0.out.length from rfl])
  · have hn : i = Q0.atoms.length := by omega
    subst hn
    simp [hlt, hal, xDb, xQuery, xDelta, yCnt, ]
    refine call_f (VC.to (w_spec_EqualCounted (smP D0 Q0 X0 Q0.atoms.length) (vdR D0 Q0 X0)) (show _ = V.d (.bool true) by simp [hva.2])) (by simp [rpL, rp, er, ec, yCnt, D.er, show (smP D0 Q0 X0 Q0.atoms.length).ar = Q0.out.length from rfl]) rfl fun hs8 hh8 => ?_
    simp []
end
end Go.Proofs.YtmgphabeodaokaaGreat
