/-
  QQ1B2: a part of a proof of this seat: the value-level semantics of Go code without maps, its walk rules, the frame of a row, facts of types, schedules, walks, plain lemmas (QH QI QJ QK QL QM QN QO LBC). It holds of every program and state that its hypotheses name.
-/
import Derived.Test.YtpbcmlolapdfjaaDoorQQ1B1
set_option linter.unusedSimpArgs false
set_option linter.unusedVariables false
set_option linter.unnecessarySimpa false
namespace Go.Proofs.YtpbcmlolapdfjaaDoor
open Go.Vs Go.Proofs Go
set_option maxRecDepth 100000
set_option maxHeartbeats 1000000

section
attribute [local simp] pS cP eQ_def
/-- what a system of equations is answered with -/
def solV (n : Nat) (R : List (List _root_.Rat)) : V := match solQ n R with
  | some x => .tup [.d (.pl (x.map eQ)), .d (.bool true)]
  | none => .tup [.d (.pl []), .d (.bool false)]
theorem er_eQ : ∀ l : List _root_.Rat, erLL (l.map eQ) = l.map eQ
  | [] => rfl
  | a :: r => by simp only [List.map_cons, erLL, er_eQ r]; rfl
theorem w_impl_SolveLinearSystem (n : Nat) (R : List (List _root_.Rat)) (hn1 : 1 ≤ n) (hn : n ≤ 4) (hl0 : R.length = n) (hr : ∀ r ∈ R, r.length = n + 1) (h01 : ∀ r ∈ R, ∀ q ∈ r, q = 0 ∨ q = 1) :
   VC Tryd.prog 84 [.d (pS (cP eQ) (R.map (·.take n))), .d (pS eQ (R.map fun r => fnL r n))] (fun _ r => r = solV n R) := by
  refine VC.erase (e_impl_SolveLinearSystem n R hn1 hn hl0 hr h01) fun _ r h => ?_
  unfold solV
  cases e : solQ n R with
  | none => rw [e] at h; subst h; rfl
  | some x =>
    rw [e] at h
    obtain ⟨id, T, rfl⟩ := h
    simp [rp, rpL, D.er, er_eQ]
theorem e_spec_SolveLinearSystem (n : Nat) (R : List (List _root_.Rat)) (hn1 : 1 ≤ n) (hn : n ≤ 4) (hl0 : R.length = n) (hr : ∀ r ∈ R, r.length = n + 1) (h01 : ∀ r ∈ R, ∀ q ∈ r, q = 0 ∨ q = 1) :
   VC Tryd.prog 75 [.d (pS (cP eQ) (R.map (·.take n))), .d (pS eQ (R.map fun r => fnL r n))]
    (fun _ r => match solQ n R with
      | some x => ∃ id T, r = .tup [.d (.sl id T (x.map eQ)), .d (.bool true)]
      | none => ∃ id T, r = .tup [.d (.sl id T []), .d (.bool false)]) := by
  have hb : Bd n 0 R := bd_01 hl0 h01
  obtain ⟨RB, hRB⟩ : ∃ RB, RB = R.map fun r => fnL r n := ⟨_, rfl⟩
  obtain ⟨MA, hMA⟩ : ∃ MA, MA = R.map (·.take n) := ⟨_, rfl⟩
  have hRBl : RB.length = n := by rw [hRB]; simpa using hl0
  have hMAl : MA.length = n := by rw [hMA]; simpa using hl0
  have hRBs : ∀ q ∈ RB, smQ q := fun q hq => by
    rw [hRB] at hq
    obtain ⟨r, hr', rfl⟩ := List.mem_map.1 hq
    have := hr r hr'
    rw [fnL_at (by omega)]
    exact sm_01 (h01 r hr' _ (List.getElem_mem _))
  have hMAi : ∀ i (hi : i < R.length), MA[i]'(by omega) = R[i].take n := fun i hi => by subst hMA; simp
  have hRBi : ∀ i (hi : i < R.length), RB[i]'(by omega) = fnL R[i] n := fun i hi => by subst hRB; simp
  rw [← hRB, ← hMA]
  refine VC.of E s75 (by kernel_rfl) Tryd.func75 (by rfl) (by kernel_rfl) (by simp [Tryd.f75]) (by simp [Tryd.f75]) s75_ok fun B => ?_
  have hMAr : ∀ r ∈ MA, r.length = n := fun r hr' => by
    rw [hMA] at hr'
    obtain ⟨r', h1, rfl⟩ := List.mem_map.1 hr'
    have := hr r' h1
    simp; omega
  have hMAs : ∀ r ∈ MA, ∀ q ∈ r, smQ q := fun r hr' q hq => by
    rw [hMA] at hr'
    obtain ⟨r', h1, rfl⟩ := List.mem_map.1 hr'
    exact sm_01 (h01 r' h1 q (List.mem_of_mem_take hq))
  simp [-w_condT, w_condI, Tryd.f75, s75_10, s75_28, s75_10, s75_28, hRBl, hMAl, show (n : Int) ≤ 6 by omega, show ¬ (6 : Int) < n by omega]
  refine call_pure (w_spec_l13Square MA n n (by omega) (by omega) hMAr hMAs) (by simp) (by simp) rfl fun hs0 hh0 => ?_
  try simp at hh0
  simp [-w_condT, w_condI, s75_10, s75_28, hMAl]
  refine loop_ruleL (X := Nat × List (Nat × List _root_.Rat)) (fun x hs => RowI R B x.1 x.2 hs) (fun x => [(0, .d (.pl (MA.map (cP eQ)))), (1, .d (.pl (RB.map eQ))), (6, .d (.int .i64 n)), (7, .own 28 0 x.2.length), (8, .d (.int .i64 x.1))])
    (fun x => [(28, some (.row 54 1 (x.2.map (cR (28, 2)))))]) (fun x => n - x.1) ?_ ?_
  · exact Lead.of ⟨(0, []), ⟨by simp, by simp, by simp, by simp, by simp⟩, rfl, rfl, Nat.le_refl _, by simp, by simp⟩
  rintro ⟨i, rows⟩ hs1 t m hI hh1
  simp only
  have hIl : rows.length = i := hI.len
  have hle : i ≤ R.length := hI.le
  by_cases hlt : i < n
  · have hiR : i < R.length := by omega
    have hwi := wr1 (i := i) (by omega)
    have hrm := List.getElem_mem hiR
    have hrl := hr _ hrm
    obtain ⟨a, ha⟩ : ∃ a, a = MA[i]'(by omega) := ⟨_, rfl⟩
    have ha2 : a = R[i].take n := by rw [ha]; exact hMAi i hiR
    have hal : a.length = n := by rw [ha2]; simp; omega
    obtain ⟨b, hb'⟩ : ∃ b, b = RB[i]'(by omega) := ⟨_, rfl⟩
    have hbs : smQ b := hRBs b (by rw [hb']; exact List.getElem_mem _)
    have hab : a ++ [b] = R[i] := by rw [ha2, hb', hRBi i hiR]; exact app_last hrl
    have hane : a ≠ [] := fun e => by rw [e] at hal; simp at hal; omega
    have hL0 : LenOk 16 n := ⟨by omega, by simp only [maxLen]; omega⟩
    have hL1 : LenOk 16 (n + 1) := ⟨by omega, by simp only [maxLen]; omega⟩
    have hL2 : LenOk 24 (i + 1) := ⟨by omega, by simp only [maxLen]; omega⟩
    have htk : (a.map eQ ++ [eQ b]).take (n + 1) = a.map eQ ++ [eQ b] := List.take_of_length_le (by simp; omega)
    rw [eQ_def b] at htk
    have htk0 : (a.map eQ).take n = a.map eQ := List.take_of_length_le (by simp; omega)
    have hlen0 : ∀ l ∈ a.map eQ, l.length = 2 := fun l hl => by obtain ⟨q, _, rfl⟩ := List.mem_map.1 hl; rfl
    refine anyQ2 fun Q => ?_
    simp [-w_condT, w_condI, hlt, hRBl, ← hb', s75_10, s75_28, ]
    refine call_pure (w_spec_IsValidRational b hbs) rfl (by simp) rfl fun hs2 hh2 => ?_
    try simp at hh2
    simp [-w_condT, w_condI, hRBl, hMAl, hlt, ← ha, ← hb', hal, hL0, hL1, htk0, s75_10, s75_28, ]
    refine ⟨⟨?_, ?_⟩, ?_⟩
    all_goals
      refine bs1 (k' := 42) (ks := []) (by simp) (by simp) fun γ hs4 h4 hg => ?_
      obtain ⟨q1, q2⟩ := gam_at hg (k := 42) (T := 28) (sz := 2) (es := (a ++ [b]).map eQ) (by simp)
      have q3 := gam_row2 hg (k := 42) (k2 := 28) (T := 28) (sz := 2) (es := (a ++ [b]).map eQ) (T2 := 54) (sz2 := 1) (es2 := rows.map (cR (28, 2))) (by simp) (by simp)
      clear hg
      obtain ⟨g, hgk⟩ := Option.ne_none_iff_exists'.1 (q2 (by simp))
      obtain ⟨q4, q5⟩ := q1 g hgk
      replace q4 : B ≤ g := q4
      have q6 := q3 g hgk
      simp only [ids_cRs] at q6
      simp at h4
      simp [-w_condT, w_condI, hal, hIl, hL2, hgk, hwi, s75_10, s75_28, ]
      refine back2 (i + 1, rows ++ [(g, R[i])]) (hI.snoc (hs' := hs4) hiR q4 q5 q6 (by omega)) (by simp only; omega) rfl (by simp <;> omega) (by simp [hIl]) (by simp [cR, ← hab, htk])
  have hin : i = n := by omega
  subst hin
  have hrows : rows.map (·.2) = R := by rw [hI.snd, List.take_of_length_le (by omega)]
  simp [-w_condT, w_condI, s75_10, s75_28, hIl]
  refine loop_ruleL (X := Nat × Nat × List (Nat × List _root_.Rat)) (fun x _ => MatI R i B x.1 x.2.1 x.2.2) (fun x => [(6, .d (.int .i64 i)), (7, .d (.sl (some x.2.1) (some (54, 1)) (x.2.2.map (cR (28, 2))))), (9, .d (.int .i64 x.1))]) (fun _ => []) (fun x => i - x.1) ?_ ?_
  · refine (lead_frz 28 (T := 54) (sz := 1) (es := rows.map (cR (28, 2))) (by simp)).bind ?_
    rintro _ ⟨γ, hs', g1, hg, rfl⟩
    obtain ⟨q1, q2⟩ := gam_at hg (k := 28) (T := 54) (sz := 1) (es := rows.map (cR (28, 2))) (by simp)
    have q3 := gam_row hg (k := 28) (T := 54) (sz := 1) (es := rows.map (cR (28, 2))) (by simp)
    clear hg
    have hne : rows.map (cR (28, 2)) ≠ [] := fun e => by have := congrArg List.length e; simp at this; subst this; simp at hIl; omega
    obtain ⟨gm, hgm⟩ := Option.ne_none_iff_exists'.1 (q2 hne)
    have q4 : B ≤ gm := (q1 gm hgm).1
    have q5 := q3 gm hgm
    simp only [ids_cRs] at q5
    have htk : (rows.map (cR (28, 2))).take i = rows.map (cR (28, 2)) := List.take_of_length_le (by simp; omega)
    exact Lead.of ⟨(0, gm, rows), ⟨by simp, by rw [hrows]; rfl, hI.nd, hI.lo, q4, q5⟩, rfl, rfl, g1, by simp [hgm, hIl, htk], by simp⟩
  rintro ⟨p, gm, S⟩ hs2 t2 m2 hM hh2
  clear hI hIl hrows
  have hpn : p ≤ i := hM.pn
  obtain ⟨TM, hTM⟩ : ∃ TM : TypeId × Nat, TM = (54, 1) := ⟨_, rfl⟩
  obtain ⟨T, hT⟩ : ∃ T : TypeId × Nat, T = (28, 2) := ⟨_, rfl⟩
  simp only [← hTM, ← hT]
  have hgj := gj_inv hl0 hr hb p hpn _ hM.gj
  have hSl : S.length = i := by have := hgj.1.len; simpa using this
  have hSr : ∀ k (hk : k < S.length), S[k].2.length = i + 1 := fun k hk => hgj.1.row _ (List.mem_map.2 ⟨_, List.getElem_mem hk, rfl⟩)
  have hSq : ∀ k (hk : k < S.length) j, rowQ (S.map (·.2)) k j = fnL S[k].2 j := fun k hk j => by rw [rowQ, gd (by simpa using hk)]; simp
  by_cases hlt2 : p < i
  · have hwp := wr1 (i := p) (by omega)
    simp [-w_condT, w_condI, hlt2, s75_10, s75_28, ]
    refine loop_rule (X := Nat) (fun k => p ≤ k ∧ k ≤ i ∧ ∀ j, p ≤ j → j < k → rowQ (S.map (·.2)) j p = 0) (fun k => [(6, .d (.int .i64 i)), (7, .d (.sl (some gm) (some TM) (S.map (cR T)))), (9, .d (.int .i64 p)), (10, .d (.int .i64 k))]) (fun _ => []) (fun k => i - k) p ⟨by omega, by omega, fun j h1 h2 => by omega⟩ (by simp) (by simp) ?_
    intro k hs3 t3 m3 hk hh3
    by_cases hki : k < i
    · have hwk := wr1 (i := k) (by omega)
      obtain ⟨gk, r, hSk⟩ : ∃ gk r, S[k]'(by omega) = (gk, r) := ⟨_, _, rfl⟩
      have hrl : r.length = i + 1 := by have := hSr k (by omega); rw [hSk] at this; exact this
      have hpr : p < r.length := by omega
      have hq : rowQ (S.map (·.2)) k p = r[p] := by rw [hSq k (by omega), hSk]; exact fnL_at hpr
      obtain ⟨es, hes⟩ : ∃ es, es = S.map (cR T) := ⟨_, rfl⟩
      have hesl : es.length = i := by rw [hes]; simpa using hSl
      have hek : es[k]'(by omega) = [.sl (some gk) (some T) (r.map eQ)] := by subst hes; simp [hSk, cR]
      rw [← hes]
      by_cases hz : r[p].num = 0
      · refine anyQ fun Q => ?_
        simp [-w_condT, w_condI, hki, hesl, hek, hpr, hz, hwk, s75_10, s75_28, ]
        refine back (k + 1) ⟨by omega, by omega, fun j h1 h2 => ?_⟩ (by omega) rfl (by simp <;> omega) (by simp [hes]) (by simp)
        by_cases e : j = k
        · subst e; rw [hq]; exact _root_.Rat.num_eq_zero.1 hz
        · exact hk.2.2 j h1 (by omega)
      have hpv : pivAt (S.map (·.2)) p = k := piv_eq hk.1 hk.2.2 (.inr ⟨by simp; omega, by rw [hq]; exact fun e => hz (by rw [e]; rfl)⟩)
      have hst := stp_of hn hl0 hr hb hM.gj hlt2 hpv hki
      obtain ⟨gp, v, hSp⟩ : ∃ gp v, S[p]'(by omega) = (gp, v) := ⟨_, _, rfl⟩
      have hep : es[p]'(by omega) = [.sl (some gp) (some T) (v.map eQ)] := by subst hes; simp [hSp, cR]
      have hgk : gk ∈ S.map (·.1) := List.mem_map.2 ⟨_, List.getElem_mem (show k < S.length by omega), by rw [hSk]⟩
      have hgp : gp ∈ S.map (·.1) := List.mem_map.2 ⟨_, List.getElem_mem (show p < S.length by omega), by rw [hSp]⟩
      have hmk : gm ≠ gk := fun e => hM.gN (e ▸ hgk)
      have hmp : gm ≠ gp := fun e => hM.gN (e ▸ hgp)
      have hpe : p < es.length := by omega
      have hgB := hM.gB
      have hn1 : gm ∉ idsLL es := by rw [hes, ids_cRs]; exact hM.gN
      have hke : k < es.length := by omega
      obtain ⟨es1, hes1⟩ : ∃ es1, es.set k [.sl (some gp) (some T) (v.map eQ)] = es1 := ⟨_, rfl⟩
      have hes1l : es1.length = i := by rw [← hes1]; simpa using hesl
      have hn2 : gm ∉ idsLL es1 := by rw [← hes1]; exact nin_set hn1 (by simp [idsL, D.ids, hmp])
      have hek1 : ∃ c, es1[p]'(by omega) = [c] := by
        subst hes1; rw [List.getElem_set]; split
        · exact ⟨_, rfl⟩
        · exact ⟨_, hep⟩
      obtain ⟨c1, hek1⟩ := hek1
      have hre1 := re_mset (gm := gm) (TM := TM) (es := es) (i := k) (e' := [.sl (some gp) (some T) (v.map eQ)]) hke (by rw [hek]; rfl)
      rw [hes1] at hre1
      obtain ⟨es2, hes2⟩ : ∃ es2, es1.set p [.sl (some gk) (some T) (r.map eQ)] = es2 := ⟨_, rfl⟩
      have hre2 := re_mset (gm := gm) (TM := TM) (es := es1) (i := p) (e' := [.sl (some gk) (some T) (r.map eQ)]) (by omega) (by rw [hek1]; rfl)
      rw [hes2] at hre2
      have hrk : ∀ d, reV (one gm d) (.d (.sl (some gk) (some T) (r.map eQ))) = .d (.sl (some gk) (some T) (r.map eQ)) := fun d => re_rowout (one_out (Ne.symm hmk))
      have hrp : ∀ d, reV (one gm d) (.d (.sl (some gp) (some T) (v.map eQ))) = .d (.sl (some gp) (some T) (v.map eQ)) := fun d => re_rowout (one_out (Ne.symm hmp))
      have hek1' : es1[p]? = some [c1] := by rw [List.getElem?_eq_getElem (by omega), hek1]
      have hpS : p < S.length := by omega
      have hkS : k < S.length := by omega
      obtain ⟨S2, hS2⟩ : ∃ S2, S2 = swapR S p k := ⟨_, rfl⟩
      obtain ⟨M2, hM2⟩ : ∃ M2, M2 = S2.map (·.2) := ⟨_, rfl⟩
      have hM2s : M2 = swapM (S.map (·.2)) p k := by rw [hM2, hS2, swapR_snd]
      have hS2e : es2 = S2.map (cR T) := by
        rw [hS2, swapR_set2 hpS hkS, ← hes2, ← hes1, hes, ← set_map, ← set_map, hSk, hSp]; rfl
      have hpm : (S2.map (·.1)).Perm (S.map (·.1)) := by rw [hS2]; exact (swapR_perm hpS hkS).map _
      obtain ⟨f1, f2, f3⟩ := hM.fst hpm
      have hsl := hst.len
      have hsr := hst.row
      have hse := hst.safe
      have hsn := hst.ne
      have hnx := hst.nxt
      rw [← hM2s] at hsl hsr hse hsn hnx
      have hS2l : S2.length = i := by rw [hS2]; simp [swapR_len, hSl]
      have hM2i : ∀ j (hj : j < S2.length), M2[j]'(by omega) = S2[j].2 := fun j hj => by subst hM2; simp
      have hX := x_spec_l13Step gm (some TM) T S2 p i hn hS2l hlt2 f1 f3 (fun q hq => hsr _ (by rw [hM2]; exact List.mem_map.2 ⟨_, hq, rfl⟩)) (fun j hj => by
        have := hse.elim hsl hsr hlt2 (show j < i by omega) hsn
        rw [hM2i p (by omega), hM2i j hj] at this
        exact this)
      rw [← hS2e] at hX
      simp [-w_condT, w_condI, hki, hesl, hek, hep, hpr, hz, hlt2, hgB, hn1, hn2, hmk, hmp, hes1, hre1, hes1l, hek1, hek1', hes2, hre2, hrk, hrp, show ¬ (k : Int) = i by omega, show k ≠ i by omega, s75_10, s75_28, ]
      refine call_x (E91) (by simp) (by simp) (by simp) (fun q hq => .inl (f2 q hq)) hX fun n5 hs5 r5 cs5 ws5 hn5 hm5 hp5 hr5 hw5 => ?_
      obtain ⟨rfl, Y, y1, y2, rfl⟩ := hp5
      try simp at hn5
      rw [← hM2] at y2
      have hY2 : Y.map (·.2.length) = S2.map (·.2.length) := by
        have e1 : Y.map (·.2.length) = (Y.map (·.2)).map List.length := by rw [List.map_map]; rfl
        have e2 : S2.map (·.2.length) = M2.map List.length := by rw [hM2, List.map_map]; rfl
        rw [e1, e2, y2]
        apply List.ext_getElem (by simp [stepM])
        intro j h1 h2
        simp only [List.getElem_map, stepM, List.getElem_mapIdx]
        split
        · rename_i e; subst e; rfl
        · simp [elimR]
      have hre := re_mat (W := S2.map (·.1)) (gm := gm) (TM := some TM) (TM' := some TM) (T := T) (rows := S2) (rows' := Y) y1 hY2 f1 f3 f3 (fun q hq => hq)
      rw [← hS2e] at hre
      simp [-w_condT, w_condI, hre, hwp, s75_10, s75_28, ]
      refine back2 (p + 1, gm, Y) ⟨by omega, by rw [y2]; exact hnx, by rw [y1]; exact f1, by rw [y1]; exact f2, hgB, by rw [y1]; exact f3⟩ (by simp only; omega) rfl (by simp <;> omega) (by simp) (by simp)
    · have hki2 : k = i := by omega
      have hpv : pivAt (S.map (·.2)) p = k := piv_eq hk.1 hk.2.2 (.inl (by simp; omega))
      have hno := sol_none hM.gj (by rw [hpv]; simp; omega) hlt2
      rw [hno]
      simp [-w_condT, w_condI, hki, hki2, s75_10, s75_28, ]
  have hpi : p = i := by omega
  subst hpi
  obtain ⟨-, e2, e3, e4, e5⟩ := sol_end hn hl0 hr hb hM.gj
  rw [e3]
  obtain ⟨F, hF⟩ : ∃ F : Nat → _root_.Rat, F = fun j => rowQ (S.map (·.2)) j p / rowQ (S.map (·.2)) j j := ⟨_, rfl⟩
  have hout : outM p (S.map (·.2)) = (List.range p).map F := by rw [hF]; rfl
  rw [hout]
  simp [-w_condT, w_condI, s75_10, s75_28, ]
  refine loop_ruleL (X := Nat) (fun j _ => j ≤ p) (fun j => [(6, .d (.int .i64 p)), (7, .d (.sl (some gm) (some TM) (S.map (cR T)))), (12, .own 102 0 j), (13, .d (.int .i64 j))]) (fun j => [(102, some (.row 28 2 (((List.range j).map F).map eQ)))]) (fun j => p - j) ?_ ?_
  · exact Lead.of ⟨0, by omega, rfl, rfl, Nat.le_refl _, by simp, by simp⟩
  intro j hs6 t6 m6 hj hh6
  by_cases hjp : j < p
  · have hwj := wr1 (i := j) (by omega)
    have hjS : j < S.length := by omega
    obtain ⟨g, r, hSj⟩ : ∃ g r, S[j] = (g, r) := ⟨_, _, rfl⟩
    have hrl : r.length = p + 1 := by have := hSr j hjS; rw [hSj] at this; exact this
    have hjr : j < r.length := by omega
    have hpr : p < r.length := by omega
    have hj5 := e5 j (by simpa using hjS)
    simp only [List.getElem_map, hSj] at hj5
    obtain ⟨d1, d2, d3, d4⟩ := hj5
    have hFj : F j = fnL r p / fnL r j := by rw [hF]; simp only [hSq j hjS, hSj]
    have hdiv := w_spec_DivRational (fnL r p) (fnL r j) d3 d2 d1 d4
    rw [← hFj, fnL_at hpr, fnL_at hjr] at hdiv
    have hL : LenOk 16 (j + 1) := ⟨by omega, by simp only [maxLen]; omega⟩
    obtain ⟨es, hes⟩ : ∃ es, es = S.map (cR T) := ⟨_, rfl⟩
    have hesl : es.length = p := by rw [hes]; simpa using hSl
    have hej : es[j]'(by omega) = [.sl (some g) (some T) (r.map eQ)] := by subst hes; simp [hSj, cR]
    rw [← hes]
    refine anyQ2 fun Q => ?_
    simp [-w_condT, w_condI, hjp, hesl, hej, hjr, hpr, s75_10, s75_28, ]
    refine ⟨?_, ?_⟩
    all_goals
      refine call_pure hdiv rfl (by simp) rfl fun hs7 hh7 => ?_
      try simp at hh7
      simp [-w_condT, w_condI, hL, hwj, s75_10, s75_28, ]
      refine back2 (j + 1) (by omega) (by omega) rfl (by simp <;> omega) (by simp [hes]) (by simp [List.range_succ])
  · have hjn : j = p := by omega
    subst hjn
    simp [-w_condT, w_condI, s75_10, s75_28, ]
    intro γ hs' h1 hg
    clear hg
    have htk : (List.map (eQ ∘ F) (List.range j)).take j = List.map (eQ ∘ F) (List.range j) := List.take_of_length_le (by simp)
    have hpp : hpLL (List.map (eQ ∘ F) (List.range j)) = false := by rw [← List.map_map]; exact hp_eQs _
    rw [htk]
    simp [hpp]
theorem w_spec_SolveLinearSystem (n : Nat) (R : List (List _root_.Rat)) (hn1 : 1 ≤ n) (hn : n ≤ 4) (hl0 : R.length = n) (hr : ∀ r ∈ R, r.length = n + 1) (h01 : ∀ r ∈ R, ∀ q ∈ r, q = 0 ∨ q = 1) :
   VC Tryd.prog 75 [.d (pS (cP eQ) (R.map (·.take n))), .d (pS eQ (R.map fun r => fnL r n))] (fun _ r => r = solV n R) := by
  refine VC.erase (e_spec_SolveLinearSystem n R hn1 hn hl0 hr h01) fun _ r h => ?_
  unfold solV
  cases e : solQ n R with
  | none =>
    rw [e] at h
    obtain ⟨id, T, rfl⟩ := h
    rfl
  | some x =>
    rw [e] at h
    obtain ⟨id, T, rfl⟩ := h
    simp [rp, rpL, D.er, er_eQ]
end

end Go.Proofs.YtpbcmlolapdfjaaDoor


namespace Go.Proofs.YtpbcmlolapdfjaaDoor
open Go.Vs Go.Proofs Go
set_option maxRecDepth 100000
set_option maxHeartbeats 1000000

section
attribute [local simp] pS cP eQ_def cI
theorem w_spec_l14Pick (b : Nat) (hb : b ≤ 9) : ∀ (n a : Nat), n ≤ 9 → a ≤ 10 → VC Tryd.prog 74 [.d (.int .i64 a), .d (.int .i64 b), .d (.int .i64 n)] (fun _ r => r = .d (pS (cP cI) ((combs n (rgF a b)).map intsN))) := by
  intro n
  induction n with
  | zero =>
    intro a _ _
    refine VC.ofL EP s74 (by kernel_rfl) Tryd.func74 (by rfl) (by kernel_rfl) (by simp [Tryd.f74]) (by simp [Tryd.f74]) s74_ok fun B hl => ?_
    simp [Tryd.f74, combs, intsN]
  | succ n ih =>
    intro a hn ha
    refine VC.ofL EP s74 (by kernel_rfl) Tryd.func74 (by rfl) (by kernel_rfl) (by simp [Tryd.f74]) (by simp [Tryd.f74]) s74_ok fun B hl => ?_
    clear hl
    obtain ⟨C, hC⟩ : ∃ C, C = (combs (n + 1) (rgF a b)).map intsN := ⟨_, rfl⟩
    have hCl : C.length ≤ 512 := by rw [hC, List.length_map]; exact combs_le hb
    rw [← hC]
    simp [Tryd.f74, show ¬ ((n : Int) + 1 = 0) by omega]
    refine loop_rule (X := Nat × List (List Int)) (fun x => a ≤ x.1 ∧ x.1 ≤ 10 ∧ x.2 ++ (combs (n + 1) (rgF x.1 b)).map intsN = C) (fun x => [(1, .d (.int .i64 b)), (2, .d (.int .i64 ((n + 1 : Nat) : Int))), (7, .own 15 0 x.2.length), (8, .d (.int .i64 x.1))]) (fun x => [(15, some (.row 23 1 (x.2.map (cP cI))))]) (fun x => 20 - x.1) (a, []) ⟨by simp, by simp; omega, by simp [hC]⟩ (by simp) (by simp) ?_
    rintro ⟨i, O⟩ hs t m ⟨h1, h2, h3⟩ hh
    simp only at h1 h2 h3
    have hOl : O.length ≤ 512 := by have := congrArg List.length h3; simp at this; omega
    have hw0 : IntKind.i64.wrap ((i : Int) + ((n : Int) + 1)) = (i : Int) + ((n : Int) + 1) := wrap64_of (by omega) (by omega)
    have hw1 : IntKind.i64.wrap ((i : Int) + 1) = ((i + 1 : Nat) : Int) := by rw [wrap64_of (by omega) (by omega)]; omega
    have hw2 : IntKind.i64.wrap ((n : Int) + 1 - 1) = (n : Int) := by rw [wrap64_of (by omega) (by omega)]; omega
    have hw3 : IntKind.i64.wrap (n : Int) = (n : Int) := wrap64_of (by omega) (by omega)
    by_cases hlt : i + (n + 1) ≤ b
    · have hib : i < b := by omega
      obtain ⟨Q, hQ⟩ : ∃ Q, Q = combs n (rgF (i + 1) b) := ⟨_, rfl⟩
      have hQl : Q.length ≤ 512 := by rw [hQ]; exact combs_le hb
      have hQm : ∀ c ∈ Q, c.length = n := fun c hc => by rw [hQ] at hc; exact (combs_sub hc).1
      have hst : C = O ++ Q.map (fun c => intsN (i :: c)) ++ (combs (n + 1) (rgF (i + 1) b)).map intsN := by
        rw [← h3, combs_rg hib, List.map_append, List.map_map, ← hQ, List.append_assoc]; rfl
      have hih := ih (i + 1) (by omega) (by omega)
      rw [← hQ] at hih
      simp [hw0, show (i : Int) + ((n : Int) + 1) ≤ b by omega, hw1, hw2, hw3, ]
      refine call_p hih (by simp) fun hs2 hh2 _ => ?_
      try simp at hh2
      simp []
      refine loop_rule (X := Nat) (fun k => k ≤ Q.length) (fun k => [(1, .d (.int .i64 b)), (2, .d (.int .i64 ((n + 1 : Nat) : Int))), (7, .own 15 0 (O.length + k)), (8, .d (.int .i64 i)), (9, .d (.pl ((Q.map intsN).map (cP cI)))), (10, .d (.int .i64 k))]) (fun k => [(15, some (.row 23 1 ((O ++ (Q.take k).map (fun c => intsN (i :: c))).map (cP cI))))]) (fun k => Q.length - k) 0 (by simp) (by simp) (by simp) ?_
      intro k hs3 t3 m3 hk hh3
      by_cases hkl : k < Q.length
      · have hwk := wr1 (i := k) (by omega)
        have hqk := hQm _ (List.getElem_mem hkl)
        have hL1 : LenOk 8 (1 + n) := ⟨by omega, by simp only [maxLen]; omega⟩
        have hL2 : LenOk 24 (O.length + k + 1) := ⟨by omega, by simp only [maxLen]; omega⟩
        have hst2 : (O ++ (Q.take (k + 1)).map (fun c => intsN (i :: c))).map (cP cI) = (O ++ (Q.take k).map (fun c => intsN (i :: c))).map (cP cI) ++ [cP cI ((i : Int) :: intsN Q[k])] := by
          simp only [List.take_succ_eq_append_getElem hkl, List.map_append, List.append_assoc]; rfl
        obtain ⟨OO, hOO⟩ : ∃ OO, OO = (O ++ (Q.take k).map (fun c => intsN (i :: c))).map (cP cI) := ⟨_, rfl⟩
        have hOOl : OO.length = O.length + k := by rw [hOO]; simp; omega
        obtain ⟨c, hc⟩ : ∃ c, c = intsN Q[k] := ⟨_, rfl⟩
        have hcl : c.length = n := by rw [hc]; simpa using hqk
        rw [← hOO] at hst2 ⊢
        rw [← hc] at hst2
        have hst3 := hst2
        simp only [List.map_append, List.map_take, List.map_map] at hst3
        have htk : List.take (1 + n) ([D.int IntKind.i64 (i : Int)] :: List.map cI c) = [D.int IntKind.i64 (i : Int)] :: List.map cI c := List.take_of_length_le (by simp [hcl]; omega)
        refine anyQ fun Z => ?_
        simp [hkl, ← hc, hcl, hL1, hL2, hOOl, hwk, ]
        refine back (k + 1) (by omega) (by omega) rfl (by simp <;> omega) (by simp; omega) (by simp [hst3, htk])
      · have hkn : k = Q.length := by omega
        subst hkn
        simp [hw1, ]
        refine back (i + 1, O ++ Q.map (fun c => intsN (i :: c))) ⟨by simp only; omega, by simp only; omega, hst.symm⟩ (by simp only; omega) rfl (by simp <;> omega) (by simp) (by simp [List.take_of_length_le])
    · have hend : combs (n + 1) (rgF i b) = [] := combs_end (by omega) (by omega)
      rw [hend, List.map_nil, List.append_nil] at h3
      subst h3
      simp [hw0, show ¬ (i : Int) + ((n : Int) + 1) ≤ b by omega, List.take_of_length_le]
end

end Go.Proofs.YtpbcmlolapdfjaaDoor


namespace Go.Proofs.YtpbcmlolapdfjaaDoor
open Go.Vs Go.Proofs Go
set_option maxRecDepth 100000
set_option maxHeartbeats 1000000

section
attribute [local simp] pS cP eQ_def cI
theorem ptStep_some {A : List (List _root_.Rat)} {n : Nat} {out M : List (List _root_.Rat)} {x : List _root_.Rat} (h : solQ n M = some x) (hf : feasQ A x = true) : ptStep A n out M = addPt out x := by simp [ptStep, h, hf]
theorem ptStep_no {A : List (List _root_.Rat)} {n : Nat} {out M : List (List _root_.Rat)} {x : List _root_.Rat} (h : solQ n M = some x) (hf : feasQ A x = false) : ptStep A n out M = out := by simp [ptStep, h, hf]
theorem ptStep_none {A : List (List _root_.Rat)} {n : Nat} {out M : List (List _root_.Rat)} (h : solQ n M = none) : ptStep A n out M = out := by simp [ptStep, h]
theorem w_spec_l14Points (A : List (List _root_.Rat)) (n : Nat) (h : LPok A n) :
   VC Tryd.prog 65 [.agg [.d (pS (cP eQ) A), .d (pS eQ (List.replicate A.length 1)), .d (pS eQ (List.replicate n 1))], .d (.int .i64 1)] (fun _ r => r = .d (pS (cP eQ) (ptsQ A n))) := by
  have hn1 := h.n1
  have hn4 := h.n4
  have hm1 := h.m1
  have hm5 := h.m5
  obtain ⟨m, hm⟩ : ∃ m, m = A.length := ⟨_, rfl⟩
  obtain ⟨AR, hAR⟩ : ∃ AR, AR = augR A n := ⟨_, rfl⟩
  have hARl : AR.length = m + n := by rw [hAR, augR_len, hm]
  have hARr : ∀ r ∈ AR, r.length = n + 1 := by rw [hAR]; exact aug_len h.m01
  have hAR01 : ∀ r ∈ AR, ∀ q ∈ r, q = 0 ∨ q = 1 := by rw [hAR]; exact aug_01 h.m01
  obtain ⟨CB, hCB⟩ : ∃ CB, CB = combs n (rgF 0 (m + n)) := ⟨_, rfl⟩
  have hCBl : CB.length ≤ 512 := by rw [hCB]; exact combs_le (by omega)
  have hpts : ptsQ A n = (CB.map (rowsA AR)).foldl (ptStep A n) [] := by
    rw [ptsQ, combs_AR, augR_len, hCB, hAR, hm]
  obtain ⟨OUT, hOUT⟩ : ∃ OUT : Nat → List (List _root_.Rat), OUT = fun i => ((CB.take i).map (rowsA AR)).foldl (ptStep A n) [] := ⟨_, rfl⟩
  have hOl : ∀ i, (OUT i).length ≤ 512 := fun i => by
    rw [hOUT]
    have := fold_len (A := A) (n := n) ((CB.take i).map (rowsA AR)) []
    simp only [List.length_map, List.length_take, List.length_nil] at this
    simp only; omega
  have hO0 : OUT 0 = [] := by rw [hOUT]; rfl
  have hOs : ∀ i (hi : i < CB.length), OUT (i + 1) = ptStep A n (OUT i) (rowsA AR CB[i]) := fun i hi => by
    rw [hOUT]; simp only [List.take_succ_eq_append_getElem hi, List.map_append, List.foldl_append]; rfl
  have hOe : OUT CB.length = ptsQ A n := by rw [hOUT, hpts]; simp only [List.take_of_length_le (Nat.le_refl _)]
  obtain ⟨CI, hCI⟩ : ∃ CI, CI = CB.map intsN := ⟨_, rfl⟩
  have hCIl : CI.length = CB.length := by rw [hCI]; simp
  have hpick := w_spec_l14Pick (m + n) (by omega) n 0 (by omega) (by omega)
  rw [← hCB, ← hCI] at hpick
  have hwmn : IntKind.i64.wrap ((m : Int) + (n : Int)) = ((m + n : Nat) : Int) := by rw [wrap64_of (by omega) (by omega)]; omega
  obtain ⟨B1, hB1⟩ : ∃ B1, B1 = List.replicate m (1 : _root_.Rat) := ⟨_, rfl⟩
  obtain ⟨C1, hC1⟩ : ∃ C1, C1 = List.replicate n (1 : _root_.Rat) := ⟨_, rfl⟩
  have hB1l : B1.length = m := by rw [hB1]; simp
  have hC1l : C1.length = n := by rw [hC1]; simp
  have hB1i : ∀ j (hj : j < m), B1[j]'(by omega) = 1 := fun j hj => by subst hB1; simp
  rw [← hm, ← hB1, ← hC1]
  refine VC.ofL EP s65 (by kernel_rfl) Tryd.func65 (by rfl) (by kernel_rfl) (by simp [Tryd.f65]) (by simp [Tryd.f65]) s65_ok fun B hl => ?_
  clear hl
  simp [Tryd.f65, hwmn, hB1l, hC1l]
  refine call_p hpick (by simp) fun hs0 hh0 _ => ?_
  try simp at hh0
  simp []
  refine loop_rule (X := Nat) (fun i => i ≤ CB.length) (fun i => [(1, .d (.int .i64 1)), (2, .ptr 2 0 0), (5, .own 20 0 (OUT i).length), (6, .d (.int .i64 n)), (7, .d (.int .i64 m)), (8, .d (.pl (CI.map (cP cI)))), (9, .d (.int .i64 i))]) (fun i => [(2, some (.box [.d (.pl (A.map (cP eQ))), .d (.pl (B1.map eQ)), .d (.pl (C1.map eQ))])), (20, some (.row 54 1 ((OUT i).map (cP eQ))))]) (fun i => CB.length - i) 0 (by simp) (by simp [hO0]) (by simp [hO0]) ?_
  intro i hs1 t1 m1 hi hh1
  by_cases hlt : i < CB.length
  · have hwi := wr1 (i := i) (by omega)
    obtain ⟨c, hc⟩ : ∃ c, c = CB[i] := ⟨_, rfl⟩
    have hcm : c ∈ combs n (rgF 0 (m + n)) := by rw [← hCB, hc]; exact List.getElem_mem hlt
    obtain ⟨hcl, hcr⟩ := combs_sub hcm
    have hOsi := hOs i hlt
    rw [← hc] at hOsi
    obtain ⟨M, hM⟩ : ∃ M, M = rowsA AR c := ⟨_, rfl⟩
    have hMl : M.length = n := by rw [hM, rowsA_len, hcl]
    have hMm : ∀ r ∈ M, r ∈ AR := fun r hr => by rw [hM] at hr; exact rowsA_mem (fun x hx => by have := hcr x hx; omega) hr
    have hMr : ∀ r ∈ M, r.length = n + 1 := fun r hr => hARr r (hMm r hr)
    have hM01 : ∀ r ∈ M, ∀ q ∈ r, q = 0 ∨ q = 1 := fun r hr => hAR01 r (hMm r hr)
    rw [← hM] at hOsi
    obtain ⟨ci, hci⟩ : ∃ ci, ci = intsN c := ⟨_, rfl⟩
    have hcil : ci.length = n := by rw [hci]; simpa using hcl
    have hCIi : CI[i]'(by omega) = ci := by subst hCI; simp [hci, hc]
    obtain ⟨O, hO⟩ : ∃ O, O = OUT i := ⟨_, rfl⟩
    have hOl2 : O.length ≤ 512 := by rw [hO]; exact hOl i
    rw [← hO] at hOsi ⊢
    simp [hCIl, hlt, ]
    refine loop_rule (X := Nat) (fun k => k ≤ n) (fun k => [(1, .d (.int .i64 1)), (2, .ptr 2 0 0), (5, .own 20 0 O.length), (6, .d (.int .i64 n)), (7, .d (.int .i64 m)), (8, .d (.pl (CI.map (cP cI)))), (9, .d (.int .i64 i)), (10, .own 38 0 k), (11, .own 39 0 k), (12, .d (.int .i64 k))])
      (fun k => [(2, some (.box [.d (.pl (A.map (cP eQ))), .d (.pl (B1.map eQ)), .d (.pl (C1.map eQ))])), (20, some (.row 54 1 (O.map (cP eQ)))), (38, some (.row 54 1 (((M.map (·.take n)).take k).map (cP eQ)))), (39, some (.row 28 2 (((M.map fun r => fnL r n).take k).map eQ)))]) (fun k => n - k) 0 (by simp) (by simp) (by simp) ?_
    intro k hs2 t2 m2 hk hh2
    by_cases hkn : k < n
    · have hwk := wr1 (i := k) (by omega)
      obtain ⟨j, hj⟩ : ∃ j, j = c[k]'(by omega) := ⟨_, rfl⟩
      have hjr : j < m + n := by rw [hj]; exact (hcr _ (List.getElem_mem _)).2
      have hcik : ci[k]'(by omega) = (j : Int) := by subst hci; rw [intsN_at (by omega), hj]
      have hMk : M[k]'(by omega) = AR.getD j [] := by subst hM; simp [rowsA, hj]
      obtain ⟨MA, hMA⟩ : ∃ MA, MA = M.map (·.take n) := ⟨_, rfl⟩
      obtain ⟨MB, hMB⟩ : ∃ MB, MB = M.map fun r => fnL r n := ⟨_, rfl⟩
      have hMAl : MA.length = n := by rw [hMA]; simpa using hMl
      have hMBl : MB.length = n := by rw [hMB]; simpa using hMl
      have hMAk : MA[k]'(by omega) = (AR.getD j []).take n := by subst hMA; simp [hMk]
      have hMBk : MB[k]'(by omega) = fnL (AR.getD j []) n := by subst hMB; simp [hMk]
      rw [← hMA, ← hMB]
      have hL1 : LenOk 24 (k + 1) := ⟨by omega, by simp only [maxLen]; omega⟩
      have hL2 : LenOk 16 (k + 1) := ⟨by omega, by simp only [maxLen]; omega⟩
      have hmin : min k n = k := by omega
      refine anyQ fun Z => ?_
      by_cases hjm : j < m
      · have hjA : j < A.length := by omega
        have hrow : AR.getD j [] = A[j] ++ [1] := by rw [hAR]; exact augR_lo hjA
        have hta := take_app (b := 1) (h.m01.len _ (List.getElem_mem hjA))
        rw [hrow, hta.1] at hMAk
        rw [hrow, hta.2] at hMBk
        have s1 : (MA.map (cP eQ)).take (k + 1) = (MA.map (cP eQ)).take k ++ [cP eQ A[j]] := by rw [List.take_succ_eq_append_getElem (by simp; omega)]; simp [hMAk]
        have s2 : (MB.map eQ).take (k + 1) = (MB.map eQ).take k ++ [eQ 1] := by rw [List.take_succ_eq_append_getElem (by simp; omega)]; simp [hMBk]
        simp [hkn, hCIl, hlt, hCIi, hcil, hcik, hjm, hjA, hB1l, hB1i j hjm, hMAl, hMBl, hmin, hL1, hL2, hwk, ]
        exact back (k + 1) (by omega) (by omega) rfl (by simp <;> omega) (by simp) (by simp [s1, s2])
      · have hjA : A.length ≤ j := by omega
        have hrow : AR.getD j [] = unitR n (j - m) ++ [0] := by rw [hAR, hm]; exact augR_hi hjA (by omega)
        have hta := take_app (b := 0) (unitR_len (n := n) (j := j - m))
        rw [hrow, hta.1] at hMAk
        rw [hrow, hta.2] at hMBk
        have s1 : (MA.map (cP eQ)).take (k + 1) = (MA.map (cP eQ)).take k ++ [cP eQ (unitR n (j - m))] := by rw [List.take_succ_eq_append_getElem (by simp; omega)]; simp [hMAk]
        have s2 : (MB.map eQ).take (k + 1) = (MB.map eQ).take k ++ [eQ 0] := by rw [List.take_succ_eq_append_getElem (by simp; omega)]; simp [hMBk]
        simp [hkn, hCIl, hlt, hCIi, hcil, hcik, hjm, ]
        refine loop_rule (X := Nat) (fun v => v ≤ n) (fun v => [(1, .d (.int .i64 1)), (2, .ptr 2 0 0), (5, .own 20 0 O.length), (6, .d (.int .i64 n)), (7, .d (.int .i64 m)), (8, .d (.pl (CI.map (cP cI)))), (9, .d (.int .i64 i)), (10, .own 38 0 k), (11, .own 39 0 k), (12, .d (.int .i64 k)), (13, .d (.int .i64 j)), (14, .own 71 0 v), (15, .d (.int .i64 v))])
          (fun v => [(2, some (.box [.d (.pl (A.map (cP eQ))), .d (.pl (B1.map eQ)), .d (.pl (C1.map eQ))])), (20, some (.row 54 1 (O.map (cP eQ)))), (38, some (.row 54 1 ((MA.take k).map (cP eQ)))), (39, some (.row 28 2 ((MB.take k).map eQ))), (71, some (.row 28 2 ((List.replicate v (0 : _root_.Rat)).map eQ)))]) (fun v => n - v) 0 (by simp) (by simp) (by simp) ?_
        intro v hs3 t3 m3 hv hh3
        by_cases hvn : v < n
        · have hwv := wr1 (i := v) (by omega)
          have hL3 : LenOk 16 (v + 1) := ⟨by omega, by simp only [maxLen]; omega⟩
          have s3 : (List.replicate (v + 1) (0 : _root_.Rat)).map eQ = (List.replicate v (0 : _root_.Rat)).map eQ ++ [eQ 0] := by rw [List.replicate_succ', List.map_append]; rfl
          refine anyQ fun Z => ?_
          simp [hvn, hL3, hwv, ]
          exact back (v + 1) (by omega) (by omega) rfl (by simp <;> omega) (by simp) (by simp [List.replicate_succ'])
        · have hvn2 : v = n := by omega
          have hw4 : IntKind.i64.wrap ((j : Int) - (m : Int)) = ((j - m : Nat) : Int) := by rw [wrap64_of (by omega) (by omega)]; omega
          have hjn : j - m < n := by omega
          have htk5 : List.take n (List.map eQ (unitR n (j - m))) = List.map eQ (unitR n (j - m)) := List.take_of_length_le (by simp [unitR_len])
          have s4 : ((List.replicate n (0 : _root_.Rat)).map eQ).set (j - m) [.int .i64 1, .int .i64 1] = (unitR n (j - m)).map eQ := by
            rw [← unit_set, ← set_map]; rfl
          obtain ⟨ZR, hZR⟩ : ∃ ZR, ZR = (List.replicate n (0 : _root_.Rat)).map eQ := ⟨_, rfl⟩
          have hZRl : ZR.length = n := by rw [hZR]; simp
          have hZRi : ZR[j - m]'(by omega) = [.int .i64 0, .int .i64 1] := by subst hZR; simp
          rw [hvn2, ← hZR]
          rw [← hZR] at s4
          simp [hw4, hjn, hZRl, hZRi, s4, hMAl, hMBl, hmin, hL1, hL2, hwk, ]
          exact back (k + 1) (by omega) (by omega) rfl (by simp <;> omega) (by simp) (by simp [s1, s2, htk5])
    · have hkn2 : k = n := by omega
      have hsol := w_spec_SolveLinearSystem n M hn1 hn4 hMl hMr hM01
      rw [hkn2, List.take_of_length_le (by simp; omega), List.take_of_length_le (by simp; omega)]
      obtain ⟨MA, hMA⟩ : ∃ MA, MA = M.map (·.take n) := ⟨_, rfl⟩
      obtain ⟨MB, hMB⟩ : ∃ MB, MB = M.map fun r => fnL r n := ⟨_, rfl⟩
      have hMAl : MA.length = n := by rw [hMA]; simpa using hMl
      have hMBl : MB.length = n := by rw [hMB]; simpa using hMl
      rw [← hMA, ← hMB] at hsol ⊢
      simp []
      refine call_p hsol (by simp [hMAl, hMBl, List.take_of_length_le]) fun hs4 hh4 _ => ?_
      try simp at hh4
      cases hx : solQ n M with
      | none =>
        rw [ptStep_none hx] at hOsi
        simp [solV, hx, hwi, ]
        exact back (i + 1) (by omega) (by omega) rfl (by simp <;> omega) (by simp [hOsi]) (by simp [hOsi])
      | some x =>
        have hSB := sol_bd hn4 hMl hMr (bd_01 hMl hM01) hx
        have hside := w_spec_l14Side A n x h hSB
        rw [← hm, ← hB1, ← hC1] at hside
        simp [solV, hx, ]
        refine call_f hside (by simp) rfl fun hs5 hh5 => ?_
        try simp at hh5
        cases hf : feasQ A x
        · rw [ptStep_no hx hf] at hOsi
          simp [hwi, ]
          exact back (i + 1) (by omega) (by omega) rfl (by simp <;> omega) (by simp [hOsi]) (by simp [hOsi])
        rw [ptStep_some hx hf] at hOsi
        simp []
        refine loop_rule (X := Nat) (fun k => k ≤ O.length) (fun k => [(1, .d (.int .i64 1)), (2, .ptr 2 0 0), (5, .own 20 0 O.length), (6, .d (.int .i64 n)), (7, .d (.int .i64 m)), (8, .d (.pl (CI.map (cP cI)))), (9, .d (.int .i64 i)), (16, .d (.pl (x.map eQ))), (18, .d (.bool (decide (x ∈ O.take k)))), (19, .d (.int .i64 k))])
          (fun k => [(2, some (.box [.d (.pl (A.map (cP eQ))), .d (.pl (B1.map eQ)), .d (.pl (C1.map eQ))])), (20, some (.row 54 1 (O.map (cP eQ))))]) (fun k => O.length - k) 0 (by simp) (by simp) (by simp) ?_
        intro k hs6 t6 m6 hk6 hh6
        by_cases hkO : k < O.length
        · have hwk := wr1 (i := k) (by omega)
          have hin : (x ∈ O.take (k + 1)) ↔ (x ∈ O.take k ∨ O[k] = x) := by
            rw [List.take_succ_eq_append_getElem hkO, List.mem_append, List.mem_singleton, eq_comm (a := x)]
          refine anyQ fun Z => ?_
          by_cases hin2 : x ∈ O.take k
          · have hin3 : x ∈ O.take (k + 1) := hin.2 (.inl hin2)
            simp [hkO, hin2, hwk, ]
            exact back (k + 1) (by omega) (by omega) rfl (by simp <;> omega) (by simp [hin3]) (by simp)
          · simp [hkO, hin2, ]
            refine call_f (w_spec_EqualRationals O[k] x) (by simp) rfl fun hs7 hh7 => ?_
            try simp at hh7
            have hin4 : decide (x ∈ O.take (k + 1)) = decide (O[k] = x) := by rw [decide_eq_decide, hin]; simp [hin2]
            simp [hwk, ]
            exact back (k + 1) (by omega) (by omega) rfl (by simp <;> omega) (by simp only [hin4]; simp) (by simp)
        · have hkO2 : k = O.length := by omega
          subst hkO2
          rw [List.take_of_length_le (Nat.le_refl _)]
          by_cases hxO : x ∈ O
          · have ha : addPt O x = O := by simp [addPt, hxO]
            rw [ha] at hOsi
            simp [hxO, hwi, ]
            exact back (i + 1) (by omega) (by omega) rfl (by simp <;> omega) (by simp [hOsi]) (by simp [hOsi])
          · have ha : addPt O x = O ++ [x] := by simp [addPt, hxO]
            rw [ha] at hOsi
            have hL4 : LenOk 24 (O.length + 1) := ⟨by omega, by simp only [maxLen]; omega⟩
            simp [hxO, hwi, hL4, ]
            exact back (i + 1) (by omega) (by omega) rfl (by simp <;> omega) (by simp [hOsi]) (by simp [hOsi])
  · have hin : i = CB.length := by omega
    subst hin
    rw [hOe]
    simp [hCIl, List.take_of_length_le]
end

end Go.Proofs.YtpbcmlolapdfjaaDoor


namespace Go.Proofs.YtpbcmlolapdfjaaDoor
open Go.Vs Go.Proofs Go
set_option maxRecDepth 100000
set_option maxHeartbeats 1000000

section
attribute [local simp] pS cP eQ_def cI
theorem e_impl_copyIntsO (l : List Int) (hb : l.length ≤ 4294967296) :
   VC Tryd.prog 83 [.d (.pl (l.map cI))] (fun n r => ∃ g : Option Nat, r = .d (.sl g (some (3, 1)) (l.map cI)) ∧ (∀ k, g = some k → n ≤ k) ∧ (g = none → l = [])) := by
  refine VC.of E s83 (by kernel_rfl) Tryd.func83 (by rfl) (by kernel_rfl) (by simp [Tryd.f83]) (by simp [Tryd.f83]) s83_ok fun B => ?_
  have hL : LenOk 8 l.length := ⟨by omega, by simp only [maxLen]; omega⟩
  have hp : hpLL (l.map cI) = false := hpLL_mapI l
  simp [-cI, Tryd.f83, hL, hp, List.take_of_length_le]
  refine ⟨fun a _ => rfl, ?_⟩
  intro γ hs' h1 hg
  obtain ⟨q1, q2⟩ := gam_at hg (k := 3) (T := 3) (sz := 1) (es := l.map cI) (by simp)
  clear hg
  refine ⟨fun k hk => (q1 k hk).1, fun h => ?_⟩
  exact Classical.byContradiction fun hl => q2 (by simpa using hl) h
theorem startK9 (a b c1 c2 c3 c4 c5 c6 c7 : V) (T sz f : Nat) (es : List (List D)) (B : Nat) : St.startK [a, b] [c1, c2, c3, c4, c5, c6, c7] T sz f es B =
   ⟨B, B, [], upd (upd (upd (upd (upd (upd (upd (upd (upd (fun _ => .tup []) 8 c7) 7 c6) 6 c5) 5 c4) 4 c3) 3 c2) 2 c1) 1 b) 0 a,
    upd (upd (upd (fun _ => none) 1003 (some (.box [.fn f [c1, c2, c3, c4, c5, c6, c7]]))) 1002 (some (.row T sz es))) 1001 (some (.box [.own 1002 0 es.length]))⟩ := by
  simp only [St.startK, St.mk.injEq, true_and]
  constructor
  · funext i; match i with | 0 => rfl | 1 => rfl | 2 => rfl | 3 => rfl | 4 => rfl | 5 => rfl | 6 => rfl | 7 => rfl | 8 => rfl | _ + 9 => rfl
  · funext i; simp only [mK, upd]; repeat' split
/-- what the closure has captured -/
def capsV (n : Nat) (rows right : List (List D)) (bx : List D) : List V :=
  [.fptr (.pl [[.int .i64 n]]) 0 0, .fptr (.pl [[.pl rows]]) 0 0, .ptr 1003 0 0, .fptr (.pl [[.pl right]]) 0 0, .fptr (.pl [bx]) 0 0, .fptr (.pl [[.int .i64 1]]) 0 0, .ptr 1001 0 0]
theorem caps_wipe (n : Nat) (rows right : List (List D)) (bx : List D) (k : Nat) (h1 : ¬ k = 1001) (h3 : ¬ k = 1003) : wipeL k (capsV n rows right bx) = capsV n rows right bx := by
  simp [capsV, wipeL, wipe, Ne.symm h1, Ne.symm h3]
theorem caps_frp (n : Nat) (rows right : List (List D)) (bx : List D) (k : Nat) (es : List (List D)) (h1 : ¬ k = 1001) (h3 : ¬ k = 1003) : frpL k es (capsV n rows right bx) = capsV n rows right bx := by
  simp [capsV, frpL, frp, Ne.symm h1, Ne.symm h3]
theorem k_choose (A : List (List _root_.Rat)) (n : Nat) (h : LPok A n) (rows right : List (List D)) (bx : List D) (hrows : rows = ((augR A n).map (·.take n)).map (cP eQ)) (hright : right = ((augR A n).map fun r => fnL r n).map eQ)
    (hbx : bx = [.pl (A.map (cP eQ)), .pl ((List.replicate A.length (1 : _root_.Rat)).map eQ), .pl ((List.replicate n (1 : _root_.Rat)).map eQ)]) :
   ∀ (d : Nat) (c : List Nat) (a : Nat) (out : List (List _root_.Rat)), n - c.length = d → c.length ≤ n → a ≤ A.length + n → (∀ x ∈ c, x < A.length + n) → out.length + cntC A n c a ≤ 1000 →
    VK Tryd.prog 82 [.d (.int .i64 a), .d (pS cI (intsN c))] (capsV n rows right bx) 54 1 (out.map (cP eQ)) (fun es' => es' = (foldC A n c a out).map (cP eQ)) := by
  have hn1 := h.n1
  have hn4 := h.n4
  have hm1 := h.m1
  have hm5 := h.m5
  obtain ⟨AR, hAR⟩ : ∃ AR, AR = augR A n := ⟨_, rfl⟩
  have hARl : AR.length = A.length + n := by rw [hAR, augR_len]
  have hARr : ∀ r ∈ AR, r.length = n + 1 := by rw [hAR]; exact aug_len h.m01
  have hAR01 : ∀ r ∈ AR, ∀ q ∈ r, q = 0 ∨ q = 1 := by rw [hAR]; exact aug_01 h.m01
  obtain ⟨B1, hB1⟩ : ∃ B1, B1 = List.replicate A.length (1 : _root_.Rat) := ⟨_, rfl⟩
  obtain ⟨C1, hC1⟩ : ∃ C1, C1 = List.replicate n (1 : _root_.Rat) := ⟨_, rfl⟩
  rw [← hAR] at hrows hright
  rw [← hB1, ← hC1] at hbx
  have hrl : rows.length = A.length + n := by rw [hrows]; simp [hARl]
  have hgl : right.length = A.length + n := by rw [hright]; simp [hARl]
  intro d
  induction d with
  | zero =>
    intro c a out hd hcn ha hcr hbd
    have hcl : c.length = n := by omega
    rw [foldC_full hcl, ← hAR]
    rw [cntC_full hcl] at hbd
    obtain ⟨M, hM⟩ : ∃ M, M = rowsA AR c := ⟨_, rfl⟩
    have hMl : M.length = n := by rw [hM, rowsA_len, hcl]
    have hMm : ∀ r ∈ M, r ∈ AR := fun r hr => by rw [hM] at hr; exact rowsA_mem (fun x hx => by have := hcr x hx; omega) hr
    have hMr : ∀ r ∈ M, r.length = n + 1 := fun r hr => hARr r (hMm r hr)
    have hM01 : ∀ r ∈ M, ∀ q ∈ r, q = 0 ∨ q = 1 := fun r hr => hAR01 r (hMm r hr)
    rw [← hM]
    obtain ⟨ci, hci⟩ : ∃ ci, ci = intsN c := ⟨_, rfl⟩
    have hcil : ci.length = n := by rw [hci]; simpa using hcl
    rw [← hci]
    obtain ⟨caps, hcaps⟩ : ∃ caps, caps = capsV n rows right bx := ⟨_, rfl⟩
    have hcw := caps_wipe n rows right bx
    have hcf := caps_frp n rows right bx
    rw [← hcaps] at hcw hcf
    refine VK.of EP s82 (by kernel_rfl) Tryd.func82 (by rfl) (by kernel_rfl) (by simp [Tryd.f82, capsV]) (by simp [Tryd.f82]) s82_ok (by rfl) fun B => ?_
    rw [capsV, startK9, ← capsV, ← hcaps]
    simp [Tryd.f82, s82_4, s82_4, hcil]
    have hout : ptStep A n out M = ptStep A n out M := rfl
    refine loop_ruleL (X := Nat) (fun k _ => k ≤ n) (fun k => [(3, .fptr (.pl [[.pl rows]]) 0 0), (5, .fptr (.pl [[.pl right]]) 0 0), (6, .fptr (.pl [bx]) 0 0), (7, .fptr (.pl [[.int .i64 1]]) 0 0), (8, .ptr 1001 0 0), (12, .own 900 0 k), (13, .own 901 0 k), (40, .d (.pl (ci.map cI))), (41, .d (.int .i64 n)), (42, .d (.int .i64 k))])
      (fun k => [(1001, some (.box [.own 1002 0 out.length])), (1002, some (.row 54 1 (out.map (cP eQ)))), (1003, some (.box [.fn 82 caps])), (900, some (.row 54 1 (((M.map (·.take n)).take k).map (cP eQ)))), (901, some (.row 28 2 (((M.map fun r => fnL r n).take k).map eQ)))]) (fun k => n - k) ?_ ?_
    · refine (lead_slot 12 900 54 1 (by omega) (by omega) (by simp)).bind ?_
      rintro _ rfl
      refine (lead_slot 13 901 28 2 (by omega) (by omega) (by simp)).bind ?_
      rintro _ rfl
      exact Lead.of ⟨0, by omega, rfl, rfl, Nat.le_refl _, by simp, by simp [hcaps, capsV]⟩
    intro k hs1 t1 m1 hk hh1
    by_cases hkn : k < n
    · have hwk := wr1 (i := k) (by omega)
      obtain ⟨j, hj⟩ : ∃ j, j = c[k]'(by omega) := ⟨_, rfl⟩
      have hjr : j < A.length + n := by rw [hj]; exact hcr _ (List.getElem_mem _)
      have hcik : ci[k]'(by omega) = (j : Int) := by subst hci; rw [intsN_at (by omega), hj]
      have hMk : M[k]'(by omega) = AR[j]'(by omega) := by subst hM; simp [rowsA, ← hj, List.getD, show j < AR.length by omega]
      obtain ⟨MA, hMA⟩ : ∃ MA, MA = M.map (·.take n) := ⟨_, rfl⟩
      obtain ⟨MB, hMB⟩ : ∃ MB, MB = M.map fun r => fnL r n := ⟨_, rfl⟩
      have hMAl : MA.length = n := by rw [hMA]; simpa using hMl
      have hMBl : MB.length = n := by rw [hMB]; simpa using hMl
      have hrj : rows[j]'(by omega) = cP eQ (MA[k]'(by omega)) := by subst hMA; simp [hrows, hMk]
      have hgj : right[j]'(by omega) = eQ (MB[k]'(by omega)) := by subst hMB; simp [hright, hMk]
      rw [← hMA, ← hMB]
      have hL1 : LenOk 24 (k + 1) := ⟨by omega, by simp only [maxLen]; omega⟩
      have hL2 : LenOk 16 (k + 1) := ⟨by omega, by simp only [maxLen]; omega⟩
      have hmin : min k n = k := by omega
      have s1 : (MA.map (cP eQ)).take (k + 1) = (MA.map (cP eQ)).take k ++ [cP eQ (MA[k]'(by omega))] := by rw [List.take_succ_eq_append_getElem (by simp; omega)]; simp
      have s2 : (MB.map eQ).take (k + 1) = (MB.map eQ).take k ++ [eQ (MB[k]'(by omega))] := by rw [List.take_succ_eq_append_getElem (by simp; omega)]; simp
      refine anyQ2 fun Z => ?_
      simp [hkn, hcil, hcik, hrl, hgl, hjr, hrj, hgj, hMAl, hMBl, hmin, hL1, hL2, hwk, s82_4, ]
      exact back2 (k + 1) (by omega) (by omega) rfl (by simp <;> omega) (by simp) (by simp [s1, s2, hcw, hcf])
    have hkn2 : k = n := by omega
    have hsol := w_impl_SolveLinearSystem n M hn1 hn4 hMl hMr hM01
    rw [hkn2, List.take_of_length_le (by simp; omega), List.take_of_length_le (by simp; omega)]
    obtain ⟨MA, hMA⟩ : ∃ MA, MA = M.map (·.take n) := ⟨_, rfl⟩
    obtain ⟨MB, hMB⟩ : ∃ MB, MB = M.map fun r => fnL r n := ⟨_, rfl⟩
    have hMAl : MA.length = n := by rw [hMA]; simpa using hMl
    have hMBl : MB.length = n := by rw [hMB]; simpa using hMl
    rw [← hMA, ← hMB] at hsol ⊢
    simp [s82_4, ]
    refine call_p hsol (by simp [hMAl, hMBl, List.take_of_length_le]) fun hs4 hh4 _ => ?_
    try simp at hh4
    cases hx : solQ n M with
    | none =>
      rw [ptStep_none hx]
      simp [solV, hx, vretK, vendK, hcw, hcf, ← hcaps, s82_4, ]
    | some x =>
      have hSB := sol_bd hn4 hMl hMr (bd_01 hMl hM01) hx
      have hside := w_impl_feasible A n x h hSB
      rw [← hB1, ← hC1] at hside
      simp [solV, hx, hbx, s82_4, ]
      refine call_f hside (by simp) rfl fun hs5 hh5 => ?_
      try simp at hh5
      cases hf : feasQ A x
      · rw [ptStep_no hx hf]
        simp [vretK, vendK, hcw, hcf, ← hcaps, s82_4, ]
      rw [ptStep_some hx hf]
      simp [s82_4, ]
      refine loop_rule (X := Nat) (fun k => k ≤ out.length ∧ x ∉ out.take k) (fun k => [(8, .ptr 1001 0 0), (16, .d (.pl (x.map eQ))), (76, .own 1002 0 out.length), (77, .d (.int .i64 out.length)), (78, .d (.int .i64 k))])
        (fun _ => [(1001, some (.box [.own 1002 0 out.length])), (1002, some (.row 54 1 (out.map (cP eQ)))), (1003, some (.box [.fn 82 caps]))]) (fun k => out.length - k) 0 (by simp) (by simp) (by simp [hcw, hcf]) ?_
      intro k hs6 t6 m6 hk6 hh6
      by_cases hkO : k < out.length
      · have hwk := wr1 (i := k) (by omega)
        simp [hkO, s82_4, ]
        refine call_f (w_impl_EqualRationals x out[k]) (by simp) rfl fun hs7 hh7 => ?_
        try simp at hh7
        by_cases he : x = out[k]
        · have ha : addPt out x = out := by simp [addPt, he]
          rw [ha]
          simp [he, vretK, vendK, hcw, hcf, ← hcaps, s82_4, ]
        · simp [he, hwk, s82_4, ]
          refine back (k + 1) ⟨by omega, ?_⟩ (by omega) rfl (by simp <;> omega) (by simp) (by simp)
          rw [List.take_succ_eq_append_getElem hkO, List.mem_append, List.mem_singleton]
          exact fun hor => hor.elim hk6.2 he
      · have hkO2 : k = out.length := by omega
        subst hkO2
        have hxO : x ∉ out := by have := hk6.2; rwa [List.take_of_length_le (Nat.le_refl _)] at this
        have ha : addPt out x = out ++ [x] := by simp [addPt, hxO]
        have hL4 : LenOk 24 (out.length + 1) := ⟨by omega, by simp only [maxLen]; omega⟩
        rw [ha]
        simp [hL4, vretK, vendK, hcw, hcf, ← hcaps, s82_4, ]
  | succ d ih =>
    intro c a out hd hcn ha hcr hbd
    have hcl : c.length < n := by omega
    obtain ⟨ci, hci⟩ : ∃ ci, ci = intsN c := ⟨_, rfl⟩
    have hcil : ci.length = c.length := by rw [hci]; simp
    rw [← hci]
    obtain ⟨caps, hcaps⟩ : ∃ caps, caps = capsV n rows right bx := ⟨_, rfl⟩
    have hcw := caps_wipe n rows right bx
    have hcf := caps_frp n rows right bx
    rw [← hcaps] at hcw hcf ih
    obtain ⟨FO, hFO⟩ : ∃ FO, FO = foldC A n c a out := ⟨_, rfl⟩
    rw [← hFO]
    have hall : caps.all capOk = true := by rw [hcaps]; rfl
    have hren : caps.map (renK 1001 1003) = caps := by rw [hcaps]; rfl
    refine VK.of EP s82 (by kernel_rfl) Tryd.func82 (by rfl) (by kernel_rfl) (by simp [Tryd.f82, capsV]) (by simp [Tryd.f82]) s82_ok (by rfl) fun B => ?_
    rw [capsV, startK9, ← capsV, ← hcaps]
    simp [Tryd.f82, s82_4, s82_4, hcil, hcl]
    refine loop_rule (X := Nat × List (List _root_.Rat)) (fun x => a ≤ x.1 ∧ x.1 ≤ A.length + n ∧ foldC A n c x.1 x.2 = FO ∧ x.2.length + cntC A n c x.1 ≤ 1000) (fun x => [(1, .d (.pl (ci.map cI))), (3, .fptr (.pl [[.pl rows]]) 0 0), (4, .ptr 1003 0 0), (11, .d (.int .i64 x.1))])
      (fun x => [(1001, some (.box [.own 1002 0 x.2.length])), (1002, some (.row 54 1 (x.2.map (cP eQ)))), (1003, some (.box [.fn 82 caps]))]) (fun x => A.length + n - x.1) (a, out) ⟨by simp, ha, hFO.symm, hbd⟩ (by simp) (by simp) ?_
    rintro ⟨k, O⟩ hs1 t1 m1 ⟨h1, h2, h3, h4⟩ hh1
    simp only at h1 h2 h3 h4
    by_cases hlt : k < A.length + n
    · have hwk := wr1 (i := k) (by omega)
      have hstep := foldC_step (out := O) hcl hlt
      have hcnt := cntC_step hcl hlt
      have hflen := foldC_len (A := A) (n := n) (c := c ++ [k]) (a := k + 1) (out := O)
      have hih := ih (c ++ [k]) (k + 1) O (by simp; omega) (by simp; omega) (by omega) (fun x hx => by
        rcases List.mem_append.1 hx with hx | hx
        · exact hcr x hx
        · rw [List.mem_singleton.1 hx]; exact hlt) (by omega)
      have hci2 : intsN (c ++ [k]) = ci ++ [(k : Int)] := by rw [hci]; simp [intsN]
      rw [hci2] at hih
      have hL1 : LenOk 8 (ci.length + 1) := ⟨by omega, by simp only [maxLen]; omega⟩
      have htk : List.take (ci.length + 1) (ci.map cI ++ [[D.int IntKind.i64 (k : Int)]]) = ci.map cI ++ [[D.int IntKind.i64 (k : Int)]] := List.take_of_length_le (by simp)
      refine anyQ fun Z => ?_
      simp [hrl, show (k : Int) < (A.length : Int) + (n : Int) by omega, hwk, s82_4, ]
      have fin : ∀ (es' : List (List D)), es' = (foldC A n (c ++ [k]) (k + 1) O).map (cP eQ) → es'.length = (foldC A n (c ++ [k]) (k + 1) O).length := fun es' e => by rw [e]; simp
      refine ⟨?_, ?_⟩
      all_goals
        refine call_oe (e_impl_copyIntsO ci (by omega)) (by simp) fun r2 n2 hs3 hn2 hm2 hp2 => ?_
        obtain ⟨g, rfl, hg1, hg2⟩ := hp2
        try simp at hn2
        cases g with
        | some g =>
          refine .inl ⟨g, 3, 1, ci.map cI, rfl, hg1 g rfl, by simp, ?_⟩
          simp [hL1, hwk, hcw, hcf, s82_4, ]
          refine vdyn_lead ((lead_frp 35 (T := 3) (sz := 1) (es := ci.map cI ++ [[D.int .i64 k]]) (by simp)).mono ?_)
          rintro _ rfl
          refine vdynK (f := 82) (ko := 1001) (kr := 1002) (kc := 1003) (T := 54) (sz := 1) (es := O.map (cP eQ)) (caps := caps) (by simp) (by simp) (by simp [hren, hcw, hcf]) (by simp [Hk]) (by simp [hren, hcw, hcf]) hall (by simp) (by simpa [htk] using hih) fun es' hs5 g1 g2 g3 g4 g5 => ?_
          have ge := fin es' g2
          subst g2
          try simp at g1
          simp [St.kst, hwk, hcw, hcf, s82_4, ]
          refine back (k + 1, foldC A n (c ++ [k]) (k + 1) O) ⟨by simp only; omega, by simp only; omega, by simp only; rw [← hstep]; exact h3, by simp only; omega⟩ (by simp only; omega) rfl (by simp <;> omega) (by simp) (by simp)
        | none =>
          have hc0 := hg2 rfl
          refine .inr ?_
          have hL2 : LenOk 8 1 := ⟨by omega, by simp only [maxLen]; omega⟩
          simp [hc0, hL2, hwk, hcw, hcf, s82_4, ]
          rw [hc0] at hih
          refine vdyn_lead ((lead_frp 38 (T := 3) (sz := 1) (es := [[D.int .i64 k]]) (by simp)).mono ?_)
          rintro _ rfl
          refine vdynK (f := 82) (ko := 1001) (kr := 1002) (kc := 1003) (T := 54) (sz := 1) (es := O.map (cP eQ)) (caps := caps) (by simp) (by simp) (by simp [hren, hcw, hcf]) (by simp [Hk]) (by simp [hren, hcw, hcf]) hall (by simp) (by simpa using hih) fun es' hs5 g1 g2 g3 g4 g5 => ?_
          have ge := fin es' g2
          subst g2
          try simp at g1
          simp [St.kst, hwk, hcw, hcf, s82_4, ]
          refine back (k + 1, foldC A n (c ++ [k]) (k + 1) O) ⟨by simp only; omega, by simp only; omega, by simp only; rw [← hstep]; exact h3, by simp only; omega⟩ (by simp only; omega) rfl (by simp <;> omega) (by simp) (by simp)
    · have hkn : k = A.length + n := by omega
      rw [foldC_end hcl (by omega)] at h3
      subst h3
      simp [hrl, show ¬ (k : Int) < (A.length : Int) + (n : Int) by omega, vretK, vendK, hcw, hcf, s82_4, ]
end

end Go.Proofs.YtpbcmlolapdfjaaDoor


namespace Go.Proofs.YtpbcmlolapdfjaaDoor
open Go.Vs Go.Proofs Go
set_option maxRecDepth 100000
set_option maxHeartbeats 1000000

section
attribute [local simp] pS cP eQ_def cI
theorem aug_take {A : List (List _root_.Rat)} {n : Nat} (h : ∀ r ∈ A, r.length = n) : (augR A n).map (·.take n) = A ++ (List.range n).map (unitR n) := by
  simp only [augR, List.map_append, List.map_map]
  congr 1
  · conv => rhs; rw [← List.map_id A]
    apply List.map_congr_left
    intro r hr
    simp only [Function.comp, id]
    exact (take_app (h r hr)).1
  · apply List.map_congr_left
    intro j _
    simp only [Function.comp]
    exact (take_app unitR_len).1
theorem aug_last {A : List (List _root_.Rat)} {n : Nat} (h : ∀ r ∈ A, r.length = n) : (augR A n).map (fun r => fnL r n) = List.replicate A.length 1 ++ List.replicate n 0 := by
  simp only [augR, List.map_append, List.map_map]
  congr 1
  · rw [List.eq_replicate_iff]
    refine ⟨by simp, fun q hq => ?_⟩
    obtain ⟨r, hr, rfl⟩ := List.mem_map.1 hq
    exact (take_app (h r hr)).2
  · rw [List.eq_replicate_iff]
    refine ⟨by simp, fun q hq => ?_⟩
    obtain ⟨j, _, rfl⟩ := List.mem_map.1 hq
    exact (take_app unitR_len).2
theorem unit_take {n i k : Nat} (h : k < n) : (unitR n i).take (k + 1) = (unitR n i).take k ++ [if k = i then 1 else 0] := by
  rw [List.take_succ_eq_append_getElem (by simpa [unitR] using h)]
  simp [unitR]
theorem VK.nil2 {P : Program} {f : FuncId} {a : V} {caps : List V} {T sz : Nat} {es : List (List D)} {post : List (List D) → Prop} (h : VK P f [a, .d (.pl [])] caps T sz es post) : VK P f [a, .d (.sl none none [])] caps T sz es post := by
  refine ⟨h.1, fun w vals go gc ro A hg hin hLR => h.2 w vals go gc ro A hg hin ?_⟩
  match vals, hLR with
  | v1 :: v2 :: r, hLR =>
    simp only [List.cons_append, LR] at hLR ⊢
    obtain ⟨h1, h2, h3⟩ := hLR
    refine ⟨h1, ?_, h3⟩
    simp only [VR] at h2 ⊢
    exact h2.er
theorem w_impl_vertices (A : List (List _root_.Rat)) (n : Nat) (h : LPok A n) :
   VC Tryd.prog 70 [.agg [.d (pS (cP eQ) A), .d (pS eQ (List.replicate A.length 1)), .d (pS eQ (List.replicate n 1))], .d (.int .i64 1)] (fun _ r => r = .d (pS (cP eQ) (ptsQ A n))) := by
  have hn1 := h.n1
  have hn4 := h.n4
  have hm1 := h.m1
  have hm5 := h.m5
  have hrows := aug_take h.m01.len
  have hright := aug_last h.m01.len
  have hkc := k_choose A n h (((augR A n).map (·.take n)).map (cP eQ)) (((augR A n).map fun r => fnL r n).map eQ) [.pl (A.map (cP eQ)), .pl ((List.replicate A.length (1 : _root_.Rat)).map eQ), .pl ((List.replicate n (1 : _root_.Rat)).map eQ)] rfl rfl rfl n [] 0 [] (by simp) (by simp) (by omega) (by simp) (by have := cntC_all (A := A) (n := n) (by omega); simp; omega)
  rw [foldC_all, hrows, hright] at hkc
  obtain ⟨B1, hB1⟩ : ∃ B1, B1 = List.replicate A.length (1 : _root_.Rat) := ⟨_, rfl⟩
  obtain ⟨C1, hC1⟩ : ∃ C1, C1 = List.replicate n (1 : _root_.Rat) := ⟨_, rfl⟩
  have hB1l : B1.length = A.length := by rw [hB1]; simp
  have hC1l : C1.length = n := by rw [hC1]; simp
  have hB1n : B1 ≠ [] := fun e => by rw [e] at hB1l; simp at hB1l; omega
  have hL0 : LenOk 24 A.length := ⟨by omega, by simp only [maxLen]; omega⟩
  have hA1 : ∀ l ∈ A.map (cP eQ), l.length = 1 := fun l hl => by obtain ⟨q, _, rfl⟩ := List.mem_map.1 hl; rfl
  rw [← hB1, ← hC1] at hkc ⊢
  refine VC.ofL EP s70 (by kernel_rfl) Tryd.func70 (by rfl) (by kernel_rfl) (by simp [Tryd.f70]) (by simp [Tryd.f70]) s70_ok fun B hl => ?_
  clear hl
  simp [Tryd.f70, hL0, hC1l]
  refine call_o (e_impl_copyRationals1 B1 (by omega) hB1n) (by simp) fun r2 n2 hs3 hn2 hm2 hp2 => ?_
  obtain ⟨g2, rfl, hg2⟩ := hp2
  refine ⟨28, 2, B1.map eQ, by omega, .inr ⟨g2, rfl, hg2, by simp⟩, ?_⟩
  try simp at hn2
  simp [hB1l]
  refine loop_rule (X := Nat) (fun i => i ≤ n) (fun i => [(5, .ptr 5 0 0), (6, .ptr 6 0 0), (7, .ptr 7 0 0), (2, .ptr 2 0 0), (3, .ptr 3 0 0), (8, .d (.int .i64 i))])
    (fun i => [(2, some (.box [.d (.pl (A.map (cP eQ))), .d (.pl (B1.map eQ)), .d (.pl (C1.map eQ))])), (3, some (.box [.d (.int .i64 1)])), (5, some (.box [.d (.int .i64 n)])), (6, some (.box [.own 16 0 (A.length + i)])), (7, some (.box [.own 22 0 (A.length + i)])), (16, some (.row 54 1 ((A ++ (List.range i).map (unitR n)).map (cP eQ)))), (22, some (.row 28 2 ((B1 ++ List.replicate i 0).map eQ)))]) (fun i => n - i) 0 (by simp) (by simp) (by simp) ?_
  intro i hs1 t1 m1 hi hh1
  by_cases hlt : i < n
  · have hwi := wr1 (i := i) (by omega)
    have hL1 : LenOk 24 (A.length + i + 1) := ⟨by omega, by simp only [maxLen]; omega⟩
    have hL2 : LenOk 16 (A.length + i + 1) := ⟨by omega, by simp only [maxLen]; omega⟩
    obtain ⟨RA, hRA⟩ : ∃ RA, RA = (A ++ (List.range i).map (unitR n)).map (cP eQ) := ⟨_, rfl⟩
    obtain ⟨RB, hRB⟩ : ∃ RB, RB = (B1 ++ List.replicate i 0).map eQ := ⟨_, rfl⟩
    have hRAl : RA.length = A.length + i := by rw [hRA]; simp
    have hRBl : RB.length = A.length + i := by rw [hRB]; simp [hB1l]
    have s1 : (A ++ (List.range (i + 1)).map (unitR n)).map (cP eQ) = RA ++ [cP eQ (unitR n i)] := by rw [hRA, List.range_succ]; simp
    have s2 : (B1 ++ List.replicate (i + 1) 0).map eQ = RB ++ [eQ 0] := by rw [hRB, List.replicate_succ']; simp
    rw [← hRA, ← hRB]
    refine anyQ fun Z => ?_
    simp [hlt, ]
    refine loop_rule (X := Nat) (fun k => k ≤ n) (fun k => [(5, .ptr 5 0 0), (6, .ptr 6 0 0), (7, .ptr 7 0 0), (2, .ptr 2 0 0), (3, .ptr 3 0 0), (8, .d (.int .i64 i)), (9, .own 28 0 k), (10, .d (.int .i64 k))])
      (fun k => [(2, some (.box [.d (.pl (A.map (cP eQ))), .d (.pl (B1.map eQ)), .d (.pl (C1.map eQ))])), (3, some (.box [.d (.int .i64 1)])), (5, some (.box [.d (.int .i64 n)])), (6, some (.box [.own 16 0 (A.length + i)])), (7, some (.box [.own 22 0 (A.length + i)])), (16, some (.row 54 1 RA)), (22, some (.row 28 2 RB)), (28, some (.row 28 2 (((unitR n i).take k).map eQ)))]) (fun k => n - k) 0 (by simp) (by simp) (by simp) ?_
    intro k hs2 t2 m2 hk hh2
    by_cases hkn : k < n
    · have hwk := wr1 (i := k) (by omega)
      have hL3 : LenOk 16 (k + 1) := ⟨by omega, by simp only [maxLen]; omega⟩
      have s3 := unit_take (i := i) hkn
      have s4 : eQ (if k = i then 1 else 0) = [.int .i64 (if i = k then 1 else 0), .int .i64 1] := by
        by_cases e : k = i
        · subst e; rw [if_pos rfl, if_pos rfl]; rfl
        · rw [if_neg e, if_neg (Ne.symm e)]; rfl
      obtain ⟨U, hU⟩ : ∃ U, U = ((unitR n i).take k).map eQ := ⟨_, rfl⟩
      have hUl : U.length = k := by rw [hU]; simp [unitR]; omega
      have s5 : ((unitR n i).take (k + 1)).map eQ = U ++ [[.int .i64 (if i = k then 1 else 0), .int .i64 1]] := by rw [s3, hU, List.map_append, List.map_cons, List.map_nil, s4]
      have hbit := w_impl_bit (decide (i = k))
      rw [List.map_take] at s5
      rw [← hU]
      refine anyQ fun Z => ?_
      simp [hkn, ]
      refine call_f hbit (by simp) rfl fun hs3 hh3 => ?_
      try simp at hh3
      simp [hUl, hL3, hwk, ]
      refine back (k + 1) (by omega) (by omega) rfl (by simp <;> omega) (by simp) (by simp [s5])
    · have hkn2 : k = n := by omega
      subst hkn2
      have hut : (unitR k i).take k = unitR k i := List.take_of_length_le (by rw [unitR_len]; omega)
      have hul : List.take k ((unitR k i).map eQ) = (unitR k i).map eQ := List.take_of_length_le (by simp [unitR_len])
      simp only [List.map_append, List.map_map] at s1
      simp at s2
      rw [hut]
      simp [hRAl, hRBl, hL1, hL2, hwi, ]
      refine back (i + 1) (by omega) (by omega) rfl (by simp <;> omega) (by simp) (by simp [s1, s2, hul, Nat.add_assoc])
  · have hin : i = n := by omega
    subst hin
    obtain ⟨RA, hRA⟩ : ∃ RA, RA = (A ++ (List.range i).map (unitR i)).map (cP eQ) := ⟨_, rfl⟩
    obtain ⟨RB, hRB⟩ : ∃ RB, RB = (B1 ++ List.replicate i 0).map eQ := ⟨_, rfl⟩
    have hRAl : RA.length = A.length + i := by rw [hRA]; simp
    have hRBl : RB.length = A.length + i := by rw [hRB]; simp [hB1l]
    rw [← hRA, ← hRB] at hkc ⊢
    simp []
    have hkc2 := VK.nil2 (a := .d (.int .i64 0)) (f := 82) (by simpa [intsN] using hkc)
    refine vdyn_lead ?_
    refine (lead_frp 16 (T := 54) (sz := 1) (es := RA) (by simp)).bind ?_
    rintro _ rfl
    refine (lead_frp 22 (T := 28) (sz := 2) (es := RB) (by simp)).bind ?_
    rintro _ rfl
    refine lead_fbx (k := 2) (ds := [.pl (A.map (cP eQ)), .pl (B1.map eQ), .pl (C1.map eQ)]) (by simp) (by omega) ?_
    refine lead_fbx (k := 3) (ds := [.int .i64 1]) (by simp [St.fbx, fbxL, fbx]) (by omega) ?_
    refine lead_fbx (k := 5) (ds := [.int .i64 i]) (by simp [St.fbx, fbxL, fbx]) (by omega) ?_
    refine lead_fbx (k := 6) (ds := [.pl RA]) (by simp [St.fbx, fbxL, fbx, hRAl, List.take_of_length_le]) (by omega) ?_
    refine lead_fbx (k := 7) (ds := [.pl RB]) (by simp [St.fbx, fbxL, fbx, hRBl, List.take_of_length_le]) (by omega) ?_
    refine (lead_box 11 0 902 54 1 [.d (.sl none none [])] (by omega) (by omega) (by omega) (by simp [St.fbx, fbxL, fbx]) rfl).bind ?_
    rintro _ rfl
    refine Lead.of (vdynK (f := 82) (ko := 11) (kr := 902) (kc := 12) (T := 54) (sz := 1) (es := []) (caps := capsV i RA RB [.pl (A.map (cP eQ)), .pl (B1.map eQ), .pl (C1.map eQ)]) (post := fun es' => es' = (ptsQ A i).map (cP eQ)) (by simp [St.fbx, fbxL, fbx]) (by simp [St.fbx, fbxL, fbx]) ?_ (by simp [Hk]) ?_ rfl (by simp) (by simpa using hkc2) fun es' hs5 g1 g2 g3 g4 g5 => ?_)
    · simp [St.fbx, fbxL, fbx, capsV, renK, hRAl, hRBl, List.take_of_length_le]
    · simp [St.fbx, fbxL, fbx, capsV, renK, hRAl, hRBl, List.take_of_length_le]
    have hpl := pts_len h
    subst g2
    simp [St.kst, St.fbx, fbxL, fbx, List.take_of_length_le]
end

end Go.Proofs.YtpbcmlolapdfjaaDoor


namespace Go.Proofs.YtpbcmlolapdfjaaDoor
open Go.Vs Go.Proofs Go
set_option maxRecDepth 100000
set_option maxHeartbeats 1000000

section
attribute [local simp] pS cP eQ_def cI
theorem w_impl_best (A : List (List _root_.Rat)) (n : Nat) (h : LPok A n) (p : List _root_.Rat × _root_.Rat) (hp : minQ A n = some p) :
   VC Tryd.prog 50 [.agg [.d (pS (cP eQ) A), .d (pS eQ (List.replicate A.length 1)), .d (pS eQ (List.replicate n 1))], .d (.int .i64 1)]
    (fun _ r => r = .tup [.d (.pl (p.1.map eQ)), .agg [.d (.int .i64 p.2.num), .d (.int .i64 (p.2.den : Int))], .d (.bool true)]) := by
  have hn4 := h.n4
  obtain ⟨PT, hPT⟩ : ∃ PT, PT = ptsQ A n := ⟨_, rfl⟩
  have hPl : PT.length ≤ 512 := by rw [hPT]; exact pts_len h
  have hPs : ∀ x ∈ PT, SolB n x := by rw [hPT]; exact pts_sol h
  have hb : bestQ PT = some p := by rw [hPT]; exact hp
  have hw1 : ∀ z : Int, -1 ≤ z → z ≤ 1 → IntKind.i64.wrap z = z := fun z h1 h2 => wrap64_of (by omega) (by omega)
  have hcb : ∀ a b : _root_.Rat, -1 ≤ cmpQ a b ∧ cmpQ a b ≤ 1 := fun a b => by unfold cmpQ; split <;> (try split) <;> omega
  have hvs := w_impl_vertices A n h
  rw [← hPT] at hvs
  obtain ⟨B1, hB1⟩ : ∃ B1, B1 = List.replicate A.length (1 : _root_.Rat) := ⟨_, rfl⟩
  obtain ⟨C1, hC1⟩ : ∃ C1, C1 = List.replicate n (1 : _root_.Rat) := ⟨_, rfl⟩
  have hC1l : C1.length = n := by rw [hC1]; simp
  rw [← hB1, ← hC1] at hvs ⊢
  refine VC.ofL EP s50 (by kernel_rfl) Tryd.func50 (by rfl) (by kernel_rfl) (by simp [Tryd.f50]) (by simp [Tryd.f50]) s50_ok fun B hl => ?_
  clear hl
  simp [Tryd.f50, s50_9, s50_11, s50_9, s50_11, ]
  refine call_p hvs (by simp) fun hs0 hh0 _ => ?_
  try simp at hh0
  simp [s50_9, s50_11, ]
  refine loop_rule (X := Nat) (fun i => i ≤ PT.length) (fun i => [(1, .d (.int .i64 1)), (2, .ptr 2 0 0), (5, .ptr 5 0 0), (7, match bestT PT i with | none => .d (.sl none none []) | some p => .d (.pl (p.1.map eQ))), (8, .ptr 8 0 0), (9, .d (.bool (bestT PT i).isSome)), (16, .d (.pl (PT.map (cP eQ)))), (17, .d (.int .i64 PT.length)), (18, .d (.int .i64 i))])
    (fun i => [(2, some (.box [.d (.pl (A.map (cP eQ))), .d (.pl (B1.map eQ)), .d (.pl (C1.map eQ))])), (5, some (.box [.d (.int .i64 0), .d (.int .i64 0)])), (8, some (.box (match bestT PT i with | none => [.d (.int .i64 0), .d (.int .i64 0)] | some p => [.d (.int .i64 p.2.num), .d (.int .i64 (p.2.den : Int))])))]) (fun i => PT.length - i) 0 (by simp) (by simp [bestT_zero]) (by simp [bestT_zero]) ?_
  intro i hs1 t1 m1 hi hh1
  by_cases hlt : i < PT.length
  · have hwi := wr1 (i := i) (by omega)
    have hm := List.getElem_mem hlt
    obtain ⟨x, hx⟩ : ∃ x, x = PT[i] := ⟨_, rfl⟩
    have hSx : SolB n x := hPs x (by rw [hx]; exact hm)
    have hxl := hSx.len
    have hdot := w_impl_DotProduct C1 x (by rw [hC1l, hxl]) (by rw [hC1l, hC1]; exact one_dots hSx hn4)
    have hsq : dotF C1.length (fnL C1) (fnL x) = sumQ x := by rw [hC1l, hC1]; exact sumQ_eq hxl
    rw [hsq] at hdot
    have hsm := sum_sm hSx hn4
    have hst := bestT_succ hlt
    rw [← hx] at hst
    refine anyQ fun Z => ?_
    cases hbt : bestT PT i with
    | none =>
      rw [hbt] at hst
      simp only [bestS] at hst
      simp [hlt, ← hx, s50_9, s50_11, ]
      refine call_f hdot (by simp) rfl fun hs2 hh2 => ?_
      try simp at hh2
      simp [hwi, s50_9, s50_11, ]
      exact back (i + 1) (by omega) (by omega) rfl (by simp <;> omega) (by simp [hst]) (by simp [hst])
    | some b =>
      rw [hbt] at hst
      simp only [bestS] at hst
      obtain ⟨hb1, hb2⟩ := bestT_sum hbt
      have hbm : smQ b.2 := by rw [hb1]; exact sum_sm (hPs _ (List.mem_of_mem_take hb2)) hn4
      simp [hlt, ← hx, s50_9, s50_11, ]
      refine call_f hdot (by simp) rfl fun hs2 hh2 => ?_
      try simp at hh2
      simp [s50_9, s50_11, ]
      refine call_f (w_impl_CompareRationals (sumQ x) b.2 hsm hbm) (by simp) rfl fun hs3 hh3 => ?_
      try simp at hh3
      have hc := hcb (sumQ x) b.2
      simp [hw1 _ hc.1 hc.2]
      by_cases hl : sumQ x < b.2
      · rw [if_pos hl] at hst
        simp [cmpQ_lt.2 hl, hwi, s50_9, s50_11, ]
        exact back (i + 1) (by omega) (by omega) rfl (by simp <;> omega) (by simp [hst]) (by simp [hst])
      · rw [if_neg hl] at hst
        have hnc : ¬ cmpQ (sumQ x) b.2 < 0 := fun e => hl (cmpQ_lt.1 e)
        simp [hnc, hwi, s50_9, s50_11, ]
        exact back (i + 1) (by omega) (by omega) rfl (by simp <;> omega) (by simp [hst]) (by simp [hst])
  · have hin : i = PT.length := by omega
    subst hin
    have hbt : bestT PT PT.length = some p := by rw [bestT_all]; exact hb
    simp [hbt, s50_9, s50_11, ]
theorem w_impl_Minimize (A : List (List _root_.Rat)) (n : Nat) (h : LPok A n) (p : List _root_.Rat × _root_.Rat) (hp : minQ A n = some p) :
   VC Tryd.prog 27 [.agg [.d (pS (cP eQ) A), .d (pS eQ (List.replicate A.length 1)), .d (pS eQ (List.replicate n 1))]]
    (fun _ r => r = .tup [.d (.pl (p.1.map eQ)), .agg [.d (.int .i64 p.2.num), .d (.int .i64 (p.2.den : Int))], .d (.bool true)]) := by
  have hn4 := h.n4
  have hval := w_impl_IsValidLinearProgram A n h
  have hbest := w_impl_best A n h p hp
  obtain ⟨B1, hB1⟩ : ∃ B1, B1 = List.replicate A.length (1 : _root_.Rat) := ⟨_, rfl⟩
  rw [← hB1] at hval hbest ⊢
  refine VC.ofL EP s27 (by kernel_rfl) Tryd.func27 (by rfl) (by kernel_rfl) (by simp [Tryd.f27]) (by simp [Tryd.f27]) s27_ok fun B hl => ?_
  clear hl
  simp [Tryd.f27, ]
  refine call_f hval (by simp) rfl fun hs0 hh0 => ?_
  try simp at hh0
  simp []
  refine loop_rule (X := Nat) (fun i => i ≤ n) (fun i => [(1, .ptr 1 0 0), (3, .ptr 3 0 0), (12, .d (.pl ((List.replicate n (1 : _root_.Rat)).map eQ))), (13, .d (.int .i64 n)), (14, .d (.int .i64 i))]) (fun _ => [(1, some (.box [.d (.pl (A.map (cP eQ))), .d (.pl (B1.map eQ)), .d (.pl ((List.replicate n (1 : _root_.Rat)).map eQ))])), (3, some (.box [.d (.int .i64 0), .d (.int .i64 0)]))]) (fun i => n - i) 0 (by simp) (by simp) (by simp) ?_
  intro i hs t m hi hh
  by_cases hlt : i < n
  · have hwi := wr1 (i := i) (by omega)
    simp [hlt, hwi, ]
    exact back (i + 1) (by omega) (by omega) rfl (by simp <;> omega) (by simp) (by simp)
  · simp [hlt, ]
    refine call_p hbest (by simp) fun hs1 hh1 _ => ?_
    try simp at hh1
    simp []
theorem w_impl_coverOf (q : PQuery) (bag : List Int) (hq : q.atoms.length ≤ 4) (hb : bag.length ≤ 5) :
   VC Tryd.prog 28 [.agg ((eQuery q).map V.d), .d (pS cI bag)]
    (fun _ r => r = .agg [.d (pS (cP eQ) (covM q.atoms bag)), .d (pS eQ (List.replicate bag.length 1)), .d (pS eQ (List.replicate q.atoms.length 1))]) := by
  have hqe : (eQuery q).map V.d = [V.d (.int .i64 q.n), V.d (.pl (q.atoms.map eAtom)), V.d (.pl (q.out.map cI))] := by simp [eQuery]
  obtain ⟨AT, hAT⟩ : ∃ AT, AT = q.atoms := ⟨_, rfl⟩
  obtain ⟨OU, hOU⟩ : ∃ OU, OU = q.out.map cI := ⟨_, rfl⟩
  obtain ⟨RW, hRW⟩ : ∃ RW : Int → List _root_.Rat, RW = fun v => AT.map fun a => r01 (a.vars.contains v) := ⟨_, rfl⟩
  have hcov : covM q.atoms bag = bag.map RW := by rw [hRW, hAT]; rfl
  rw [hcov, hqe, ← hAT, ← hOU]
  rw [← hAT] at hq
  refine VC.ofL EP s28 (by kernel_rfl) Tryd.func28 (by rfl) (by kernel_rfl) (by simp [Tryd.f28]) (by simp [Tryd.f28]) s28_ok fun B hl => ?_
  clear hl
  simp [Tryd.f28, ]
  refine loop_ruleL (X := Nat) (fun i _ => i ≤ bag.length) (fun i => [(2, .ptr 2 0 0), (4, .ptr 4 0 0), (5, .ptr 5 0 0), (11, .d (.pl (bag.map cI))), (12, .d (.int .i64 bag.length)), (13, .d (.int .i64 i))])
    (fun i => [(2, some (.box [.d (.int .i64 q.n), .d (.pl (AT.map eAtom)), .d (.pl OU)])), (4, some (.box [.d (.sl none none []), .d (.sl none none []), .d (.sl none none [])])), (5, some (.box [.own 901 0 i, .own 902 0 i, .d (.sl none none [])])), (901, some (.row 54 1 (((bag.take i).map RW).map (cP eQ)))), (902, some (.row 28 2 ((List.replicate i (1 : _root_.Rat)).map eQ)))]) (fun i => bag.length - i) ?_ ?_
  · refine (lead_box 5 0 901 54 1 [.d (.sl none none []), .d (.sl none none []), .d (.sl none none [])] (by omega) (by omega) (by omega) (by simp) rfl).bind ?_
    rintro _ rfl
    refine (lead_box 5 1 902 28 2 [.own 901 0 0, .d (.sl none none []), .d (.sl none none [])] (by omega) (by omega) (by omega) (by simp) rfl).bind ?_
    rintro _ rfl
    exact Lead.of ⟨0, by omega, rfl, rfl, Nat.le_refl _, by simp, by simp⟩
  intro i hs1 t1 m1 hi hh1
  by_cases hlt : i < bag.length
  · have hwi := wr1 (i := i) (by omega)
    have hL1 : LenOk 24 (i + 1) := ⟨by omega, by simp only [maxLen]; omega⟩
    have hL2 : LenOk 16 (i + 1) := ⟨by omega, by simp only [maxLen]; omega⟩
    obtain ⟨v, hv⟩ : ∃ v, v = bag[i] := ⟨_, rfl⟩
    obtain ⟨RA, hRA⟩ : ∃ RA, RA = ((bag.take i).map RW).map (cP eQ) := ⟨_, rfl⟩
    obtain ⟨RB, hRB⟩ : ∃ RB, RB = (List.replicate i (1 : _root_.Rat)).map eQ := ⟨_, rfl⟩
    have hRAl : RA.length = i := by rw [hRA]; simp; omega
    have hRBl : RB.length = i := by rw [hRB]; simp
    have s1 : List.take (i + 1) (List.map (cP eQ ∘ RW) bag) = RA ++ [cP eQ (RW v)] := by rw [List.take_succ_eq_append_getElem (by simpa using hlt)]; simp [hRA, hv]
    have s2 : List.replicate (i + 1) [D.int .i64 1, D.int .i64 1] = RB ++ [[D.int .i64 1, D.int .i64 1]] := by rw [hRB, List.replicate_succ']; simp
    rw [← hRA, ← hRB]
    refine anyQ2 fun Z => ?_
    simp [hlt, ← hv, ]
    refine loop_ruleL (X := Nat) (fun k _ => k ≤ AT.length) (fun k => [(2, .ptr 2 0 0), (4, .ptr 4 0 0), (5, .ptr 5 0 0), (7, .d (.int .i64 v)), (8, .own 903 0 k), (11, .d (.pl (bag.map cI))), (12, .d (.int .i64 bag.length)), (13, .d (.int .i64 i)), (18, .d (.pl (AT.map eAtom))), (19, .d (.int .i64 AT.length)), (20, .d (.int .i64 k))])
      (fun k => [(2, some (.box [.d (.int .i64 q.n), .d (.pl (AT.map eAtom)), .d (.pl OU)])), (4, some (.box [.d (.sl none none []), .d (.sl none none []), .d (.sl none none [])])), (5, some (.box [.own 901 0 i, .own 902 0 i, .d (.sl none none [])])), (901, some (.row 54 1 RA)), (902, some (.row 28 2 RB)), (903, some (.row 28 2 (((AT.take k).map fun a => r01 (a.vars.contains v)).map eQ)))]) (fun k => AT.length - k) ?_ ?_
    · refine (lead_slot 8 903 28 2 (by omega) (by omega) (by simp)).bind ?_
      rintro _ rfl
      exact Lead.of ⟨0, by omega, rfl, rfl, Nat.le_refl _, by simp, by simp⟩
    intro k hs2 t2 m2 hk hh2
    by_cases hkn : k < AT.length
    · have hwk := wr1 (i := k) (by omega)
      have hL3 : LenOk 16 (k + 1) := ⟨by omega, by simp only [maxLen]; omega⟩
      obtain ⟨a, ha⟩ : ∃ a, a = AT[k] := ⟨_, rfl⟩
      obtain ⟨U, hU⟩ : ∃ U, U = ((AT.take k).map fun a => r01 (a.vars.contains v)).map eQ := ⟨_, rfl⟩
      have hUl : U.length = k := by rw [hU]; simp; omega
      have s5 : List.take (k + 1) (List.map (eQ ∘ fun a => r01 (decide (v ∈ a.vars))) AT) = U ++ [[.int .i64 (if v ∈ a.vars then 1 else 0), .int .i64 1]] := by
        rw [List.take_succ_eq_append_getElem (by simpa using hkn)]
        simp [-eQ_def, hU, ← ha, r01_eQ, List.contains_eq_mem]
      have hcon := w_impl_ContainsVariable a v
      have hae : (eAtom a).map V.d = [V.d (.str a.rel), V.d (.pl (a.vars.map cI))] := by simp [eAtom, cStr]
      have hbit := w_impl_bit (a.vars.contains v)
      rw [hae] at hcon
      rw [← hU]
      refine anyQ2 fun Z => ?_
      have hgk : (AT.map eAtom).getD k [] = [.str a.rel, .pl (a.vars.map cI)] := by simp [hkn, ← ha, eAtom, cStr]
      simp [hkn, ← ha, eAtom, cStr, ]
      refine call_f hcon (by simp) rfl fun hs3 hh3 => ?_
      try simp at hh3
      simp []
      refine call_f hbit (by simp) rfl fun hs4 hh4 => ?_
      try simp at hh4
      simp [hUl, hL3, hwk, ]
      exact back2 (k + 1) (by omega) (by omega) rfl (by simp <;> omega) (by simp) (by simp [s5])
    · have hkn2 : k = AT.length := by omega
      have hRWv : ((AT.take k).map fun a => r01 (a.vars.contains v)) = RW v := by rw [hRW, hkn2, List.take_of_length_le (Nat.le_refl _)]
      rw [hRWv]
      have hRWl : (RW v).length = k := by rw [hRW, hkn2]; simp
      have htk : ((RW v).map eQ).take k = (RW v).map eQ := List.take_of_length_le (by simp; omega)
      simp [hkn2, hRAl, hRBl, hL1, hL2, hwi, ]
      exact back2 (i + 1) (by omega) (by omega) rfl (by simp <;> omega) (by simp) (by simp [s1, s2, ← hkn2, htk])
  · have hin : i = bag.length := by omega
    subst hin
    rw [List.take_of_length_le (Nat.le_refl _)]
    simp []
    refine loop_ruleL (X := Nat) (fun k _ => k ≤ AT.length) (fun k => [(4, .ptr 4 0 0), (5, .ptr 5 0 0), (48, .d (.int .i64 AT.length)), (49, .d (.int .i64 k))])
      (fun k => [(4, some (.box [.d (.sl none none []), .d (.sl none none []), .d (.sl none none [])])), (5, some (.box [.own 901 0 bag.length, .own 902 0 bag.length, .own 904 0 k])), (901, some (.row 54 1 ((bag.map RW).map (cP eQ)))), (902, some (.row 28 2 ((List.replicate bag.length (1 : _root_.Rat)).map eQ))), (904, some (.row 28 2 ((List.replicate k (1 : _root_.Rat)).map eQ)))]) (fun k => AT.length - k) ?_ ?_
    · refine (lead_box 5 2 904 28 2 [.own 901 0 bag.length, .own 902 0 bag.length, .d (.sl none none [])] (by omega) (by omega) (by omega) (by simp) rfl).bind ?_
      rintro _ rfl
      exact Lead.of ⟨0, by omega, rfl, rfl, Nat.le_refl _, by simp, by simp⟩
    intro k hs2 t2 m2 hk hh2
    by_cases hkn : k < AT.length
    · have hwk := wr1 (i := k) (by omega)
      have hL3 : LenOk 16 (k + 1) := ⟨by omega, by simp only [maxLen]; omega⟩
      obtain ⟨U, hU⟩ : ∃ U, U = (List.replicate k (1 : _root_.Rat)).map eQ := ⟨_, rfl⟩
      have hUl : U.length = k := by rw [hU]; simp
      have s5 : List.replicate (k + 1) [D.int .i64 1, D.int .i64 1] = U ++ [[D.int .i64 1, D.int .i64 1]] := by rw [hU, List.replicate_succ']; simp
      rw [← hU]
      refine anyQ2 fun Z => ?_
      simp [hkn, hUl, hL3, hwk, ]
      exact back2 (k + 1) (by omega) (by omega) rfl (by simp <;> omega) (by simp) (by simp [s5])
    · have hkn2 : k = AT.length := by omega
      subst hkn2
      simp [List.take_of_length_le]
theorem w_impl_BagCoverWidth (q : PQuery) (b : List Int) : VC Tryd.prog 9 [.agg ((eQuery q).map V.d), .d (pS cI b)] (fun _ r => r = bcwV q b) := by
  have hqe : (eQuery q).map V.d = [V.d (.int .i64 q.n), V.d (.pl (q.atoms.map eAtom)), V.d (.pl (q.out.map cI))] := by simp [eQuery]
  refine VC.ofL EP s9 (by kernel_rfl) Tryd.func9 (by rfl) (by kernel_rfl) (by simp [Tryd.f9]) (by simp [Tryd.f9]) s9_ok fun B hl => ?_
  clear hl
  simp [hqe, Tryd.f9, ]
  refine call_f (w_impl_IsValidQuery q) (by simp [hqe]) rfl fun hs0 hh0 => ?_
  try simp at hh0
  cases hq : queryOk q
  · simp [bcwV, hq, ]
  simp []
  refine call_f (w_impl_isBag q b) (by simp [hqe]) rfl fun hs1 hh1 => ?_
  try simp at hh1
  cases hb : bagI q.n b
  · simp [bcwV, hq, hb, ]
  obtain ⟨f1, f2, f3, f4, f5⟩ := bag_facts hq hb
  obtain ⟨p, hp1, hp2⟩ := wid_some hq hb
  have hmin := w_impl_Minimize (covM q.atoms b) q.atoms.length (bag_lp hq hb) p hp1
  have hcl : (covM q.atoms b).length = b.length := by simp [covM]
  rw [hcl, hp2] at hmin
  simp []
  refine call_p (w_impl_coverOf q b f4 f2) (by simp [hqe]) fun hs2 hh2 _ => ?_
  try simp at hh2
  simp []
  refine call_p hmin (by simp) fun hs3 hh3 _ => ?_
  try simp at hh3
  simp [bcwV, hq, hb, ]
end

end Go.Proofs.YtpbcmlolapdfjaaDoor


namespace Go.Proofs.YtpbcmlolapdfjaaDoor
open Go.Vs Go.Proofs Go
set_option maxRecDepth 100000
set_option maxHeartbeats 1000000

section
attribute [local simp] pS cP eQ_def cI
theorem w_spec_l14Best (A : List (List _root_.Rat)) (n : Nat) (h : LPok A n) (p : List _root_.Rat × _root_.Rat) (hp : minQ A n = some p) :
   VC Tryd.prog 43 [.agg [.d (pS (cP eQ) A), .d (pS eQ (List.replicate A.length 1)), .d (pS eQ (List.replicate n 1))], .d (.int .i64 1)]
    (fun _ r => r = .tup [.d (.pl (p.1.map eQ)), .agg [.d (.int .i64 p.2.num), .d (.int .i64 (p.2.den : Int))], .d (.bool true)]) := by
  have hn4 := h.n4
  obtain ⟨PT, hPT⟩ : ∃ PT, PT = ptsQ A n := ⟨_, rfl⟩
  have hPl : PT.length ≤ 512 := by rw [hPT]; exact pts_len h
  have hPs : ∀ x ∈ PT, SolB n x := by rw [hPT]; exact pts_sol h
  have hb : bestQ PT = some p := by rw [hPT]; exact hp
  have hw1 : ∀ z : Int, -1 ≤ z → z ≤ 1 → IntKind.i64.wrap z = z := fun z h1 h2 => wrap64_of (by omega) (by omega)
  have hcb : ∀ a b : _root_.Rat, -1 ≤ cmpQ a b ∧ cmpQ a b ≤ 1 := fun a b => by unfold cmpQ; split <;> (try split) <;> omega
  have hvs := w_spec_l14Points A n h
  rw [← hPT] at hvs
  obtain ⟨B1, hB1⟩ : ∃ B1, B1 = List.replicate A.length (1 : _root_.Rat) := ⟨_, rfl⟩
  obtain ⟨C1, hC1⟩ : ∃ C1, C1 = List.replicate n (1 : _root_.Rat) := ⟨_, rfl⟩
  have hC1l : C1.length = n := by rw [hC1]; simp
  rw [← hB1, ← hC1] at hvs ⊢
  refine VC.ofL EP s43 (by kernel_rfl) Tryd.func43 (by rfl) (by kernel_rfl) (by simp [Tryd.f43]) (by simp [Tryd.f43]) s43_ok fun B hl => ?_
  clear hl
  simp [Tryd.f43, s43_8, s43_13, s43_8, s43_13, ]
  refine call_p hvs (by simp) fun hs0 hh0 _ => ?_
  try simp at hh0
  simp [s43_8, s43_13, ]
  refine loop_ruleL (X := Nat) (fun i _ => i ≤ PT.length) (fun i => [(1, .d (.int .i64 1)), (2, .ptr 2 0 0), (5, .ptr 5 0 0), (7, .d (ptV (bestT PT i))), (8, .ptr 8 0 0), (9, .d (.pl (PT.map (cP eQ)))), (10, .d (.bool (bestT PT i).isSome)), (11, .d (.int .i64 i))])
    (fun i => [(2, some (.box [.d (.pl (A.map (cP eQ))), .d (.pl (B1.map eQ)), .d (.pl (C1.map eQ))])), (5, some (.box [.d (.int .i64 0), .d (.int .i64 0)])), (8, some (.box (match bestT PT i with | none => [.d (.int .i64 0), .d (.int .i64 0)] | some p => [.d (.int .i64 p.2.num), .d (.int .i64 (p.2.den : Int))])))]) (fun i => PT.length - i) ?_ ?_
  · refine (lead_frp 14 (T := 28) (sz := 2) (es := []) (by simp)).bind ?_
    rintro _ rfl
    exact Lead.of ⟨0, by omega, rfl, rfl, Nat.le_refl _, by simp [bestT_zero, ptV], by simp [bestT_zero]⟩
  intro i hs1 t1 m1 hi hh1
  by_cases hlt : i < PT.length
  · have hwi := wr1 (i := i) (by omega)
    have hm := List.getElem_mem hlt
    obtain ⟨x, hx⟩ : ∃ x, x = PT[i] := ⟨_, rfl⟩
    have hSx : SolB n x := hPs x (by rw [hx]; exact hm)
    have hxl := hSx.len
    have hdot := w_spec_DotProduct C1 x (by rw [hC1l, hxl]) (by rw [hC1l, hC1]; exact one_dots hSx hn4)
    have hsq : dotF C1.length (fnL C1) (fnL x) = sumQ x := by rw [hC1l, hC1]; exact sumQ_eq hxl
    rw [hsq] at hdot
    have hsm := sum_sm hSx hn4
    have hst := bestT_succ hlt
    rw [← hx] at hst
    refine anyQ2 fun Z => ?_
    cases hbt : bestT PT i with
    | none =>
      rw [hbt] at hst
      simp only [bestS] at hst
      simp [hlt, ← hx, s43_8, s43_13, ]
      refine ⟨?_, ?_⟩
      all_goals
        refine call_f hdot (by simp) rfl fun hs2 hh2 => ?_
        try simp at hh2
        simp [hlt, ← hx, hwi, s43_8, s43_13, ]
        exact back2 (i + 1) (by omega) (by omega) rfl (by simp <;> omega) (by simp [hst, ptV, hx]) (by simp [hst])
    | some b =>
      rw [hbt] at hst
      simp only [bestS] at hst
      obtain ⟨hb1, hb2⟩ := bestT_sum hbt
      have hbm : smQ b.2 := by rw [hb1]; exact sum_sm (hPs _ (List.mem_of_mem_take hb2)) hn4
      simp [hlt, ← hx, s43_8, s43_13, ]
      refine ⟨?_, ?_⟩
      all_goals
        refine call_f hdot (by simp) rfl fun hs2 hh2 => ?_
        try simp at hh2
        simp [s43_8, s43_13, ]
        refine call_f (w_spec_CompareRationals (sumQ x) b.2 hsm hbm) (by simp) rfl fun hs3 hh3 => ?_
        try simp at hh3
        have hc := hcb (sumQ x) b.2
        simp [hw1 _ hc.1 hc.2]
        by_cases hl : sumQ x < b.2
        · rw [if_pos hl] at hst
          simp [hlt, ← hx, cmpQ_lt.2 hl, hwi, s43_8, s43_13, ]
          exact back2 (i + 1) (by omega) (by omega) rfl (by simp <;> omega) (by simp [hst, ptV]) (by simp [hst])
        · rw [if_neg hl] at hst
          have hnc : ¬ cmpQ (sumQ x) b.2 < 0 := fun e => hl (cmpQ_lt.1 e)
          simp [hnc, hwi, s43_8, s43_13, ]
          exact back2 (i + 1) (by omega) (by omega) rfl (by simp <;> omega) (by simp [hst, ptV]) (by simp [hst])
  · have hin : i = PT.length := by omega
    subst hin
    have hbt : bestT PT PT.length = some p := by rw [bestT_all]; exact hb
    simp [hbt, ptV, s43_8, s43_13, ]
theorem w_spec_Minimize (A : List (List _root_.Rat)) (n : Nat) (h : LPok A n) (p : List _root_.Rat × _root_.Rat) (hp : minQ A n = some p) :
   VC Tryd.prog 23 [.agg [.d (pS (cP eQ) A), .d (pS eQ (List.replicate A.length 1)), .d (pS eQ (List.replicate n 1))]]
    (fun _ r => r = .tup [.d (.pl (p.1.map eQ)), .agg [.d (.int .i64 p.2.num), .d (.int .i64 (p.2.den : Int))], .d (.bool true)]) := by
  have hn4 := h.n4
  have hval := w_spec_IsValidLinearProgram A n h
  have hbest := w_spec_l14Best A n h p hp
  obtain ⟨B1, hB1⟩ : ∃ B1, B1 = List.replicate A.length (1 : _root_.Rat) := ⟨_, rfl⟩
  rw [← hB1] at hval hbest ⊢
  refine VC.ofL EP s23 (by kernel_rfl) Tryd.func23 (by rfl) (by kernel_rfl) (by simp [Tryd.f23]) (by simp [Tryd.f23]) s23_ok fun B hl => ?_
  clear hl
  simp [Tryd.f23, s23_4, s23_4, ]
  refine call_f hval (by simp) rfl fun hs0 hh0 => ?_
  try simp at hh0
  simp [s23_4, ]
  refine call_f (w_spec_l14Plus n (by omega)) (by simp) rfl fun hs1 hh1 => ?_
  try simp at hh1
  simp [s23_4, ]
  refine call_p hbest (by simp) fun hs2 hh2 _ => ?_
  try simp at hh2
  simp [s23_4, ]
theorem w_spec_BagCoverWidth (q : PQuery) (bag : List Int) (hst : ∀ a ∈ q.atoms, a.rel.length ≤ maxLen) : VC Tryd.prog 6 [.agg ((eQuery q).map V.d), .d (pS cI bag)] (fun _ r => r = bcwV q bag) := by
  have hqe : (eQuery q).map V.d = [V.d (.int .i64 q.n), V.d (.pl (q.atoms.map eAtom)), V.d (.pl (q.out.map cI))] := by simp [eQuery]
  refine VC.ofL EP s6 (by kernel_rfl) Tryd.func6 (by rfl) (by kernel_rfl) (by simp [Tryd.f6]) (by simp [Tryd.f6]) s6_ok fun B hl => ?_
  clear hl
  simp [hqe, Tryd.f6, s6_12, s6_12, ]
  refine call_f (w_spec_IsValidQuery q hst) (by simp [hqe]) rfl fun hs0 hh0 => ?_
  try simp at hh0
  cases hq : queryOk q
  · simp [bcwV, hq, s6_12, ]
  simp [s6_12, ]
  refine call_f (VC.to (w_spec_l30Bag q bag) (show _ = V.d (.bool (bagI q.n bag)) by rw [bag_eq])) (by simp [hqe]) rfl fun hs1 hh1 => ?_
  try simp at hh1
  cases hb : bagI q.n bag
  · simp [bcwV, hq, hb, s6_12, ]
  obtain ⟨f1, f2, f3, f4, f5⟩ := bag_facts hq hb
  obtain ⟨p, hp1, hp2⟩ := wid_some hq hb
  have hmin := w_spec_Minimize (covM q.atoms bag) q.atoms.length (bag_lp hq hb) p hp1
  have hcl : (covM q.atoms bag).length = bag.length := by simp [covM]
  rw [hcl, hp2] at hmin
  obtain ⟨WQ, hWQ⟩ : ∃ WQ, WQ = widQ q.atoms bag := ⟨_, rfl⟩
  have hbcw : bcwV q bag = .tup [.agg [.d (.int .i64 WQ.num), .d (.int .i64 (WQ.den : Int))], .d (.bool true)] := by rw [hWQ]; simp [bcwV, hq, hb]
  rw [← hWQ] at hmin
  rw [hbcw]
  obtain ⟨AT, hAT⟩ : ∃ AT, AT = q.atoms := ⟨_, rfl⟩
  obtain ⟨OU, hOU⟩ : ∃ OU, OU = q.out.map cI := ⟨_, rfl⟩
  obtain ⟨RW, hRW⟩ : ∃ RW : Int → List _root_.Rat, RW = fun v => AT.map fun a => r01 (a.vars.contains v) := ⟨_, rfl⟩
  have hcov : covM q.atoms bag = bag.map RW := by rw [hRW, hAT]; rfl
  rw [hcov, ← hAT] at hmin
  rw [← hAT] at f4 ⊢
  rw [← hOU]
  have hq4 := f4
  have hb5 := f2
  simp [s6_12, ]
  refine loop_ruleL (X := Nat) (fun i _ => i ≤ bag.length) (fun i => [(1, .d (.pl (bag.map cI))), (2, .ptr 2 0 0), (4, .ptr 4 0 0), (6, .ptr 6 0 0), (7, .d (.int .i64 i))])
    (fun i => [(2, some (.box [.d (.int .i64 q.n), .d (.pl (AT.map eAtom)), .d (.pl OU)])), (4, some (.box [.d (.int .i64 0), .d (.int .i64 0)])), (6, some (.box [.own 901 0 i, .own 902 0 i, .d (.sl none none [])])), (901, some (.row 54 1 (((bag.take i).map RW).map (cP eQ)))), (902, some (.row 28 2 ((List.replicate i (1 : _root_.Rat)).map eQ)))]) (fun i => bag.length - i) ?_ ?_
  · refine (lead_box 6 0 901 54 1 [.d (.sl none none []), .d (.sl none none []), .d (.sl none none [])] (by omega) (by omega) (by omega) (by simp) rfl).bind ?_
    rintro _ rfl
    refine (lead_box 6 1 902 28 2 [.own 901 0 0, .d (.sl none none []), .d (.sl none none [])] (by omega) (by omega) (by omega) (by simp) rfl).bind ?_
    rintro _ rfl
    exact Lead.of ⟨0, by omega, rfl, rfl, Nat.le_refl _, by simp, by simp⟩
  intro i hs1 t1 m1 hi hh1
  by_cases hlt : i < bag.length
  · have hwi := wr1 (i := i) (by omega)
    have hL1 : LenOk 24 (i + 1) := ⟨by omega, by simp only [maxLen]; omega⟩
    have hL2 : LenOk 16 (i + 1) := ⟨by omega, by simp only [maxLen]; omega⟩
    obtain ⟨v, hv⟩ : ∃ v, v = bag[i] := ⟨_, rfl⟩
    obtain ⟨RA, hRA⟩ : ∃ RA, RA = ((bag.take i).map RW).map (cP eQ) := ⟨_, rfl⟩
    obtain ⟨RB, hRB⟩ : ∃ RB, RB = (List.replicate i (1 : _root_.Rat)).map eQ := ⟨_, rfl⟩
    have hRAl : RA.length = i := by rw [hRA]; simp; omega
    have hRBl : RB.length = i := by rw [hRB]; simp
    have s1 : List.take (i + 1) (List.map (cP eQ ∘ RW) bag) = RA ++ [cP eQ (RW v)] := by rw [List.take_succ_eq_append_getElem (by simpa using hlt)]; simp [hRA, hv]
    have s2 : List.replicate (i + 1) [D.int .i64 1, D.int .i64 1] = RB ++ [[D.int .i64 1, D.int .i64 1]] := by rw [hRB, List.replicate_succ']; simp
    rw [← hRA, ← hRB]
    refine anyQ2 fun Z => ?_
    simp [hlt, s6_12, ]
    refine loop_rule (X := Nat) (fun k => k ≤ AT.length) (fun k => [(1, .d (.pl (bag.map cI))), (2, .ptr 2 0 0), (4, .ptr 4 0 0), (6, .ptr 6 0 0), (7, .d (.int .i64 i)), (8, .own 32 0 k), (9, .d (.int .i64 k))])
      (fun k => [(2, some (.box [.d (.int .i64 q.n), .d (.pl (AT.map eAtom)), .d (.pl OU)])), (4, some (.box [.d (.int .i64 0), .d (.int .i64 0)])), (6, some (.box [.own 901 0 i, .own 902 0 i, .d (.sl none none [])])), (901, some (.row 54 1 RA)), (902, some (.row 28 2 RB)), (32, some (.row 28 2 (((AT.take k).map fun a => r01 (a.vars.contains v)).map eQ)))]) (fun k => AT.length - k) 0 (by simp) (by simp) (by simp) ?_
    intro k hs2 t2 m2 hk hh2
    by_cases hkn : k < AT.length
    · have hwk := wr1 (i := k) (by omega)
      have hL3 : LenOk 16 (k + 1) := ⟨by omega, by simp only [maxLen]; omega⟩
      obtain ⟨a, ha⟩ : ∃ a, a = AT[k] := ⟨_, rfl⟩
      obtain ⟨U, hU⟩ : ∃ U, U = ((AT.take k).map fun a => r01 (a.vars.contains v)).map eQ := ⟨_, rfl⟩
      have hUl : U.length = k := by rw [hU]; simp; omega
      have s5 : List.take (k + 1) (List.map (eQ ∘ fun a => r01 (decide (v ∈ a.vars))) AT) = U ++ [[.int .i64 (if v ∈ a.vars then 1 else 0), .int .i64 1]] := by
        rw [List.take_succ_eq_append_getElem (by simpa using hkn)]
        simp [-eQ_def, hU, ← ha, r01_eQ, List.contains_eq_mem]
      have hcon := w_spec_ContainsVariable a v
      have hae : (eAtom a).map V.d = [V.d (.str a.rel), V.d (.pl (a.vars.map cI))] := by simp [eAtom, cStr]
      rw [hae] at hcon
      rw [← hU]
      refine anyQ fun Z => ?_
      simp [hkn, hlt, ← hv, ← ha, eAtom, cStr, s6_12, ]
      refine call_f hcon (by simp) rfl fun hs3 hh3 => ?_
      try simp at hh3
      by_cases hvm : v ∈ a.vars
      · rw [if_pos hvm] at s5
        simp [hvm, hUl, hL3, hwk, s6_12, ]
        exact back (k + 1) (by omega) (by omega) rfl (by simp <;> omega) (by simp) (by simp [s5])
      · rw [if_neg hvm] at s5
        simp [hvm, hUl, hL3, hwk, s6_12, ]
        exact back (k + 1) (by omega) (by omega) rfl (by simp <;> omega) (by simp) (by simp [s5])
    · have hkn2 : k = AT.length := by omega
      have hRWv : ((AT.take k).map fun a => r01 (a.vars.contains v)) = RW v := by rw [hRW, hkn2, List.take_of_length_le (Nat.le_refl _)]
      rw [hRWv]
      have hRWl : (RW v).length = k := by rw [hRW, hkn2]; simp
      have htk : ((RW v).map eQ).take k = (RW v).map eQ := List.take_of_length_le (by simp; omega)
      simp [hkn2, hRAl, hRBl, hL1, hL2, hwi, s6_12, ]
      exact back2 (i + 1) (by omega) (by omega) rfl (by simp <;> omega) (by simp) (by simp [s1, s2, ← hkn2, htk])
  · have hin : i = bag.length := by omega
    subst hin
    rw [List.take_of_length_le (Nat.le_refl _)]
    simp [s6_12, ]
    refine loop_ruleL (X := Nat) (fun k _ => k ≤ AT.length) (fun k => [(2, .ptr 2 0 0), (4, .ptr 4 0 0), (6, .ptr 6 0 0), (11, .d (.int .i64 k))])
      (fun k => [(2, some (.box [.d (.int .i64 q.n), .d (.pl (AT.map eAtom)), .d (.pl OU)])), (4, some (.box [.d (.int .i64 0), .d (.int .i64 0)])), (6, some (.box [.own 901 0 bag.length, .own 902 0 bag.length, .own 904 0 k])), (901, some (.row 54 1 ((bag.map RW).map (cP eQ)))), (902, some (.row 28 2 ((List.replicate bag.length (1 : _root_.Rat)).map eQ))), (904, some (.row 28 2 ((List.replicate k (1 : _root_.Rat)).map eQ)))]) (fun k => AT.length - k) ?_ ?_
    · refine (lead_box 6 2 904 28 2 [.own 901 0 bag.length, .own 902 0 bag.length, .d (.sl none none [])] (by omega) (by omega) (by omega) (by simp) rfl).bind ?_
      rintro _ rfl
      exact Lead.of ⟨0, by omega, rfl, rfl, Nat.le_refl _, by simp, by simp⟩
    intro k hs2 t2 m2 hk hh2
    by_cases hkn : k < AT.length
    · have hwk := wr1 (i := k) (by omega)
      have hL3 : LenOk 16 (k + 1) := ⟨by omega, by simp only [maxLen]; omega⟩
      obtain ⟨U, hU⟩ : ∃ U, U = (List.replicate k (1 : _root_.Rat)).map eQ := ⟨_, rfl⟩
      have hUl : U.length = k := by rw [hU]; simp
      have s5 : List.replicate (k + 1) [D.int .i64 1, D.int .i64 1] = U ++ [[D.int .i64 1, D.int .i64 1]] := by rw [hU, List.replicate_succ']; simp
      rw [← hU]
      refine anyQ2 fun Z => ?_
      simp [hkn, hUl, hL3, hwk, s6_12, ]
      exact back2 (k + 1) (by omega) (by omega) rfl (by simp <;> omega) (by simp) (by simp [s5])
    · have hkn2 : k = AT.length := by omega
      subst hkn2
      simp [s6_12, ]
      refine call_p hmin (by simp [List.take_of_length_le]) fun hs3 hh3 _ => ?_
      try simp at hh3
      simp [s6_12, ]
end

end Go.Proofs.YtpbcmlolapdfjaaDoor


namespace Go.Proofs.YtpbcmlolapdfjaaDoor
open Go.Vs Go.Proofs Go
set_option maxRecDepth 100000
set_option maxHeartbeats 1000000

section
attribute [local simp] pS cP eQ_def cI
theorem w_impl_DecompositionWidth (q : PQuery) (d : PDec) (hb : d.par.length ≤ 4294967296) : VC Tryd.prog 16 [.agg ((eQuery q).map V.d), .agg ((eDec d).map V.d)] (fun _ r => r = dwV q d) := by
  have hqe : (eQuery q).map V.d = [V.d (.int .i64 q.n), V.d (.pl (q.atoms.map eAtom)), V.d (.pl (q.out.map cI))] := by simp [eQuery]
  have hde : (eDec d).map V.d = [V.d (.pl (d.bags.map (cP cI))), V.d (.pl (d.par.map cI))] := by simp [eDec]
  obtain ⟨QA, hQA⟩ : ∃ QA, QA = q.atoms.map eAtom := ⟨_, rfl⟩
  obtain ⟨QO, hQO⟩ : ∃ QO, QO = q.out.map cI := ⟨_, rfl⟩
  rw [← hQA, ← hQO] at hqe
  refine VC.ofL EP s16 (by kernel_rfl) Tryd.func16 (by rfl) (by kernel_rfl) (by simp [Tryd.f16]) (by simp [Tryd.f16]) s16_ok fun B hl => ?_
  clear hl
  simp [hqe, hde, Tryd.f16, ]
  refine call_f (w_impl_IsValidDecomposition q d hb) (by simp [hqe, hde]) rfl fun hs0 hh0 => ?_
  try simp at hh0
  cases hok : decOk q d
  · simp [dwV, hok, ]
  obtain ⟨hq, hbs⟩ := dec_facts hok
  have hbl : d.bags.length ≤ 4294967296 := by
    have : d.bags.length = d.par.length := by simp only [decOk, Bool.and_eq_true, decide_eq_true_eq] at hok; exact hok.1.1.1.1.2
    omega
  have hsm := fun b hb => (wid_sm hq (hbs b hb)).1
  obtain ⟨bags, hbags⟩ : ∃ bags, bags = d.bags := ⟨_, rfl⟩
  have hdw : dwV q d = .tup [.agg [.d (.int .i64 (mxT q bags bags.length).num), .d (.int .i64 ((mxT q bags bags.length).den : Int))], .d (.bool true)] := by rw [hbags]; simp [dwV, hok, decW]
  have hne : bags ≠ [] := fun e => by
    rw [hbags] at e
    simp only [decOk, Bool.and_eq_true, List.all_eq_true, decide_eq_true_eq, e, List.length_nil, topN] at hok
    have h5 := (dec_n1 hq)
    have := hok.2 0 (by simp; omega)
    simp at this
  rw [hdw]
  rw [← hbags] at hbs hsm hbl ⊢
  simp []
  refine loop_rule (X := Nat) (fun i => i ≤ bags.length) (fun i => [(2, .ptr 2 0 0), (4, .ptr 4 0 0), (6, .ptr 6 0 0), (17, .d (.pl (bags.map (cP cI)))), (18, .d (.int .i64 bags.length)), (19, .d (.int .i64 i))])
    (fun i => [(2, some (.box [.d (.int .i64 q.n), .d (.pl QA), .d (.pl QO)])), (4, some (.box [.d (.int .i64 0), .d (.int .i64 0)])), (6, some (.box (if i = 0 then [.d (.int .i64 0), .d (.int .i64 0)] else [.d (.int .i64 (mxT q bags i).num), .d (.int .i64 ((mxT q bags i).den : Int))])))]) (fun i => bags.length - i) 0 (by simp) (by simp) (by simp) ?_
  intro i hs1 t1 m1 hi hh1
  by_cases hlt : i < bags.length
  · have hwi := wr1 (i := i) (by omega)
    have hm := List.getElem_mem hlt
    obtain ⟨b, hb'⟩ : ∃ b, b = bags[i] := ⟨_, rfl⟩
    rw [← hb'] at hm
    obtain ⟨W, hW⟩ : ∃ W, W = widQ q.atoms b := ⟨_, rfl⟩
    have hws : smQ W := by rw [hW]; exact hsm b hm
    have hw1 : 1 ≤ W := by rw [hW]; exact (wid_sm hq (hbs b hm)).2
    have hbc := VC.to (w_impl_BagCoverWidth q b) (show bcwV q b = .tup [.agg [.d (.int .i64 W.num), .d (.int .i64 (W.den : Int))], .d (.bool true)] by rw [hW]; simp [bcwV, hq, hbs b hm])
    have hst := mxT_succ (q := q) hlt
    rw [← hb', ← hW] at hst
    refine anyQ fun Z => ?_
    simp [hlt, ← hb', ]
    refine call_f hbc (by simp [hqe]) rfl fun hs2 hh2 => ?_
    try simp at hh2
    by_cases hi0 : i = 0
    · subst hi0
      have hm0 : mxT q bags 1 = W := by rw [hst, mxT_zero, mxS, if_pos (by grind)]
      simp [hwi, ]
      exact back 1 (by omega) (by omega) rfl (by simp <;> omega) (by simp [show IntKind.i64.wrap 1 = 1 by decide]) (by simp [hm0])
    · have hms := mxT_sm hsm i hi
      simp [hi0, ]
      refine call_f (w_impl_CompareRationals W (mxT q bags i) hws hms) (by simp) rfl fun hs3 hh3 => ?_
      try simp at hh3
      rw [mx_cmp] at hst
      by_cases hc : 0 < cmpQ W (mxT q bags i)
      · rw [if_pos hc] at hst
        simp [hc, hwi, ]
        exact back (i + 1) (by omega) (by omega) rfl (by simp <;> omega) (by simp) (by simp [hst])
      · rw [if_neg hc] at hst
        simp [hc, hwi, ]
        exact back (i + 1) (by omega) (by omega) rfl (by simp <;> omega) (by simp) (by simp [hst, hi0])
  · have hin : i = bags.length := by omega
    have hi0 : i ≠ 0 := fun e => hne (List.eq_nil_of_length_eq_zero (by omega))
    subst hin
    simp [hi0, ]
theorem w_spec_DecompositionWidth (q : PQuery) (d : PDec) (hstr : ∀ a ∈ q.atoms, a.rel.length ≤ maxLen) (hb : d.par.length ≤ 4294967296) : VC Tryd.prog 14 [.agg ((eQuery q).map V.d), .agg ((eDec d).map V.d)] (fun _ r => r = dwV q d) := by
  have hqe : (eQuery q).map V.d = [V.d (.int .i64 q.n), V.d (.pl (q.atoms.map eAtom)), V.d (.pl (q.out.map cI))] := by simp [eQuery]
  have hde : (eDec d).map V.d = [V.d (.pl (d.bags.map (cP cI))), V.d (.pl (d.par.map cI))] := by simp [eDec]
  obtain ⟨QA, hQA⟩ : ∃ QA, QA = q.atoms.map eAtom := ⟨_, rfl⟩
  obtain ⟨QO, hQO⟩ : ∃ QO, QO = q.out.map cI := ⟨_, rfl⟩
  rw [← hQA, ← hQO] at hqe
  refine VC.ofL EP s14 (by kernel_rfl) Tryd.func14 (by rfl) (by kernel_rfl) (by simp [Tryd.f14]) (by simp [Tryd.f14]) s14_ok fun B hl => ?_
  clear hl
  simp [hqe, hde, Tryd.f14, s14_7, s14_7, ]
  refine call_f (w_spec_IsValidDecomposition q d hstr hb) (by simp [hqe, hde]) rfl fun hs0 hh0 => ?_
  try simp at hh0
  cases hok : decOk q d
  · simp [dwV, hok, s14_7, ]
  obtain ⟨hq, hbs⟩ := dec_facts hok
  have hbl : d.bags.length ≤ 4294967296 := by
    have : d.bags.length = d.par.length := by simp only [decOk, Bool.and_eq_true, decide_eq_true_eq] at hok; exact hok.1.1.1.1.2
    omega
  have hsm := fun b hb => (wid_sm hq (hbs b hb)).1
  obtain ⟨bags, hbags⟩ : ∃ bags, bags = d.bags := ⟨_, rfl⟩
  have hdw : dwV q d = .tup [.agg [.d (.int .i64 (mxT q bags bags.length).num), .d (.int .i64 ((mxT q bags bags.length).den : Int))], .d (.bool true)] := by rw [hbags]; simp [dwV, hok, decW]
  rw [hdw]
  rw [← hbags] at hbs hsm hbl ⊢
  simp [s14_7, ]
  refine loop_rule (X := Nat) (fun i => i ≤ bags.length) (fun i => [(2, .ptr 2 0 0), (3, .ptr 3 0 0), (4, .ptr 4 0 0), (6, .ptr 6 0 0), (7, .d (.int .i64 i))])
    (fun i => [(2, some (.box [.d (.int .i64 q.n), .d (.pl QA), .d (.pl QO)])), (3, some (.box [.d (.pl (bags.map (cP cI))), .d (.pl (d.par.map cI))])), (4, some (.box [.d (.int .i64 0), .d (.int .i64 0)])), (6, some (.box [.d (.int .i64 (mxT q bags i).num), .d (.int .i64 ((mxT q bags i).den : Int))]))]) (fun i => bags.length - i) 0 (by simp) (by simp) (by simp [mxT_zero]) ?_
  intro i hs1 t1 m1 hi hh1
  by_cases hlt : i < bags.length
  · have hwi := wr1 (i := i) (by omega)
    have hm := List.getElem_mem hlt
    obtain ⟨b, hb'⟩ : ∃ b, b = bags[i] := ⟨_, rfl⟩
    rw [← hb'] at hm
    obtain ⟨W, hW⟩ : ∃ W, W = widQ q.atoms b := ⟨_, rfl⟩
    have hws : smQ W := by rw [hW]; exact hsm b hm
    have hbc := VC.to (w_spec_BagCoverWidth q b hstr) (show bcwV q b = .tup [.agg [.d (.int .i64 W.num), .d (.int .i64 (W.den : Int))], .d (.bool true)] by rw [hW]; simp [bcwV, hq, hbs b hm])
    have hst := mxT_succ (q := q) hlt
    rw [← hb', ← hW, mx_cmp] at hst
    have hms := mxT_sm hsm i hi
    refine anyQ fun Z => ?_
    simp [hlt, ← hb', s14_7, ]
    repeat' apply And.intro
    all_goals
      refine call_f hbc (by simp [hqe]) rfl fun hs2 hh2 => ?_
      try simp at hh2
      simp [s14_7, ]
      refine call_f (w_spec_CompareRationals W (mxT q bags i) hws hms) (by simp) rfl fun hs3 hh3 => ?_
      try simp at hh3
      by_cases hc : 0 < cmpQ W (mxT q bags i)
      · rw [if_pos hc] at hst
        simp [hc, hwi, s14_7, ]
        exact back (i + 1) (by omega) (by omega) rfl (by simp <;> omega) (by simp) (by simp [hst])
      · rw [if_neg hc] at hst
        simp [hc, hwi, s14_7, ]
        exact back (i + 1) (by omega) (by omega) rfl (by simp <;> omega) (by simp) (by simp [hst])
  · have hin : i = bags.length := by omega
    subst hin
    simp [s14_7, ]
end

end Go.Proofs.YtpbcmlolapdfjaaDoor


namespace Go.Proofs.YtpbcmlolapdfjaaDoor
open Go.Vs Go.Proofs Go
set_option maxRecDepth 100000
set_option maxHeartbeats 1000000

theorem w_laws_FnExactBagCoverWidth (a : Query) (b : Sl (Int)) (k_a : okQuery a) (k_b : okS okI b) :
   VC Tryd.prog 3 [.agg ((cQuery a).map V.d), .d (dSl cI b)] (fun _ r => r = .d (.bool true)) := by
  refine VC.of E s3 (by kernel_rfl) Tryd.func3 (by rfl) (by kernel_rfl) (by simp [Tryd.f3]) (by simp [Tryd.f3]) s3_ok fun B => ?_
  by_cases q_b : (1048576 : Int) < b.xs.length
  case pos => simp [Tryd.f3, s3_13, s3_13, cI, cQuery, cS, cI, cS, dSl, q_b]
  simp [Tryd.f3, s3_13, s3_13, cI, cQuery, cS, cI, cS, q_b, dSl]
  refine call_pure (w_laws_szQuery a _ (by omega) (by omega) k_a) rfl (by simp) rfl fun hz_a zz_a => ?_
  simp at zz_a
  by_cases s_a : (swQuery a : Int) ≤ 1048576
  case neg =>
    rw [szv_neg (by omega)]; simp
    all_goals exact fun h => absurd h (by decide)
  rw [szv_pos s_a]
  simp [show ¬ (1048576 : Int) - swQuery a < 0 by omega, show ¬ (1048576 : Int) < swQuery a by omega, s_a, s3_13, cI, cQuery, cS, cI, cS]
  obtain ⟨wx, wy, wk, hw⟩ := bcw_ex (plQuery a) (plS plI b)
  refine call_some (w_laws_toQuery a k_a (by omega)) rfl (by simp) fun n1 hs1 r1 hn1 hm1 hp1 hr1 => ?_
  obtain ⟨y1, rfl, p1, k1, G1⟩ := hp1
  clear G1 hr1
  try simp at hn1
  simp [s3_13, cI, cQuery, cS, cI, cS]
  refine call_some (w_laws_toIntS b k_b (by omega)) rfl (by simp) fun n2 hs2 r2 hn2 hm2 hp2 hr2 => ?_
  obtain ⟨y2, rfl, p2, k2, G2⟩ := hp2
  clear G2 hr2
  try simp at hn2
  simp [s3_13, cI, cQuery, cS, cI, cS]
  refine call_f (VC.to (w_spec_BagCoverWidth (plQuery y1) (plS plI y2) (okQuery_strs k1)) (show _ = V.tup [.agg [.d (.int .i64 wx), .d (.int .i64 wy)], .d (.bool wk)] by rw [p1, p2]; exact hw)) (by simp [er_I, er_SI, er_Str, er_File, er_Tab, er_Db, er_Delta, er_Atom, er_VRel, eQuery, plI, plQuery, cP, pS, plI]) rfl fun hs3 hh3 => ?_
  try simp at hh3
  simp [s3_13, cI, cQuery, cS, cI, cS]
  refine call_some (w_laws_toQuery a k_a (by omega)) rfl (by simp) fun n4 hs4 r4 hn4 hm4 hp4 hr4 => ?_
  obtain ⟨y4, rfl, p4, k4, G4⟩ := hp4
  clear G4 hr4
  try simp at hn4
  simp [s3_13, cI, cQuery, cS, cI, cS]
  refine call_some (w_laws_toIntS b k_b (by omega)) rfl (by simp) fun n5 hs5 r5 hn5 hm5 hp5 hr5 => ?_
  obtain ⟨y5, rfl, p5, k5, G5⟩ := hp5
  clear G5 hr5
  try simp at hn5
  simp [s3_13, cI, cQuery, cS, cI, cS]
  refine call_f (VC.to (w_impl_BagCoverWidth (plQuery y4) (plS plI y5) ) (show _ = V.tup [.agg [.d (.int .i64 wx), .d (.int .i64 wy)], .d (.bool wk)] by rw [p4, p5]; exact hw)) (by simp [er_I, er_SI, er_Str, er_File, er_Tab, er_Db, er_Delta, er_Atom, er_VRel, eQuery, plI, plQuery, cP, pS, plI]) rfl fun hs6 hh6 => ?_
  try simp at hh6
  simp [s3_13, cI, cQuery, cS, cI, cS]
  refine call_pure (w_laws_eqRational (⟨wx, wy⟩ : Go.Vs.Rat) ⟨wx, wy⟩ ⟨trivial, trivial⟩) (by rfl) (by simp) rfl fun hse hhe => ?_
  try simp at hhe
  simp [s3_13, cI, cQuery, cS, cI, cS]
  refine call_some (w_laws_toQuery a k_a (by omega)) rfl (by simp) fun n7 hs7 r7 hn7 hm7 hp7 hr7 => ?_
  obtain ⟨y7, rfl, p7, k7, G7⟩ := hp7
  clear G7 hr7
  try simp at hn7
  simp [s3_13, cI, cQuery, cS, cI, cS]
  refine call_pure (w_laws_eqQuery y4 y7 k4) rfl (by simp) rfl fun hs8 hh8 => ?_
  try simp at hh8
  simp [s3_13, cI, cQuery, cS, cI, cS, p4, p7]
  refine call_some (w_laws_toIntS b k_b (by omega)) rfl (by simp) fun n9 hs9 r9 hn9 hm9 hp9 hr9 => ?_
  obtain ⟨y9, rfl, p9, k9, G9⟩ := hp9
  clear G9 hr9
  try simp at hn9
  simp [s3_13, cI, cQuery, cS, cI, cS]
  refine call_pure (w_laws_eqIntS y5 y9 k5) rfl (by simp) rfl fun hs10 hh10 => ?_
  try simp at hh10
  simp [s3_13, cI, cQuery, cS, cI, cS, p5, p9]
theorem w_laws_FnExactDecompositionWidth (a : Query) (b : Dec) (k_a : okQuery a) (k_b : okDec b) :
   VC Tryd.prog 4 [.agg ((cQuery a).map V.d), .agg ((cDec b).map V.d)] (fun _ r => r = .d (.bool true)) := by
  refine VC.of E s4 (by kernel_rfl) Tryd.func4 (by rfl) (by kernel_rfl) (by simp [Tryd.f4]) (by simp [Tryd.f4]) s4_ok fun B => ?_
  simp [Tryd.f4, s4_14, s4_16, s4_14, s4_16, cDec, cI, cQuery, cS, cI, cS]
  refine call_pure (w_laws_szQuery a _ (by omega) (by omega) k_a) rfl (by simp) rfl fun hz_a zz_a => ?_
  simp at zz_a
  by_cases s_a : (swQuery a : Int) ≤ 1048576
  case neg =>
    rw [szv_neg (by omega)]; simp
    all_goals exact fun h => absurd h (by decide)
  rw [szv_pos s_a]
  simp [show ¬ (1048576 : Int) - swQuery a < 0 by omega, show ¬ (1048576 : Int) < swQuery a by omega, s_a, s4_14, s4_16, cDec, cI, cQuery, cS, cI, cS]
  refine call_pure (w_laws_szDecomposition b _ (by omega) (by omega) k_b) rfl (by simp) rfl fun hz_b zz_b => ?_
  simp at zz_b
  by_cases s_b : (swDec b : Int) ≤ 1048576 - swQuery a
  case neg =>
    rw [szv_neg (by omega)]; simp
    all_goals exact fun h => absurd h (by decide)
  rw [szv_pos s_b]
  simp [show ¬ (1048576 - swQuery a : Int) - swDec b < 0 by omega, show ¬ (1048576 - swQuery a : Int) < swDec b by omega, s_b, s4_14, s4_16, cDec, cI, cQuery, cS, cI, cS]
  have hln : ∀ y : Dec, plDec y = plDec b → (plDec y).par.length ≤ 4294967296 := fun y h => by
    rw [h]
    have h2 : swDec b = swS (swS swI) b.bags + swS swI b.par := rfl
    have h3 : swS swI b.par = b.par.xs.length := sw_ints b.par
    simp only [plDec, plS, List.length_map]
    omega
  obtain ⟨wx, wy, wk, hw⟩ := dw_ex (plQuery a) (plDec b)
  refine cutT (X := Unit) (fun _ _ => True) (fun _ => [(2, .ptr 2 0 0), (3, .ptr 3 0 0), (6, .ptr 6 0 0), (7, .d (.bool wk))]) (fun _ => [(2, some (.box ((cQuery a).map V.d))), (3, some (.box ((cDec b).map V.d))), (6, some (.box [.d (.int .i64 wx), .d (.int .i64 wy)]))]) ?_ ?_
  · intro K hK
    simp [s4_8, cDec, cI, cQuery, cS, cI, cS]
    repeat' apply And.intro
    all_goals
      refine call_some (w_laws_toQuery a k_a (by omega)) rfl (by simp) fun n1 hs1 r1 hn1 hm1 hp1 hr1 => ?_
      obtain ⟨y1, rfl, p1, k1, G1⟩ := hp1
      clear G1 hr1
      try simp at hn1
      simp [s4_14, s4_16, cDec, cI, cQuery, cS, cI, cS]
      repeat' apply And.intro
      all_goals
        refine call_some (w_laws_toDecomposition b k_b (by omega)) rfl (by simp) fun n2 hs2 r2 hn2 hm2 hp2 hr2 => ?_
        obtain ⟨y2, rfl, p2, k2, G2⟩ := hp2
        clear G2 hr2
        try simp at hn2
        simp [s4_14, s4_16, cDec, cI, cQuery, cS, cI, cS]
        repeat' apply And.intro
        all_goals
          refine call_f (VC.to (w_spec_DecompositionWidth (plQuery y1) (plDec y2) (okQuery_strs k1) (hln _ p2)) (show _ = V.tup [.agg [.d (.int .i64 wx), .d (.int .i64 wy)], .d (.bool wk)] by rw [p1, p2]; exact hw)) (by simp [er_I, er_SI, er_Str, er_File, er_Tab, er_Db, er_Delta, er_Atom, er_VRel, eDec, eQuery, plDec, plI, plQuery, cP, pS, plI]) rfl fun hs3 hh3 => ?_
          try simp at hh3
          simp [s4_14, s4_16, cDec, cI, cQuery, cS, cI, cS]
          exact hK () _ trivial rfl rfl (by simp <;> omega) (by simp [cDec, cI, cQuery, cS, cI, cS]) (by simp [cDec, cI, cQuery, cS, cI, cS])
  intro _ hsw tw mw _ hhw
  simp [s4_14, s4_16, cDec, cI, cQuery, cS, cI, cS]
  refine call_some (w_laws_toQuery a k_a (by omega)) rfl (by simp) fun n4 hs4 r4 hn4 hm4 hp4 hr4 => ?_
  obtain ⟨y4, rfl, p4, k4, G4⟩ := hp4
  clear G4 hr4
  try simp at hn4
  simp [s4_14, s4_16, cDec, cI, cQuery, cS, cI, cS]
  refine call_some (w_laws_toDecomposition b k_b (by omega)) rfl (by simp) fun n5 hs5 r5 hn5 hm5 hp5 hr5 => ?_
  obtain ⟨y5, rfl, p5, k5, G5⟩ := hp5
  clear G5 hr5
  try simp at hn5
  simp [s4_14, s4_16, cDec, cI, cQuery, cS, cI, cS]
  refine call_f (VC.to (w_impl_DecompositionWidth (plQuery y4) (plDec y5) (hln _ p5)) (show _ = V.tup [.agg [.d (.int .i64 wx), .d (.int .i64 wy)], .d (.bool wk)] by rw [p4, p5]; exact hw)) (by simp [er_I, er_SI, er_Str, er_File, er_Tab, er_Db, er_Delta, er_Atom, er_VRel, eDec, eQuery, plDec, plI, plQuery, cP, pS, plI]) rfl fun hs6 hh6 => ?_
  try simp at hh6
  simp [s4_14, s4_16, cDec, cI, cQuery, cS, cI, cS]
  refine call_pure (w_laws_eqRational (⟨wx, wy⟩ : Go.Vs.Rat) ⟨wx, wy⟩ ⟨trivial, trivial⟩) (by rfl) (by simp) rfl fun hse hhe => ?_
  try simp at hhe
  simp [s4_14, s4_16, cDec, cI, cQuery, cS, cI, cS]
  refine call_some (w_laws_toQuery a k_a (by omega)) rfl (by simp) fun n7 hs7 r7 hn7 hm7 hp7 hr7 => ?_
  obtain ⟨y7, rfl, p7, k7, G7⟩ := hp7
  clear G7 hr7
  try simp at hn7
  simp [s4_14, s4_16, cDec, cI, cQuery, cS, cI, cS]
  refine call_pure (w_laws_eqQuery y4 y7 k4) rfl (by simp) rfl fun hs8 hh8 => ?_
  try simp at hh8
  simp [s4_14, s4_16, cDec, cI, cQuery, cS, cI, cS, p4, p7]
  refine call_some (w_laws_toDecomposition b k_b (by omega)) rfl (by simp) fun n9 hs9 r9 hn9 hm9 hp9 hr9 => ?_
  obtain ⟨y9, rfl, p9, k9, G9⟩ := hp9
  clear G9 hr9
  try simp at hn9
  simp [s4_14, s4_16, cDec, cI, cQuery, cS, cI, cS]
  refine call_pure (w_laws_eqDecomposition y5 y9 k5) rfl (by simp) rfl fun hs10 hh10 => ?_
  try simp at hh10
  simp [s4_14, s4_16, cDec, cI, cQuery, cS, cI, cS, p5, p9]

end Go.Proofs.YtpbcmlolapdfjaaDoor

