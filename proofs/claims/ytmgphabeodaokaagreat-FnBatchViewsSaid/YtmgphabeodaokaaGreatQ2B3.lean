/-
  Q2B3: a part of a proof of this seat: the value-level semantics of Go code without maps, its walk rules, the frame of a row, facts of types, schedules, walks, plain lemmas (W4 W5 W6 W7 W8 W9 M11 M12 W10 X1 X2 X3 X4 X5 X6 F1 G1 Z1 Z2 Z3 Z4 Z5 Z6 Z7 Z8 Z9 Z10 Z11 Z12 P3 S8 S7 Z13 LVM LBV). It holds of every program and state that its hypotheses name.
-/
import Derived.Test.YtmgphabeodaokaaGreatQ2B2
set_option linter.unusedSimpArgs false
set_option linter.unusedVariables false
set_option linter.unnecessarySimpa false
namespace Go.Proofs.YtmgphabeodaokaaGreat
open Go.Vs Go.Proofs Go
set_option maxRecDepth 100000
set_option maxHeartbeats 1000000

section
attribute [local simp] plI_id plStr_id map_plI map_plStr pS cP cI
theorem w_spec_IsQueryFor (d : PDb) (q : PQuery) (hst : ∀ t ∈ d.tabs, t.name.length ≤ maxLen) (hsq : ∀ a ∈ q.atoms, a.rel.length ≤ maxLen) : VC Tryz.prog 47 [.agg ((eDb d).map V.d), .agg ((eQuery q).map V.d)] (fun _ r => r = .d (.bool (qryFor d q))) := by
  obtain ⟨dl, hdl⟩ : ∃ dl, dl = d.tabs := ⟨_, rfl⟩
  have hde : (eDb d).map V.d = [V.d (.pl (dl.map eTab))] := by rw [hdl]; simp [eDb]
  have hqe : (eQuery q).map V.d = [V.d (.int .i64 q.n), V.d (.pl (q.atoms.map eAtom)), V.d (.pl (q.out.map cI))] := by simp [eQuery]
  refine VC.ofL EP s47 (by kernel_rfl) Tryz.func47 (by rfl) (by kernel_rfl) (by simp [Tryz.f47]) (by simp [Tryz.f47]) s47_ok fun B hl => ?_
  simp [hde, hqe, lnVL, V.ln, D.ln, maxLen] at hl
  simp [Tryz.f47, s47_4, s47_5, hde, hqe]
  refine loop_rule (X := Nat) (fun i => i ≤ q.atoms.length ∧ AllTo (fun a => lkB d a.rel && decide ((lkR d a.rel).ar = a.vars.length)) q.atoms i) (fun i => [(2, .ptr 2 0 0), (3, .ptr 3 0 0), (5, .d (.int .i64 i))])
    (fun i => [(2, some (.box [.d (.pl (dl.map eTab))])), (3, some (.box [.d (.int .i64 q.n), .d (.pl (q.atoms.map eAtom)), .d (.pl (q.out.map cI))]))]) (fun i => q.atoms.length - i) 0 ⟨by simp, allTo_zero⟩ (by simp) (by simp) ?_
  rintro i hs t m ⟨hi, hat⟩ hh
  by_cases hlt : i < q.atoms.length
  · have hwi := wr1 (i := i) (by omega)
    obtain ⟨⟨nm, vs⟩, ha⟩ : ∃ a, a = q.atoms[i] := ⟨_, rfl⟩
    have hnot := fun h => all_bad (l := q.atoms) (p := fun a => lkB d a.rel && decide ((lkR d a.rel).ar = a.vars.length)) hlt h
    have hst' := allTo_step hat hlt
    have hb : (q.atoms.all fun a => lkB d a.rel && decide ((lkR d a.rel).ar = a.vars.length)) = false → qryFor d q = false := fun h => by simp only [qryFor, h, Bool.and_false]
    rw [← ha] at hnot hst'
    simp [hlt, ← ha, s47_5, eAtom, cStr]
    refine cutT (X := Unit) (fun _ _ => True) (fun _ => [(2, .ptr 2 0 0), (3, .ptr 3 0 0), (5, .d (.int .i64 i)), (6, .ptr 6 0 0), (7, .d (.bool (lkB d nm)))])
      (fun _ => [(2, some (.box [.d (.pl (dl.map eTab))])), (3, some (.box [.d (.int .i64 q.n), .d (.pl (q.atoms.map eAtom)), .d (.pl (q.out.map cI))])), (6, some (.box ((eReln (lkR d nm)).map V.d)))]) ?_ ?_
    · intro K hK
      simp [hlt, ← ha, eAtom, cStr, s47_4, ]
      repeat' apply And.intro
      all_goals
        refine call_p (w_spec_LookupRelation d nm hst) (by simp [hde]) fun hs3 hh3 hl3 => ?_
        simp at hh3
        simp [eReln, s47_4, ]
        exact hK () _ trivial rfl rfl (by simp <;> omega) (by simp) (by simp [eReln])
    rintro ⟨⟩ hs3 t m - hh3
    cases hlk : lkB d nm
    · have := hb (hnot (by simp [hlk]))
      simp [this, eReln, s47_4, s47_5, ]
    by_cases har : (lkR d nm).ar = vs.length
    · simp [hwi, har, hlt, ← ha, eAtom, cStr, eReln, s47_4, s47_5, ]
      exact back (i + 1) ⟨by omega, hst' (by simp [hlk, har])⟩ (by omega) rfl (by simp <;> omega) (by simp) (by simp)
    · have := hb (hnot (by simp [hlk, har]))
      simp [this, har, hlt, ← ha, eAtom, cStr, eReln, s47_4, s47_5, ]
  · have := allTo_done hat (by omega)
    simp [hlt, s47_4, s47_5, ]
    refine call_f (w_spec_IsValidQuery q hsq) (by simp [hqe]) rfl fun hs1 hh1 => ?_
    simp at hh1
    cases hq : queryOk q
    · simp [qryFor, hq, s47_4, s47_5, ]
    simp [s47_4, s47_5, ]
    refine call_f (w_spec_IsValidDatabase d hst) (by simp [hde]) rfl fun hs2 hh2 => ?_
    simp at hh2
    simp [qryFor, hq, this, s47_4, s47_5, ]
theorem w_spec_l8Walk (d : PDb) (q : PQuery) (f : Qf d q) (hst : ∀ t ∈ d.tabs, t.name.length ≤ maxLen) (row : List Int) (hrow : row.length = q.n.toNat) : ∀ (k n : Nat), n + k = q.atoms.length → 
   VC Tryz.prog 113 [.agg ((eDb d).map V.d), .agg ((eQuery q).map V.d), .d (.int .i64 n), .d (pS cI row)] (fun _ r => r = .d (pS (cP cI) (walkL d (q.atoms.drop n) row))) := by
  obtain ⟨dl, hdl⟩ : ∃ dl, dl = d.tabs := ⟨_, rfl⟩
  have hde : (eDb d).map V.d = [V.d (.pl (dl.map eTab))] := by rw [hdl]; simp [eDb]
  have hqe : (eQuery q).map V.d = [V.d (.int .i64 q.n), V.d (.pl (q.atoms.map eAtom)), V.d (.pl (q.out.map cI))] := by simp [eQuery]
  intro k
  induction k generalizing row with
  | zero =>
    intro n hn
    refine VC.ofL EP s113 (by kernel_rfl) Tryz.func113 (by rfl) (by kernel_rfl) (by simp [Tryz.f113]) (by simp [Tryz.f113]) s113_ok fun B hl => ?_
    have hn : n = q.atoms.length := by omega
    subst hn
    simp [pS, lnVL, V.ln, D.ln] at hl
    have hn5 := f.n5
    have hL : LenOk 8 row.length := ⟨by omega, by simp only [maxLen]; omega⟩
    simp [Tryz.f113, s113_4, s113_14, hde, hqe, hL, List.take_of_length_le, walkL, List.drop_length]
  | succ k ih =>
    intro n hn
    have hlt : n < q.atoms.length := by omega
    have hmem := List.getElem_mem hlt
    obtain ⟨⟨nm, vs⟩, ha⟩ : ∃ a, a = q.atoms[n] := ⟨_, rfl⟩
    rw [← ha] at hmem
    have hlk := f.lk _ hmem
    have har := f.ar _ hmem
    have hvl := f.vlen _ hmem
    have hvi := f.vin _ hmem
    have hn5 := f.n5
    have ha4 := f.a4
    have hr16 := lk_rows hlk
    have hro := lk_ok hlk
    have hdr : q.atoms.drop n = ⟨nm, vs⟩ :: q.atoms.drop (n + 1) := by rw [ha]; exact List.drop_eq_getElem_cons hlt
    have hne : ¬ n = q.atoms.length := by omega
    have hwn := wr1 (i := n) (by omega)
    have h16 : ∀ a ∈ q.atoms.drop (n + 1), (lkR d a.rel).rows.length ≤ 16 := fun a h => lk_rows (f.lk a (List.mem_of_mem_drop h))
    have hd4 : (q.atoms.drop (n + 1)).length ≤ 4 := by rw [List.length_drop]; omega
    have hwa := fun (ts : List (List Int)) => wkF_all (d := d) (al := q.atoms.drop (n + 1)) (vs := vs) (row := row) (ts := ts) h16 hd4
    rw [hdr, walkL_cons]
    simp only at hlk har hvl hvi
    have hrl := fun (t : List Int) (ht : t ∈ (lkR d nm).rows) => (rowsOk_mem hro ht).1
    obtain ⟨R, hR⟩ : ∃ R, R = lkR d nm := ⟨_, rfl⟩
    simp only [← hR] at hrl hr16 har ⊢
    obtain ⟨ra, rl⟩ := R
    simp only at hrl hr16 har
    subst har
    refine VC.ofL EP s113 (by kernel_rfl) Tryz.func113 (by rfl) (by kernel_rfl) (by simp [Tryz.f113]) (by simp [Tryz.f113]) s113_ok fun B hl => ?_
    simp [Tryz.f113, s113_14, s113_14, hde, hqe, hlt, ← ha, hne]
    refine cutT (X := Unit) (fun _ _ => True) (fun _ => [(2, .d (.int .i64 n)), (3, .d (.pl (row.map cI))), (4, .ptr 4 0 0), (5, .ptr 5 0 0), (8, .d (.sl none none [])), (9, .own 26 0 0), (10, .ptr 10 0 0)])
      (fun _ => [(4, some (.box [.d (.pl (dl.map eTab))])), (5, some (.box [.d (.int .i64 q.n), .d (.pl (q.atoms.map eAtom)), .d (.pl (q.out.map cI))])), (10, some (.box [.d (.int .i64 vs.length), .d (.pl (rl.map (cP cI)))])), (26, some (.row 28 1 []))]) ?_ ?_
    · intro K hK
      simp [hlt, ← ha, eAtom, cStr, s113_4, ]
      repeat' apply And.intro
      all_goals
        refine call_p (w_spec_LookupRelation d nm hst) (by simp [hde]) fun hs1 hh1 hl1 => ?_
        simp at hh1
        simp [← hR, eReln, s113_4, ]
        exact hK () _ trivial rfl rfl (by simp <;> omega) (by simp) (by simp)
    rintro ⟨⟩ hs0 t m - hh0
    obtain ⟨G, hG⟩ : ∃ G : Nat → List (List Int), ∀ i, G i = (rl.take i).flatMap (wkF d (q.atoms.drop (n + 1)) vs row) := ⟨_, fun _ => rfl⟩
    have hG0 : G 0 = [] := by rw [hG]; rfl
    have hGs : ∀ i (h : i < rl.length), G (i + 1) = G i ++ wkF d (q.atoms.drop (n + 1)) vs row rl[i] := fun i h => by rw [hG, hG]; exact flatMap_succ h
    have hGe : rl.flatMap (wkF d (q.atoms.drop (n + 1)) vs row) = G rl.length := by rw [hG, List.take_of_length_le (Nat.le_refl _)]
    have hGl : ∀ i, (G i).length ≤ min i rl.length * 65536 := fun i => by have := hwa (rl.take i); rwa [List.length_take, ← hG] at this
    rw [hGe]
    simp [s113_4, s113_14, ]
    refine loop_rule (X := Nat) (fun i => i ≤ rl.length) (fun i => [(2, .d (.int .i64 n)), (3, .d (.pl (row.map cI))), (4, .ptr 4 0 0), (5, .ptr 5 0 0), (8, .d (.sl none none [])), (9, .own 26 0 (G i).length), (10, .ptr 10 0 0), (12, .d (.int .i64 i))])
      (fun i => [(4, some (.box [.d (.pl (dl.map eTab))])), (5, some (.box [.d (.int .i64 q.n), .d (.pl (q.atoms.map eAtom)), .d (.pl (q.out.map cI))])), (10, some (.box [.d (.int .i64 vs.length), .d (.pl (rl.map (cP cI)))])), (26, some (.row 28 1 ((G i).map (cP cI))))]) (fun i => rl.length - i) 0 (by simp) (by simp [hG0]) (by simp [hG0]) ?_
    intro i hs t m hi hh
    by_cases hil : i < rl.length
    · have hwi := wr1 (i := i) (by omega)
      have htl := hrl _ (List.getElem_mem hil)
      obtain ⟨tt, ht⟩ : ∃ tt, tt = rl[i] := ⟨_, rfl⟩
      have hsu := hGs i hil
      have hln := hGl i
      rw [← ht] at htl hsu
      obtain ⟨O, hO⟩ : ∃ O, O = G i := ⟨_, rfl⟩
      rw [← hO] at hsu hln ⊢
      have hLr : LenOk 8 row.length := ⟨by omega, by simp only [maxLen]; omega⟩
      simp [hil, hLr, List.take_of_length_le, s113_4, s113_14, ]
      refine loop_rule (X := Nat × List Int × Bool) (fun p => AsS row vs tt p.1 p.2.1 p.2.2) (fun p => [(2, .d (.int .i64 n)), (3, .d (.pl (row.map cI))), (4, .ptr 4 0 0), (5, .ptr 5 0 0), (8, .d (.sl none none [])), (9, .own 26 0 O.length), (10, .ptr 10 0 0), (12, .d (.int .i64 i)), (13, .own 45 0 row.length), (14, .d (.bool p.2.2)), (15, .d (.int .i64 p.1))])
        (fun p => [(4, some (.box [.d (.pl (dl.map eTab))])), (5, some (.box [.d (.int .i64 q.n), .d (.pl (q.atoms.map eAtom)), .d (.pl (q.out.map cI))])), (10, some (.box [.d (.int .i64 vs.length), .d (.pl (rl.map (cP cI)))])), (26, some (.row 28 1 (O.map (cP cI)))), (45, some (.row 3 1 (p.2.1.map cI)))]) (fun p => vs.length - p.1) (0, row, true) .zero (by simp) (by simp) ?_
      rintro ⟨j, x, fits⟩ hs4 t m hA hh4
      simp only at hA
      have hle := hA.le
      have hxl := hA.len
      by_cases hc : fits = true ∧ j < vs.length
      · obtain ⟨rfl, hjl⟩ := hc
        have hwj := wr1 (i := j) (by omega)
        have hvj := hvi _ (List.getElem_mem hjl)
        have hjt : j < tt.length := by omega
        have hsp := hA.step hjl hjt
        obtain ⟨v, hv⟩ : ∃ v : Nat, vs[j] = (v : Int) := ⟨vs[j].toNat, by omega⟩
        have hvx : v < x.length := by omega
        rw [hv, Int.toNat_natCast, getD_el _ hvx] at hsp
        by_cases h1 : x[v] = -1
        · simp only [h1, true_or, decide_true] at hsp
          rw [hxl] at hvx
          simp [hjl, hv, h1, hlt, ← ha, ← ht, eAtom, hwj, hvx, hjt, hil, hxl, -List.map_set, s113_4, s113_14, ]
          exact back (j + 1, x.set v tt[j], true) hsp (by simp only; omega) rfl (by simp <;> omega) (by simp) (by simp)
        · simp only [h1, false_or] at hsp
          rw [hxl] at hvx
          simp [hjl, hv, h1, hlt, ← ha, ← ht, eAtom, hwj, hvx, hjt, hil, hxl, -List.map_set, s113_4, s113_14, ]
          exact back (j + 1, x.set v tt[j], decide (x[v] = tt[j])) hsp (by simp only; omega) rfl (by simp <;> omega) (by simp) (by simp)
      · have hdn := hA.done (fun h => Nat.le_of_not_lt fun h2 => hc ⟨h, h2⟩)
        cases fits
        · by_cases hjl : j < vs.length
          · simp [hjl, hwi, s113_4, s113_14, ]
            exact back (i + 1) (by omega) (by omega) rfl (by simp <;> omega) (by simp [hsu, wkF, hdn]) (by simp [hsu, wkF, hdn])
          · simp [hjl, hwi, s113_4, s113_14, ]
            exact back (i + 1) (by omega) (by omega) rfl (by simp <;> omega) (by simp [hsu, wkF, hdn]) (by simp [hsu, wkF, hdn])
        · have hjl : ¬ j < vs.length := fun h => hc ⟨rfl, h⟩
          simp [hjl, hwi, hwn, s113_4, s113_14, ]
          have hx2 : (x.map cI).take row.length = x.map cI := List.take_of_length_le (by simp [hxl])
          have hwl := wkF_len (d := d) (al := q.atoms.drop (n + 1)) (vs := vs) (row := row) (t := tt) h16 hd4
          rw [if_pos rfl] at hdn
          have hwe : wkF d (q.atoms.drop (n + 1)) vs row tt = walkL d (q.atoms.drop (n + 1)) x := by rw [wkF, hdn]
          rw [hwe] at hsu hwl
          have hLw : LenOk 24 (O.length + (walkL d (q.atoms.drop (n + 1)) x).length) := ⟨by omega, by simp only [maxLen]; omega⟩
          refine call_p (ih x (by omega) (n + 1) (by omega)) (by simp [hde, hqe, hx2, show row.length ≤ x.length by omega]) fun hs5 hh5 hl5 => ?_
          simp at hh5
          simp [hwi, hLw, s113_4, s113_14, ]
          exact back (i + 1) (by omega) (by omega) rfl (by simp <;> omega) (by simp [hsu]) (by simp [hsu, List.take_of_length_le])
    · have hn : i = rl.length := by omega
      subst hn
      obtain ⟨O, hO⟩ : ∃ O, O = G rl.length := ⟨_, rfl⟩
      rw [← hO]
      simp [List.take_of_length_le, s113_4, s113_14, ]
theorem w_spec_AllBindings (d : PDb) (q : PQuery) (hst : ∀ t ∈ d.tabs, t.name.length ≤ maxLen) (hsq : ∀ a ∈ q.atoms, a.rel.length ≤ maxLen) : VC Tryz.prog 73 [.agg ((eDb d).map V.d), .agg ((eQuery q).map V.d)] (fun _ r => r = .agg ((eReln (abP d q)).map V.d)) := by
  obtain ⟨dl, hdl⟩ : ∃ dl, dl = d.tabs := ⟨_, rfl⟩
  have hde : (eDb d).map V.d = [V.d (.pl (dl.map eTab))] := by rw [hdl]; simp [eDb]
  have hqe : (eQuery q).map V.d = [V.d (.int .i64 q.n), V.d (.pl (q.atoms.map eAtom)), V.d (.pl (q.out.map cI))] := by simp [eQuery]
  refine VC.ofL EP s73 (by kernel_rfl) Tryz.func73 (by rfl) (by kernel_rfl) (by simp [Tryz.f73]) (by simp [Tryz.f73]) s73_ok fun B hl => ?_
  simp [Tryz.f73, s73_6, hde, hqe]
  refine call_f (w_spec_IsQueryFor d q hst hsq) (by simp [hde, hqe]) rfl fun hs1 hh1 => ?_
  simp at hh1
  cases hqf : qryFor d q
  · simp [abP, hqf, eReln, s73_6, ]
  have f := qf_of hqf
  have hn5 := f.n5
  obtain ⟨N, hN⟩ : ∃ N : Nat, q.n = (N : Int) := ⟨q.n.toNat, by omega⟩
  have hNt : q.n.toNat = N := by omega
  have hwm := fun z => (walk_mem f z).1
  have hws : (walkL d q.atoms (List.replicate q.n.toNat (-1))).length ≤ 65536 := by
    refine Nat.le_trans (walk_size _ _ fun a ha => lk_rows (f.lk a ha)) ?_
    have : 16 ^ q.atoms.length ≤ 16 ^ 4 := Nat.pow_le_pow_right (by omega) f.a4.2
    simpa using this
  have hwk := w_spec_l8Walk d q f hst (List.replicate q.n.toNat (-1)) (by simp) q.atoms.length 0 (by omega)
  rw [List.drop_zero] at hwk
  have hab : abP d q = newR q.n (walkL d q.atoms (List.replicate q.n.toNat (-1))) := by simp only [abP, hqf, if_true]
  rw [hab]
  rw [hNt] at hwm hws hwk ⊢
  obtain ⟨W, hW⟩ : ∃ W, W = walkL d q.atoms (List.replicate N (-1)) := ⟨_, rfl⟩
  rw [← hW] at hwm hws hwk ⊢
  simp [s73_6, ]
  refine loop_rule (X := Nat) (fun i => i ≤ N) (fun i => [(2, .ptr 2 0 0), (3, .ptr 3 0 0), (4, .ptr 4 0 0), (5, .own 13 0 i)])
    (fun i => [(2, some (.box [.d (.pl (dl.map eTab))])), (3, some (.box [.d (.int .i64 q.n), .d (.pl (q.atoms.map eAtom)), .d (.pl (q.out.map cI))])), (4, some (.box [.d (.int .i64 0), .d (.sl none none [])])), (13, some (.row 3 1 ((List.replicate i (-1)).map cI)))]) (fun i => N - i) 0 (by simp) (by simp) (by simp) ?_
  intro i hs t m hi hh
  by_cases hlt : i < N
  · have hL : LenOk 8 (i + 1) := ⟨by omega, by simp only [maxLen]; omega⟩
    have hli : (i : Int) < q.n := by omega
    simp [hli, hL, List.take_of_length_le, s73_6, ]
    exact back (i + 1) (by omega) (by omega) rfl (by simp <;> omega) (by simp) (by simp [List.replicate_succ'])
  · have hn : i = N := by omega
    subst hn
    have hli : ¬ (i : Int) < q.n := by omega
    simp [hli, ]
    refine cutT (X := Unit) (fun _ _ => True) (fun _ => [(4, .ptr 4 0 0), (6, .ptr 6 0 0), (7, .d (.bool (newB q.n W)))])
      (fun _ => [(4, some (.box [.d (.int .i64 0), .d (.sl none none [])])), (6, some (.box ((eReln (newR q.n W)).map V.d)))]) ?_ ?_
    · intro K hK
      simp [s73_6, ]
      repeat' apply And.intro
      all_goals
        refine call_p hwk (by simp [hde, hqe, List.take_of_length_le]) fun hs3 hh3 hl3 => ?_
        simp at hh3
        simp [s73_6, ]
        repeat' apply And.intro
        all_goals
          refine call_p (w_spec_NewRelation q.n W (by omega) (fun x hx => by have := (hwm x hx).1; omega)) (by simp) fun hs4 hh4 hl4 => ?_
          simp at hh4
          simp [eReln, s73_6, ]
          exact hK () _ trivial rfl rfl (by simp <;> omega) (by simp) (by simp [eReln])
    rintro ⟨⟩ hs3 t m - hh3
    cases hnb : newB q.n W
    · simp [eReln, newR, hnb, s73_6, ]
    · simp [eReln, s73_6, ]
end

end Go.Proofs.YtmgphabeodaokaaGreat


namespace Go.Proofs.YtmgphabeodaokaaGreat
open Go.Vs Go.Proofs Go
set_option maxRecDepth 100000
set_option maxHeartbeats 1000000

section
attribute [local simp] plI_id plStr_id map_plI map_plStr
theorem e_impl_copyQuery (q : PQuery) (h1 : q.atoms.length ≤ 1000) (h2 : ∀ a ∈ q.atoms, a.vars.length ≤ 1000) (h3 : q.out.length ≤ 1000) (hst : ∀ a ∈ q.atoms, a.rel.length ≤ maxLen) : VC Tryz.prog 60 [.agg ((eQuery q).map V.d)]
   (fun n v => ∃ y : Query, v = .agg ((cQuery y).map V.d) ∧ plQuery y = q ∧ okQuery y ∧ Good (cQuery y) (whQuery y) n) := by
  refine VC.of E s60 (by kernel_rfl) Tryz.func60 (by rfl) (by kernel_rfl) (by simp [Tryz.f60]) (by simp [Tryz.f60]) s60_ok fun B => ?_
  obtain ⟨qn, l, qo⟩ := q
  simp only at h1 h2 h3 hst
  simp [Tryz.f60, s60_5, s60_5, eQuery, pS, cI, cP]
  refine cutT (X := Ints) (fun y0 hs => plS plI y0 = qo ∧ okS okI y0 ∧ Good (cS cI y0) (whS whI y0) B ∧ ∀ g ∈ idsL (cS cI y0), g < hs) (fun _ => [(1, .ptr 1 0 0), (2, .ptr 2 0 0), (3, .ptr 3 0 0)])
    (fun y0 => [(1, some (.box [.d (.int .i64 qn), .d (.pl (l.map eAtom)), .d (.pl (qo.map cI))])), (2, some (.box [.d (.int .i64 0), .d (.sl none none []), .d (.sl none none [])])), (3, some (.box [.d (.int .i64 qn), .d (.sl none none []), .d (dSl cI y0)]))]) ?_ ?_
  · intro K hK
    simp [s60_1, ]
    repeat' apply And.intro
    all_goals
      refine call_some (e_impl_copyInts qo (by omega)) (by simp [pS, cI]) (by simp) fun n1 hs1 r1 hn1 hm1 hp1 hr1 => ?_
      obtain ⟨y0, rfl, p0, k0, G0⟩ := hp1
      simp at hn1
      have u0 : ∀ g ∈ idsL (cS cI y0), g < hs1 := fun g hg => hr1 g (by rw [idsL_cS] at hg; exact hg)
      simp [s60_1, ]
      exact hK y0 _ ⟨p0, k0, G0.le (by omega), u0⟩ rfl rfl (by simp <;> omega) (by simp) (by simp)
  rintro y0 hs0 t m ⟨p0, k0, G0, u0⟩ hh0
  simp [s60_1, s60_5, ]
  refine loop_ruleL (X := Nat × List Atom) (CopI cAtom whAtom okAtom plAtom l hs0) (fun p => [(1, .ptr 1 0 0), (2, .ptr 2 0 0), (3, .ptr 3 0 0), (13, .d (.pl (l.map eAtom))), (14, .d (.int .i64 l.length)), (15, .d (.int .i64 p.1))]) (fun p => [(2, some (.box [.d (.int .i64 0), .d (.sl none none []), .d (.sl none none [])])), (3, some (.box [.d (.int .i64 qn), .own 28 0 p.2.length, .d (dSl cI y0)])), (28, some (.row 78 2 (p.2.map cAtom)))]) (fun p => l.length - p.1) ?_ ?_
  · refine (lead_box 3 1 28 78 2 [.d (.int .i64 qn), .d (.sl none none []), .d (dSl cI y0)] (by omega) (by omega) (by omega) (by simp) rfl).bind ?_
    rintro _ rfl
    exact Lead.of ⟨(0, []), .zero, rfl, rfl, Nat.le_refl _, by simp, by simp⟩
  rintro ⟨i, ys⟩ hs t m hI hh
  have hle := hI.le
  have hyl := hI.len
  simp only at hle
  by_cases hlt : i < l.length
  · have hwi := wr1 (i := i) (by omega)
    have hL : LenOk 40 (ys.length + 1) := ⟨by omega, by simp only [maxLen]; omega⟩
    have hr := h2 _ (List.getElem_mem hlt)
    have hn := hst _ (List.getElem_mem hlt)
    obtain ⟨nm, vs, hT⟩ : ∃ nm vs, l[i] = ⟨nm, vs⟩ := ⟨_, _, rfl⟩
    rw [hT] at hr hn
    simp only at hr hn
    refine anyQ2 fun Q => ?_
    simp [hlt, hT, s60_1, s60_5, eAtom, cStr, cI, cP, pS]
    repeat' apply And.intro
    all_goals
      refine call_some (e_impl_copyInts vs (by omega)) (by simp [pS, cI]) (by simp) fun n1 hs1 r1 hn1 hm1 hp1 hr1 => ?_
      obtain ⟨y, rfl, p1, k1, G1⟩ := hp1
      simp at hn1
      have u1 : ∀ g ∈ idsL (cAtom ⟨nm, y⟩), g < hs1 := fun g hg => hr1 g (by
        rw [cAtom, idsL_app] at hg
        have := (List.mem_append.1 hg).resolve_left (by simp [cStr, idsL, D.ids])
        rw [idsL_cS] at this; exact this)
      have Ga : Good (cAtom ⟨nm, y⟩) (whAtom ⟨nm, y⟩) n1 := Good.app (good_Str n1 nm) G1 fun g h h' => by simp [cStr, idsL, D.ids] at h
      simp [hL, hwi, s60_1, s60_5, ]
      exact back2 (i + 1, ys ++ [⟨nm, y⟩]) (hI.snoc hlt (by rw [hT]; simp only [plAtom, p1]; rfl) (show okAtom (⟨nm, y⟩ : Atom) from ⟨hn, k1⟩) (by omega) hm1 Ga u1) (by simp only; omega) rfl (by simp <;> omega) (by simp) (by simp [cAtom, cStr, cS])
  · have hall := hI.all (by omega)
    simp [hlt, s60_1, s60_5, ]
    intro γ hs' h1' hg
    obtain ⟨q1, q2⟩ := gam_at hg (k := 28) (T := 78) (sz := 2) (es := ys.map cAtom) (by simp)
    have q3 := gam_row hg (k := 28) (T := 78) (sz := 2) (es := ys.map cAtom) (by simp)
    have qf : ∀ g, γ 28 = some g → g ∉ (dSl cI y0).ids := fun g hγ => by
      have hb := (hg.fr 28 78 2 _ g (by simp; rfl) hγ).1.box 3 [.d (.int .i64 qn), .own 28 0 ys.length, .d (dSl cI y0)] (by simp)
      simpa [V.ids, idsVL, D.ids, idsLL] using hb
    clear hg
    have hG := hI.good
    have K2 : Good (cS cAtom ⟨γ 28, some (78, 2), ys⟩) (whS whAtom ⟨γ 28, some (78, 2), ys⟩) B := good_row (fun g hg => (q1 g hg).1) (by simpa using q2) q3 ⟨hG.nd, fun g hg => Nat.le_trans hh0 (hG.lo g hg)⟩ hG.wh
    refine ⟨⟨qn, ⟨γ 28, some (78, 2), ys⟩, y0⟩, by simp [cQuery, cS, cI, dSl, List.take_of_length_le], ?_, ⟨trivial, ⟨by simp only [maxLen]; show ys.length ≤ _; omega, hI.ok⟩, k0⟩, ?_⟩
    · simp only [plQuery, plS, hall]
      have := p0; simp only [plS] at this; rw [this, plI_id]
    · have K1 := Good.app (good_I B qn) K2 (fun g h h' => by simp [cI, idsL, D.ids] at h)
      have K := Good.app K1 G0 (fun g h h' => by
        have h0 := u0 g h'
        rw [idsL_app] at h
        rcases List.mem_append.1 h with h | h
        · simp [cI, idsL, D.ids] at h
        · rw [idsL_cS] at h h'
          simp only [dSl, D.ids, List.mem_append] at h
          rcases h with h | h
          · exact qf g (by cases hk : γ 28 with
              | none => rw [hk] at h; simp at h
              | some z => rw [hk] at h; simp at h; rw [h]) h'
          · have := hG.lo g h; omega)
      exact ⟨K.nd, K.lo, K.wh.1.1, K.wh.1.2, K.wh.2⟩
theorem good_View0 (B : Nat) : Good (cView ⟨⟨0, nilS, nilS⟩, ⟨0, nilS, nilS⟩⟩) (whView ⟨⟨0, nilS, nilS⟩, ⟨0, nilS, nilS⟩⟩) B :=
  ⟨by simp [cView, cQuery, cCnt, nilS, cS, cI, dSl, idsL, D.ids, idsLL], by simp [cView, cQuery, cCnt, nilS, cS, cI, dSl, idsL, D.ids, idsLL], ⟨⟨trivial, ⟨⟨by simp [nilS], by simp [nilS]⟩, by simp [nilS]⟩, ⟨⟨by simp [nilS], by simp [nilS]⟩, by simp [nilS]⟩⟩, trivial, ⟨⟨by simp [nilS], by simp [nilS]⟩, by simp [nilS]⟩, ⟨⟨by simp [nilS], by simp [nilS]⟩, by simp [nilS]⟩⟩⟩
theorem e_impl_CountedFromRelation (a : PReln) : VC Tryz.prog 70 [.agg ((eReln a).map V.d)]
   (fun n r => ∃ y : Cnt, r = .tup [.agg ((cCnt y).map V.d), .d (.bool (rowsOk a.ar a.rows))] ∧ plCnt y = cntOf a ∧ okCnt y ∧ Good (cCnt y) (whCnt y) n) := by
  refine VC.untrack (t_impl_CountedFromRelation ⟨0, nilS⟩ ⟨trivial, ok_nilS⟩) (pn_agg (pn_eReln a)) fun As h1 h2 h3 => ?_
  obtain ⟨x, rfl, hx, tx, lx⟩ := rp_args1 h1 h2 h3
  obtain ⟨s, rfl, e1⟩ := rp_agg tk_Reln hx tx
  have := t_impl_CountedFromRelation s (okReln_ln (lnVL_d _ (by simpa only [V.ln] using lx)))
  rw [e1] at this
  exact this
theorem e_impl_ProjectCounted (a : PCnt) (c : List Int) : VC Tryz.prog 71 [.agg ((eCnt a).map V.d), .d (pS cI c)]
   (fun n r => ∃ y : Cnt, r = .tup [.agg ((cCnt y).map V.d), .d (.bool (projB a c))] ∧ plCnt y = projP a c ∧ okCnt y ∧ Good (cCnt y) (whCnt y) n) := by
  refine VC.untrack (t_impl_ProjectCounted ⟨0, nilS, nilS⟩ nilS ⟨trivial, ok_nilS, ok_nilS⟩ ok_nilS) (by have := pn_agg (pn_eCnt a); simp only [pnVL, Bool.and_true] at this ⊢; rw [this]; simp [pS, V.pn, D.pn]) fun As h1 h2 h3 => ?_
  obtain ⟨x, y, rfl, ⟨hx, tx, lx⟩, hy, ty, ly⟩ := rp_args2 h1 h2 h3
  obtain ⟨s, rfl, e1⟩ := rp_agg tk_Cnt hx tx
  obtain ⟨t, rfl, e2⟩ := rp_sl tk_I hy ty
  have := t_impl_ProjectCounted s t (okCnt_ln (lnVL_d _ (by simpa only [V.ln] using lx))) (ok_ln (c := cI) ok_lnI (by simpa [V.ln, cS, lnL] using ly))
  rw [e1, e2] at this
  exact this
theorem e_impl_NewView (d : PDb) (q : PQuery) (hst : ∀ a ∈ q.atoms, a.rel.length ≤ maxLen) : VC Tryz.prog 19 [.agg ((eDb d).map V.d), .agg ((eQuery q).map V.d)]
   (fun n v => ∃ y : View, v = .tup [.agg ((cView y).map V.d), .d (.bool (nvB d q))] ∧ plView y = nvP d q ∧ okView y ∧ Good (cView y) (whView y) n) := by
  obtain ⟨dl, hdl⟩ : ∃ dl, dl = d.tabs := ⟨_, rfl⟩
  have hde : (eDb d).map V.d = [V.d (.pl (dl.map eTab))] := by rw [hdl]; simp [eDb, pS, cP]
  have hqe : (eQuery q).map V.d = [V.d (.int .i64 q.n), V.d (.pl (q.atoms.map eAtom)), V.d (.pl (q.out.map cI))] := by simp [eQuery, cI, cP, pS]
  refine VC.of E s19 (by kernel_rfl) Tryz.func19 (by rfl) (by kernel_rfl) (by simp [Tryz.f19]) (by simp [Tryz.f19]) s19_ok fun B => ?_
  simp [Tryz.f19, s19_8, hde, hqe]
  refine call_p (w_impl_bindings d q) (by simp [hde, hqe]) fun hs1 hh1 hl1 => ?_
  simp at hh1
  cases hb : bdB d q
  · simp [eReln, cI, cP, pS, s19_8, ]
    have hn : nvB d q = false := by simp only [nvB, hb, Bool.false_and]
    exact ⟨⟨⟨0, nilS, nilS⟩, ⟨0, nilS, nilS⟩⟩, ⟨by simp [cView, cQuery, cCnt, nilS, cS, cI, dSl], hn⟩, by simp only [nvP, hn]; rfl, ⟨⟨trivial, ok_nilS, ok_nilS⟩, trivial, ok_nilS, ok_nilS⟩, good_View0 B⟩
  simp [eReln, cI, cP, pS, s19_8, ]
  refine call_some ((e_impl_CountedFromRelation (bdP d q)).er (by simp [eReln, cI, cP, pS])) (by simp) (by simp) fun n1 hs2 r1 hn1 hm1 hp1 hr1 => ?_
  obtain ⟨⟨xa, xr, xc⟩, rfl, p1, k1, G1⟩ := hp1
  simp at hn1
  simp [cCnt, cS, cI, dSl, s19_8, ]
  refine call_some ((e_impl_ProjectCounted (cntOf (bdP d q)) q.out).er (by rw [← p1]; simp [eCnt, plCnt, er_SI, er_I, cS, cP, pS, erLL_map (er_cS er_cI), erLL_map er_cI, plS])) (by simp) (by simp) fun n2 hs3 r2 hn2 hm2 hp2 hr2 => ?_
  obtain ⟨⟨ya, yr, yc⟩, rfl, p2, k2, G2⟩ := hp2
  simp at hn2
  have u2 : ∀ g ∈ idsL (cCnt ⟨ya, yr, yc⟩), g < hs3 := fun g hg => hr2 g (by rw [← ids_agg] at hg; simp [V.ids, idsVL] at hg ⊢; exact hg)
  cases hj : projB (cntOf (bdP d q)) q.out
  · simp [cCnt, cS, cI, dSl, s19_8, ]
    have hn : nvB d q = false := by simp only [nvB, hj, Bool.and_false]
    exact ⟨⟨⟨0, nilS, nilS⟩, ⟨0, nilS, nilS⟩⟩, ⟨by simp [cView, cQuery, cCnt, nilS, cS, cI, dSl], hn⟩, by simp only [nvP, hn]; rfl, ⟨⟨trivial, ok_nilS, ok_nilS⟩, trivial, ok_nilS, ok_nilS⟩, good_View0 B⟩
  have hn : nvB d q = true := by simp only [nvB, hb, hj, Bool.and_true]
  simp [cCnt, cS, cI, dSl, s19_8, ]
  have f : Qf d q := qf_of (by cases h : qryFor d q with | true => rfl | false => simp [bdB, h] at hb)
  have ho : q.out.length ≤ 1000 := by have := f.out5; omega
  repeat' apply And.intro
  all_goals
    refine call_some ((e_impl_copyQuery q (by have := f.a4; omega) (fun a h => by have := f.vlen a h; omega) ho hst).er (by simp [hqe])) (by simp) (by simp) fun n3 hs4 r3 hn3 hm3 hp3 hr3 => ?_
    obtain ⟨⟨za, zr, zc⟩, rfl, p3, k3, G3⟩ := hp3
    simp at hn3
    simp [cQuery, cS, cI, dSl, s19_8, ]
    refine ⟨⟨⟨za, zr, zc⟩, ⟨ya, yr, yc⟩⟩, ⟨by simp [cView, cQuery, cCnt, cS, cI, dSl], hn⟩, by simp only [nvP, nvR, hn, if_true, plView, p2, p3], ⟨k3, k2⟩, ?_⟩
    exact Good.app (G3.le (by omega)) (G2.le (by omega)) fun g h h' => by
      have := u2 g h'; have := G3.lo g h; omega
end

end Go.Proofs.YtmgphabeodaokaaGreat


namespace Go.Proofs.YtmgphabeodaokaaGreat
open Go.Vs Go.Proofs Go
set_option maxRecDepth 100000
set_option maxHeartbeats 1000000

section
attribute [local simp] plI_id plStr_id map_plI map_plStr
theorem nvR_false {d : PDb} {q : PQuery} (h : nvB d q = false) : nvR d q = ⟨0, [], []⟩ := by simp [nvR, h]
theorem nvR_out {d : PDb} {q : PQuery} (h : bdB d q = true) : nvR d q = projP (cntOf (bdP d q)) q.out := by
  cases hp : projB (cntOf (bdP d q)) q.out
  · simp [nvR, nvB, hp, projP]
  · simp [nvR, nvB, h, hp]
theorem w_spec_l28Z (d : PDb) (q : PQuery) (hst : ∀ t ∈ d.tabs, t.name.length ≤ maxLen) (hsq : ∀ a ∈ q.atoms, a.rel.length ≤ maxLen) : VC Tryz.prog 64 [.agg ((eDb d).map V.d), .agg ((eQuery q).map V.d)] (fun _ r => r = .tup [.agg ((eCnt (nvR d q)).map V.d), .d (.bool (nvB d q))]) := by
  obtain ⟨dl, hdl⟩ : ∃ dl, dl = d.tabs := ⟨_, rfl⟩
  have hde : (eDb d).map V.d = [V.d (.pl (dl.map eTab))] := by rw [hdl]; simp [eDb, pS, cP]
  have hqe : (eQuery q).map V.d = [V.d (.int .i64 q.n), V.d (.pl (q.atoms.map eAtom)), V.d (.pl (q.out.map cI))] := by simp [eQuery, cI, cP, pS]
  have hab := ab_ar d q
  refine VC.ofL EP s64 (by kernel_rfl) Tryz.func64 (by rfl) (by kernel_rfl) (by simp [Tryz.f64]) (by simp [Tryz.f64]) s64_ok fun B hl => ?_
  simp [Tryz.f64, hde, hqe]
  refine call_p (w_spec_AllBindings d q hst hsq) (by simp [hde, hqe]) fun hs1 hh1 hl1 => ?_
  simp at hh1
  rw [ab_bd] at hab ⊢
  simp [eReln, cI, cP, pS, ]
  refine call_f (w_spec_IsQueryFor d q hst hsq) (by simp [hde, hqe]) rfl fun hs2 hh2 => ?_
  simp at hh2
  cases hqf : qryFor d q
  · have hb : bdB d q = false := by rw [← hab, hqf]; rfl
    have hn : nvB d q = false := by simp only [nvB, hb, Bool.false_and]
    simp [hn, nvR_false hn, eCnt, cI, cP, pS, ]
  by_cases har : (bdP d q).ar = q.n
  · have hb : bdB d q = true := by rw [← hab, hqf]; simp [har]
    have hn : nvB d q = projB (cntOf (bdP d q)) q.out := by simp only [nvB, hb, Bool.true_and]
    simp [har, ]
    refine call_p (w_spec_CountedFromRelation (bdP d q)) (by simp [eReln, cI, cP, pS, har]) fun hs3 hh3 hl3 => ?_
    simp at hh3
    simp [eCnt, cI, cP, pS, ]
    refine call_p (w_spec_ProjectCounted (cntOf (bdP d q)) q.out (by have := (qf_of hqf).out5; omega)) (by simp [eCnt, cI, cP, pS]) fun hs4 hh4 hl4 => ?_
    simp at hh4
    simp [eCnt, cI, cP, pS, hn, nvR_out hb, ]
  · have hb : bdB d q = false := by rw [← hab, hqf]; simp [har]
    have hn : nvB d q = false := by simp only [nvB, hb, Bool.false_and]
    simp [har, hn, nvR_false hn, eCnt, cI, cP, pS, ]
def ivB (d : PDb) (v : PView) : Bool := nvB d v.q && decide (nvR d v.q = v.r)
theorem w_spec_IsValidView (d : PDb) (v : PView) (hst : ∀ t ∈ d.tabs, t.name.length ≤ maxLen) (hsq : ∀ a ∈ v.q.atoms, a.rel.length ≤ maxLen) : VC Tryz.prog 17 [.agg ((eDb d).map V.d), .agg ((eView v).map V.d)] (fun _ r => r = .d (.bool (ivB d v))) := by
  obtain ⟨dl, hdl⟩ : ∃ dl, dl = d.tabs := ⟨_, rfl⟩
  have hde : (eDb d).map V.d = [V.d (.pl (dl.map eTab))] := by rw [hdl]; simp [eDb, pS, cP]
  have hqe : (eQuery v.q).map V.d = [V.d (.int .i64 v.q.n), V.d (.pl (v.q.atoms.map eAtom)), V.d (.pl (v.q.out.map cI))] := by simp [eQuery, cI, cP, pS]
  have hve : (eView v).map V.d = [V.d (.int .i64 v.q.n), V.d (.pl (v.q.atoms.map eAtom)), V.d (.pl (v.q.out.map cI)), V.d (.int .i64 v.r.ar), V.d (.pl (v.r.rows.map (cP cI))), V.d (.pl (v.r.cs.map cI))] := by simp [eView, eQuery, eCnt, cI, cP, pS]
  refine VC.ofL EP s17 (by kernel_rfl) Tryz.func17 (by rfl) (by kernel_rfl) (by simp [Tryz.f17]) (by simp [Tryz.f17]) s17_ok fun B hl => ?_
  simp [Tryz.f17, hde, hve]
  refine call_p (w_spec_l28Z d v.q hst hsq) (by simp [hde, hqe]) fun hs1 hh1 hl1 => ?_
  simp at hh1
  cases hn : nvB d v.q
  · simp [ivB, hn, eCnt, cI, cP, pS, ]
  simp [eCnt, cI, cP, pS, ]
  refine call_f (w_spec_EqualCounted (nvR d v.q) v.r) (by simp [eCnt, cI, cP, pS]) rfl fun hs2 hh2 => ?_
  simp [ivB, hn, ]
theorem p_impl_NewView (d : PDb) (q : PQuery) (hst : ∀ a ∈ q.atoms, a.rel.length ≤ maxLen) : VC Tryz.prog 19 [.agg ((eDb d).map V.d), .agg ((eQuery q).map V.d)]
   (fun _ v => v = .tup [.agg ((eView (nvP d q)).map V.d), .d (.bool (nvB d q))]) :=
  VC.plain2 er_cView (e_impl_NewView d q hst)
theorem w_impl_IsValidView (d : PDb) (v : PView) (hsq : ∀ a ∈ v.q.atoms, a.rel.length ≤ maxLen) : VC Tryz.prog 16 [.agg ((eDb d).map V.d), .agg ((eView v).map V.d)] (fun _ r => r = .d (.bool (ivB d v))) := by
  obtain ⟨dl, hdl⟩ : ∃ dl, dl = d.tabs := ⟨_, rfl⟩
  have hde : (eDb d).map V.d = [V.d (.pl (dl.map eTab))] := by rw [hdl]; simp [eDb, pS, cP]
  have hqe : (eQuery v.q).map V.d = [V.d (.int .i64 v.q.n), V.d (.pl (v.q.atoms.map eAtom)), V.d (.pl (v.q.out.map cI))] := by simp [eQuery, cI, cP, pS]
  have hve : (eView v).map V.d = [V.d (.int .i64 v.q.n), V.d (.pl (v.q.atoms.map eAtom)), V.d (.pl (v.q.out.map cI)), V.d (.int .i64 v.r.ar), V.d (.pl (v.r.rows.map (cP cI))), V.d (.pl (v.r.cs.map cI))] := by simp [eView, eQuery, eCnt, cI, cP, pS]
  refine VC.ofL EP s16 (by kernel_rfl) Tryz.func16 (by rfl) (by kernel_rfl) (by simp [Tryz.f16]) (by simp [Tryz.f16]) s16_ok fun B hl => ?_
  simp [Tryz.f16, hde, hve]
  refine call_p (p_impl_NewView d v.q hsq) (by simp [hde, hqe]) fun hs1 hh1 hl1 => ?_
  simp at hh1
  cases hn : nvB d v.q
  · simp [ivB, hn, eView, eQuery, eCnt, cI, cP, pS, ]
  have hnp : (nvP d v.q).r = nvR d v.q := by simp [nvP, hn]
  simp [eView, eQuery, eCnt, cI, cP, pS, ]
  refine call_f (w_impl_EqualCounted (nvR d v.q) v.r) (by simp [eCnt, cI, cP, pS, hnp]) rfl fun hs2 hh2 => ?_
  simp [ivB, hn, ]
end

end Go.Proofs.YtmgphabeodaokaaGreat


namespace Go.Proofs.YtmgphabeodaokaaGreat
open Go.Vs Go.Proofs Go
set_option maxRecDepth 100000
set_option maxHeartbeats 1000000

section
attribute [local simp] plI_id plStr_id map_plI map_plStr pS cP cI
theorem w_spec_l7Copy (q : PQuery) (h1 : q.atoms.length ≤ 1000) (h2 : ∀ a ∈ q.atoms, a.vars.length ≤ 1000) (h3 : q.out.length ≤ 1000) : VC Tryz.prog 62 [.agg ((eQuery q).map V.d)] (fun _ v => v = .agg ((eQuery q).map V.d)) := by
  obtain ⟨qn, l, qo⟩ := q
  simp only at h1 h2 h3
  have hL0 : LenOk 8 qo.length := ⟨by omega, by simp only [maxLen]; omega⟩
  refine VC.ofL EP s62 (by kernel_rfl) Tryz.func62 (by rfl) (by kernel_rfl) (by simp [Tryz.f62]) (by simp [Tryz.f62]) s62_ok fun B hl => ?_
  simp [Tryz.f62, s62_5, s62_5, eQuery]
  refine cutT (X := Unit) (fun _ _ => True) (fun _ => [(1, .ptr 1 0 0), (2, .ptr 2 0 0), (3, .ptr 3 0 0)])
    (fun _ => [(1, some (.box [.d (.int .i64 qn), .d (.pl (l.map eAtom)), .d (.pl (qo.map cI))])), (2, some (.box [.d (.int .i64 0), .d (.sl none none []), .d (.sl none none [])])), (3, some (.box [.d (.int .i64 qn), .d (.sl none none []), .own 7 0 qo.length])), (7, some (.row 3 1 (qo.map cI)))]) ?_ ?_
  · intro K hK
    simp [hL0, s62_1, ]
    repeat' apply And.intro
    all_goals exact hK () _ trivial rfl rfl (by simp <;> omega) (by simp) (by simp)
  rintro ⟨⟩ hs0 t m - hh0
  simp [s62_1, s62_5, ]
  refine loop_ruleL (X := Nat) (fun i _ => i ≤ l.length) (fun i => [(1, .ptr 1 0 0), (2, .ptr 2 0 0), (3, .ptr 3 0 0), (4, .d (.int .i64 i))])
    (fun i => [(1, some (.box [.d (.int .i64 qn), .d (.pl (l.map eAtom)), .d (.pl (qo.map cI))])), (2, some (.box [.d (.int .i64 0), .d (.sl none none []), .d (.sl none none [])])), (3, some (.box [.d (.int .i64 qn), .own 37 0 i, .own 7 0 qo.length])), (7, some (.row 3 1 (qo.map cI))), (37, some (.row 78 2 ((l.take i).map eAtom)))]) (fun i => l.length - i) ?_ ?_
  · refine (lead_box 3 1 37 78 2 [.d (.int .i64 qn), .d (.sl none none []), .own 7 0 qo.length] (by omega) (by omega) (by omega) (by simp) rfl).bind ?_
    rintro _ rfl
    exact Lead.of ⟨0, by simp, rfl, rfl, Nat.le_refl _, by simp, by simp⟩
  · intro i hs t m hi hh
    by_cases hlt : i < l.length
    · have hwi := wr1 (i := i) (by omega)
      have hL : LenOk 40 (i + 1) := ⟨by omega, by simp only [maxLen]; omega⟩
      have hx := h2 _ (List.getElem_mem hlt)
      obtain ⟨nm, vs, hT⟩ : ∃ nm vs, l[i] = ⟨nm, vs⟩ := ⟨_, _, rfl⟩
      have hst : (l.take (i + 1)).map eAtom = (l.take i).map eAtom ++ [eAtom ⟨nm, vs⟩] := by rw [List.take_succ_eq_append_getElem hlt, hT]; simp
      rw [hT] at hx
      simp only at hx
      have hL2 : LenOk 8 vs.length := ⟨by omega, by simp only [maxLen]; omega⟩
      refine anyQ2 fun Q => ?_
      simp [hlt, hL, hL2, hwi, hT, List.take_of_length_le, show min i l.length = i by omega, s62_1, s62_5, eAtom, cStr]
      repeat' apply And.intro
      all_goals
        refine back2 (i + 1) (by omega) (by omega) rfl (by simp <;> omega) (by simp) ?_
        rw [List.map_take, List.map_take] at hst
        simp only [eAtom, cStr, cP, pS, cI, List.cons_append, List.nil_append] at hst
        simp [hst]
    · have hn : i = l.length := by omega
      subst hn
      simp [List.take_of_length_le]
theorem w_spec_NegateCounted (z : PCnt) (h1 : z.rows.length ≤ 4294967296) (h2 : ∀ r ∈ z.rows, r.length ≤ 4294967296) (h3 : z.cs.length ≤ 4294967296) : VC Tryz.prog 51 [.agg ((eCnt z).map V.d)] (fun _ v => v = .agg ((eCnt (negW z)).map V.d)) := by
  obtain ⟨za, zr, zc⟩ := z
  simp only at h1 h2 h3
  refine VC.ofL EP s51 (by kernel_rfl) Tryz.func51 (by rfl) (by kernel_rfl) (by simp [Tryz.f51]) (by simp [Tryz.f51]) s51_ok fun B hl => ?_
  simp [Tryz.f51, s51_6, s51_6, eCnt]
  refine call_p (w_spec_l5Copy ⟨0, zr⟩ h1 h2) (by simp [eReln]) fun hs1 hh1 hl1 => ?_
  simp at hh1
  simp [eReln, s51_6, ]
  refine loop_ruleL (X := Nat) (fun i _ => i ≤ zc.length) (fun i => [(1, .ptr 1 0 0), (2, .ptr 2 0 0), (4, .ptr 4 0 0), (5, .d (.int .i64 i))])
    (fun i => [(1, some (.box [.d (.int .i64 za), .d (.pl (zr.map (cP cI))), .d (.pl (zc.map cI))])), (2, some (.box [.d (.int .i64 0), .d (.sl none none []), .d (.sl none none [])])),
      (4, some (.box [.d (.int .i64 za), .d (.pl (zr.map (cP cI))), .own 31 0 i])), (31, some (.row 3 1 (((zc.take i).map neg64).map cI)))]) (fun i => zc.length - i) ?_ ?_
  · refine (lead_box 4 2 31 3 1 [.d (.int .i64 za), .d (.pl (zr.map (cP cI))), .d (.sl none none [])] (by omega) (by omega) (by omega) (by simp) rfl).bind ?_
    rintro _ rfl
    exact Lead.of ⟨0, by simp, rfl, rfl, Nat.le_refl _, by simp, by simp⟩
  · intro i hs t m hi hh
    by_cases hlt : i < zc.length
    · have hwi := wr1 (i := i) (by omega)
      have hL : LenOk 8 (i + 1) := ⟨by omega, by simp only [maxLen]; omega⟩
      have hmin : min i zc.length = i := by omega
      simp [hlt, hwi, hL, hmin, s51_6, ]
      refine back2 (i + 1) (by omega) (by omega) rfl (by simp) (by simp) ?_
      have e1 : List.take (i + 1) (List.map (cI ∘ neg64) zc) = List.take i (List.map (cI ∘ neg64) zc) ++ [cI (neg64 zc[i])] := by
        rw [List.take_succ_eq_append_getElem (by simpa using hlt)]; simp
      simp
      rw [e1]; simp [neg64]
    · have hn : i = zc.length := by omega
      subst hn
      simp [negW, List.take_of_length_le]
def vdG (d : PDb) (q : PQuery) (x : PDelta) : Bool := appB d x && nvB d q && nvB (appP d x) q
def vdR (d : PDb) (q : PQuery) (x : PDelta) : PCnt := if vdG d q x then addCP (nvR (appP d x) q) (negW (nvR d q)) else ⟨0, [], []⟩
def vdB (d : PDb) (q : PQuery) (x : PDelta) : Bool := vdG d q x && addCB (nvR (appP d x) q) (negW (nvR d q))
theorem w_spec_ViewDelta (d : PDb) (q : PQuery) (x : PDelta) (hz : szDb d) (hst : ∀ t ∈ d.tabs, t.name.length ≤ maxLen) (hsq : ∀ a ∈ q.atoms, a.rel.length ≤ maxLen) (hnm : x.name.length ≤ maxLen) :
   VC Tryz.prog 61 [.agg ((eDb d).map V.d), .agg ((eQuery q).map V.d), .agg ((eDelta x).map V.d)] (fun _ r => r = .tup [.agg ((eCnt (vdR d q x)).map V.d), .d (.bool (vdB d q x))]) := by
  obtain ⟨dl, hdl⟩ : ∃ dl, dl = d.tabs := ⟨_, rfl⟩
  have hde : (eDb d).map V.d = [V.d (.pl (dl.map eTab))] := by rw [hdl]; simp [eDb]
  have hqe : (eQuery q).map V.d = [V.d (.int .i64 q.n), V.d (.pl (q.atoms.map eAtom)), V.d (.pl (q.out.map cI))] := by simp [eQuery]
  have hxe : (eDelta x).map V.d = [V.d (.str x.name), V.d (.int .i64 x.ins.ar), V.d (.pl (x.ins.rows.map (cP cI))), V.d (.int .i64 x.del.ar), V.d (.pl (x.del.rows.map (cP cI)))] := by simp [eDelta, eReln, cStr]
  obtain ⟨el, hel⟩ : ∃ el, el = (appP d x).tabs := ⟨_, rfl⟩
  have hee : (eDb (appP d x)).map V.d = [V.d (.pl (el.map eTab))] := by rw [hel]; simp [eDb]
  have hst2 := app_strs (x := x) hst
  refine VC.ofL EP s61 (by kernel_rfl) Tryz.func61 (by rfl) (by kernel_rfl) (by simp [Tryz.f61]) (by simp [Tryz.f61]) s61_ok fun B hl => ?_
  simp [Tryz.f61, s61_6, hde, hqe, hxe]
  refine call_p (w_spec_ApplyDelta d x hz hst hnm) (by simp [hde, hxe]) fun hs1 hh1 hl1 => ?_
  simp at hh1
  simp [hee, s61_6, ]
  refine call_p (w_spec_l28Z d q hst hsq) (by simp [hde, hqe]) fun hs2 hh2 hl2 => ?_
  simp at hh2
  simp [eCnt, s61_6, ]
  refine call_p (w_spec_l28Z (appP d x) q hst2 hsq) (by simp [hee, hqe]) fun hs3 hh3 hl3 => ?_
  simp at hh3
  cases h1 : appB d x <;> cases h2 : nvB d q <;> cases h3 : nvB (appP d x) q
  case true.true.true =>
    obtain ⟨s1, s2, s3⟩ := nvR_small h2
    have hG : vdG d q x = true := by simp only [vdG, h1, h2, h3, Bool.and_self]
    simp [eCnt, s61_6, ]
    repeat' apply And.intro
    all_goals
      refine call_p (w_spec_NegateCounted (nvR d q) s1 s2 s3) (by simp [eCnt]) fun hs4 hh4 hl4 => ?_
      simp at hh4
      simp [eCnt, s61_6, ]
      repeat' apply And.intro
      all_goals
        refine call_p (w_spec_AddCounted (nvR (appP d x) q) (negW (nvR d q))) (by simp [eCnt]) fun hs5 hh5 hl5 => ?_
        simp at hh5
        simp [vdR, vdB, hG, eCnt, s61_6, ]
  all_goals
    have hG : vdG d q x = false := by simp only [vdG, h1, h2, h3, Bool.and_false, Bool.false_and]
    simp [vdR, vdB, hG, eCnt, s61_6, ]
end

end Go.Proofs.YtmgphabeodaokaaGreat


namespace Go.Proofs.YtmgphabeodaokaaGreat
open Go.Vs Go.Proofs Go
set_option maxRecDepth 100000
set_option maxHeartbeats 1000000

section
attribute [local simp] plI_id plStr_id map_plI map_plStr
theorem p_impl_ApplyDelta (d : PDb) (x : PDelta) (hz : szDb d) (hst : ∀ t ∈ d.tabs, t.name.length ≤ maxLen) (hnm : x.name.length ≤ maxLen) :
   VC Tryz.prog 33 [.agg ((eDb d).map V.d), .agg ((eDelta x).map V.d)] (fun _ v => v = .tup [.agg ((eDb (appP d x)).map V.d), .d (.bool (appB d x))]) := by
  refine VC.untrack (t_impl_ApplyDelta ⟨nilS⟩ ⟨[], ⟨0, nilS⟩, ⟨0, nilS⟩⟩ ok_nilS ⟨by simp [okStr, maxLen], ⟨trivial, ok_nilS⟩, ⟨trivial, ok_nilS⟩⟩ ⟨by simp [plDb, plS, nilS], by simp [plDb, plS, nilS]⟩)
    (by have h1 := pn_agg (pn_eDb d); have h2 := pn_agg (pn_eDelta x); simp only [pnVL, Bool.and_true] at h1 h2 ⊢; rw [h1, h2]; rfl) fun As h1 h2 h3 => ?_
  obtain ⟨a, b, rfl, ⟨ha, ta, la⟩, hb, tb, lb⟩ := rp_args2 h1 h2 h3
  obtain ⟨s, rfl, e1⟩ := rp_agg tk_Db ha ta
  obtain ⟨t, rfl, e2⟩ := rp_agg tk_Delta hb tb
  have := VC.plain2 er_cDb (t_impl_ApplyDelta s t (okDb_ln (lnVL_d _ (by simpa only [V.ln] using la)) (by rw [e1]; exact hst)) (okDelta_ln (lnVL_d _ (by simpa only [V.ln] using lb)) (by rw [e2]; exact hnm)) (by rw [e1]; exact hz))
  rw [e1, e2] at this
  exact this
theorem p_impl_NegateCounted (z : PCnt) (h1 : z.rows.length ≤ 4294967296) (h2 : ∀ r ∈ z.rows, r.length ≤ 4294967296) (h3 : z.cs.length ≤ 4294967296) : VC Tryz.prog 57 [.agg ((eCnt z).map V.d)] (fun _ v => v = .agg ((eCnt (negW z)).map V.d)) := by
  refine VC.untrack (t_impl_NegateCounted ⟨0, nilS, nilS⟩ ⟨trivial, ok_nilS, ok_nilS⟩ (by simp [nilS]) (by simp [nilS]) (by simp [nilS])) (pn_agg (pn_eCnt z)) fun As k1 k2 k3 => ?_
  obtain ⟨x, rfl, hx, tx, lx⟩ := rp_args1 k1 k2 k3
  obtain ⟨s, rfl, e1⟩ := rp_agg tk_Cnt hx tx
  have q1 := congrArg PCnt.rows e1
  have q3 := congrArg PCnt.cs e1
  simp only [plCnt, plS] at q1 q3
  have := VC.plain1 er_cCnt (t_impl_NegateCounted s (okCnt_ln (lnVL_d _ (by simpa only [V.ln] using lx))) (by rw [← q1] at h1; simpa using h1) (fun r hr => by
    have := h2 (plS plI r) (by rw [← q1]; exact List.mem_map_of_mem hr)
    simpa [plS] using this) (by rw [← q3] at h3; simpa using h3))
  rw [e1] at this
  exact this
theorem e_impl_AddCounted (a b : PCnt) : VC Tryz.prog 56 [.agg ((eCnt a).map V.d), .agg ((eCnt b).map V.d)]
   (fun n r => ∃ y : Cnt, r = .tup [.agg ((cCnt y).map V.d), .d (.bool (addCB a b))] ∧ plCnt y = addCP a b ∧ okCnt y ∧ Good (cCnt y) (whCnt y) n) := by
  refine VC.untrack (t_impl_AddCounted ⟨0, nilS, nilS⟩ ⟨0, nilS, nilS⟩ ⟨trivial, ok_nilS, ok_nilS⟩ ⟨trivial, ok_nilS, ok_nilS⟩)
    (by have h1 := pn_agg (pn_eCnt a); have h2 := pn_agg (pn_eCnt b); simp only [pnVL, Bool.and_true] at h1 h2 ⊢; rw [h1, h2]; rfl) fun As h1 h2 h3 => ?_
  obtain ⟨x, y, rfl, ⟨ha, ta, la⟩, hb, tb, lb⟩ := rp_args2 h1 h2 h3
  obtain ⟨s, rfl, e1⟩ := rp_agg tk_Cnt ha ta
  obtain ⟨t, rfl, e2⟩ := rp_agg tk_Cnt hb tb
  have := t_impl_AddCounted s t (okCnt_ln (lnVL_d _ (by simpa only [V.ln] using la))) (okCnt_ln (lnVL_d _ (by simpa only [V.ln] using lb)))
  rw [e1, e2] at this
  exact this
theorem e_impl_ViewDelta (d : PDb) (q : PQuery) (x : PDelta) (hz : szDb d) (hst : ∀ t ∈ d.tabs, t.name.length ≤ maxLen) (hsq : ∀ a ∈ q.atoms, a.rel.length ≤ maxLen) (hnm : x.name.length ≤ maxLen) :
   VC Tryz.prog 11 [.agg ((eDb d).map V.d), .agg ((eQuery q).map V.d), .agg ((eDelta x).map V.d)]
   (fun n r => ∃ y : Cnt, r = .tup [.agg ((cCnt y).map V.d), .d (.bool (vdB d q x))] ∧ plCnt y = vdR d q x ∧ okCnt y ∧ Good (cCnt y) (whCnt y) n) := by
  obtain ⟨dl, hdl⟩ : ∃ dl, dl = d.tabs := ⟨_, rfl⟩
  have hde : (eDb d).map V.d = [V.d (.pl (dl.map eTab))] := by rw [hdl]; simp [eDb, pS, cP]
  have hqe : (eQuery q).map V.d = [V.d (.int .i64 q.n), V.d (.pl (q.atoms.map eAtom)), V.d (.pl (q.out.map cI))] := by simp [eQuery, pS, cP, cI]
  have hxe : (eDelta x).map V.d = [V.d (.str x.name), V.d (.int .i64 x.ins.ar), V.d (.pl (x.ins.rows.map (cP cI))), V.d (.int .i64 x.del.ar), V.d (.pl (x.del.rows.map (cP cI)))] := by simp [eDelta, eReln, cStr, pS, cP, cI]
  obtain ⟨el, hel⟩ : ∃ el, el = (appP d x).tabs := ⟨_, rfl⟩
  have hee : (eDb (appP d x)).map V.d = [V.d (.pl (el.map eTab))] := by rw [hel]; simp [eDb, pS, cP]
  have hv : ∀ q : PQuery, ∀ d : PDb, nvB d q = true → (nvP d q).r = nvR d q := fun q d h => by simp [nvP, h]
  refine VC.of E s11 (by kernel_rfl) Tryz.func11 (by rfl) (by kernel_rfl) (by simp [Tryz.f11]) (by simp [Tryz.f11]) s11_ok fun B => ?_
  simp [Tryz.f11, s11_6, hde, hqe, hxe]
  refine call_p (p_impl_ApplyDelta d x hz hst hnm) (by simp [hde, hxe]) fun hs1 hh1 hl1 => ?_
  simp at hh1
  simp [hee, s11_6, ]
  refine call_p (p_impl_NewView (appP d x) q hsq) (by simp [hee, hqe]) fun hs2 hh2 hl2 => ?_
  simp at hh2
  simp [eView, eQuery, eCnt, cI, cP, pS, s11_6, ]
  refine call_p (p_impl_NewView d q hsq) (by simp [hde, hqe]) fun hs3 hh3 hl3 => ?_
  simp at hh3
  cases h1 : appB d x <;> cases h2 : nvB d q <;> cases h3 : nvB (appP d x) q
  case true.true.true =>
    obtain ⟨s1, s2, s3⟩ := nvR_small h2
    have hG : vdG d q x = true := by simp only [vdG, h1, h2, h3, Bool.and_self]
    simp [eView, eQuery, eCnt, cI, cP, pS, s11_6, ]
    rw [hv _ _ h2, hv _ _ h3]
    repeat' apply And.intro
    all_goals
      refine call_p (p_impl_NegateCounted (nvR d q) s1 s2 s3) (by simp [eCnt, cI, cP, pS]) fun hs4 hh4 hl4 => ?_
      simp at hh4
      simp [eCnt, cI, cP, pS, s11_6, ]
      refine call_some ((e_impl_AddCounted (nvR (appP d x) q) (negW (nvR d q))).er (by simp [eCnt, cI, cP, pS])) (by simp) (by simp) fun n5 hs5 r5 hn5 hm5 hp5 hr5 => ?_
      obtain ⟨⟨ya, yr, yc⟩, rfl, p5, k5, G5⟩ := hp5
      simp at hn5
      simp [cCnt, cS, cI, dSl, s11_6, ]
      exact ⟨⟨ya, yr, yc⟩, ⟨by simp [cCnt, cS, cI, dSl], by simp [vdB, hG]⟩, by simp only [vdR, hG, if_true, p5], k5, G5.le (by omega)⟩
  all_goals
    have hG : vdG d q x = false := by simp only [vdG, h1, h2, h3, Bool.and_false, Bool.false_and]
    simp [vdR, vdB, hG, eView, eQuery, eCnt, cI, cP, pS, s11_6, ]
    exact ⟨⟨0, nilS, nilS⟩, by simp [cCnt, nilS, cS, cI, dSl], by rfl, ⟨trivial, ok_nilS, ok_nilS⟩, good_Cnt0 B⟩
end

end Go.Proofs.YtmgphabeodaokaaGreat


namespace Go.Proofs.YtmgphabeodaokaaGreat
open Go.Vs Go.Proofs Go
set_option maxRecDepth 100000
set_option maxHeartbeats 1000000

section
attribute [local simp] plI_id plStr_id map_plI map_plStr
def avG (d : PDb) (v : PView) (x : PDelta) : Bool := ivB d v && vdB d v.q x
def avB (d : PDb) (v : PView) (x : PDelta) : Bool := avG d v x && addCB v.r (vdR d v.q x)
def avP (d : PDb) (v : PView) (x : PDelta) : PView := if avB d v x then ⟨v.q, addCP v.r (vdR d v.q x)⟩ else ⟨⟨0, [], []⟩, ⟨0, [], []⟩⟩
theorem ivB_nv {d : PDb} {v : PView} (h : ivB d v = true) : nvB d v.q = true ∧ nvR d v.q = v.r := by
  simpa only [ivB, Bool.and_eq_true, decide_eq_true_eq] using h
theorem p_impl_ViewDelta (d : PDb) (q : PQuery) (x : PDelta) (hz : szDb d) (hst : ∀ t ∈ d.tabs, t.name.length ≤ maxLen) (hsq : ∀ a ∈ q.atoms, a.rel.length ≤ maxLen) (hnm : x.name.length ≤ maxLen) :
   VC Tryz.prog 11 [.agg ((eDb d).map V.d), .agg ((eQuery q).map V.d), .agg ((eDelta x).map V.d)]
   (fun _ r => r = .tup [.agg ((eCnt (vdR d q x)).map V.d), .d (.bool (vdB d q x))]) := VC.plain2 er_cCnt (e_impl_ViewDelta d q x hz hst hsq hnm)
theorem w_spec_ApplyToView (v : PView) (d : PDb) (x : PDelta) (hz : szDb d) (hst : ∀ t ∈ d.tabs, t.name.length ≤ maxLen) (hsq : ∀ a ∈ v.q.atoms, a.rel.length ≤ maxLen) (hnm : x.name.length ≤ maxLen) :
   VC Tryz.prog 15 [.agg ((eView v).map V.d), .agg ((eDb d).map V.d), .agg ((eDelta x).map V.d)] (fun _ r => r = .tup [.agg ((eView (avP d v x)).map V.d), .d (.bool (avB d v x))]) := by
  obtain ⟨dl, hdl⟩ : ∃ dl, dl = d.tabs := ⟨_, rfl⟩
  have hde : (eDb d).map V.d = [V.d (.pl (dl.map eTab))] := by rw [hdl]; simp [eDb, pS, cP]
  have hqe : (eQuery v.q).map V.d = [V.d (.int .i64 v.q.n), V.d (.pl (v.q.atoms.map eAtom)), V.d (.pl (v.q.out.map cI))] := by simp [eQuery, pS, cP, cI]
  have hve : (eView v).map V.d = [V.d (.int .i64 v.q.n), V.d (.pl (v.q.atoms.map eAtom)), V.d (.pl (v.q.out.map cI)), V.d (.int .i64 v.r.ar), V.d (.pl (v.r.rows.map (cP cI))), V.d (.pl (v.r.cs.map cI))] := by simp [eView, eQuery, eCnt, cI, cP, pS]
  have hxe : (eDelta x).map V.d = [V.d (.str x.name), V.d (.int .i64 x.ins.ar), V.d (.pl (x.ins.rows.map (cP cI))), V.d (.int .i64 x.del.ar), V.d (.pl (x.del.rows.map (cP cI)))] := by simp [eDelta, eReln, cStr, pS, cP, cI]
  refine VC.ofL EP s15 (by kernel_rfl) Tryz.func15 (by rfl) (by kernel_rfl) (by simp [Tryz.f15]) (by simp [Tryz.f15]) s15_ok fun B hl => ?_
  simp [Tryz.f15, s15_7, hde, hve, hxe]
  refine call_p (w_spec_ViewDelta d v.q x hz hst hsq hnm) (by simp [hde, hqe, hxe]) fun hs1 hh1 hl1 => ?_
  simp at hh1
  cases h1 : vdB d v.q x
  · have hG : avB d v x = false := by simp only [avB, avG, h1, Bool.and_false, Bool.false_and]
    simp [avP, hG, eView, eQuery, eCnt, cI, cP, pS, s15_7, ]
  simp [eCnt, cI, cP, pS, s15_7, ]
  refine call_f (w_spec_IsValidView d v hst hsq) (by simp [hde, hve]) rfl fun hs2 hh2 => ?_
  simp at hh2
  cases h2 : ivB d v
  · have hG : avB d v x = false := by simp only [avB, avG, h2, Bool.false_and]
    simp [avP, hG, eView, eQuery, eCnt, cI, cP, pS, s15_7, ]
  have f := nv_qf (ivB_nv h2).1
  simp [s15_7, ]
  refine call_p (w_spec_AddCounted v.r (vdR d v.q x)) (by simp [eCnt, cI, cP, pS]) fun hs3 hh3 hl3 => ?_
  simp at hh3
  cases h3 : addCB v.r (vdR d v.q x)
  · have hG : avB d v x = false := by simp only [avB, h3, Bool.and_false]
    simp [avP, hG, eView, eQuery, eCnt, cI, cP, pS, s15_7, ]
  have hG : avB d v x = true := by simp only [avB, avG, h1, h2, h3, Bool.and_true]
  simp [eCnt, cI, cP, pS, s15_7, ]
  repeat' apply And.intro
  all_goals
    refine call_p (w_spec_l7Copy v.q (by have := f.a4; omega) (fun a h => by have := f.vlen a h; omega) (by have := f.out5; omega)) (by simp [hqe]) fun hs4 hh4 hl4 => ?_
    simp at hh4
    simp [avP, hG, eView, eQuery, eCnt, cI, cP, pS, s15_7, ]
theorem e_impl_ApplyToView (v : PView) (d : PDb) (x : PDelta) (hz : szDb d) (hst : ∀ t ∈ d.tabs, t.name.length ≤ maxLen) (hsq : ∀ a ∈ v.q.atoms, a.rel.length ≤ maxLen) (hnm : x.name.length ≤ maxLen) :
   VC Tryz.prog 14 [.agg ((eView v).map V.d), .agg ((eDb d).map V.d), .agg ((eDelta x).map V.d)]
   (fun n r => ∃ y : View, r = .tup [.agg ((cView y).map V.d), .d (.bool (avB d v x))] ∧ plView y = avP d v x ∧ okView y ∧ Good (cView y) (whView y) n) := by
  obtain ⟨dl, hdl⟩ : ∃ dl, dl = d.tabs := ⟨_, rfl⟩
  have hde : (eDb d).map V.d = [V.d (.pl (dl.map eTab))] := by rw [hdl]; simp [eDb, pS, cP]
  have hqe : (eQuery v.q).map V.d = [V.d (.int .i64 v.q.n), V.d (.pl (v.q.atoms.map eAtom)), V.d (.pl (v.q.out.map cI))] := by simp [eQuery, pS, cP, cI]
  have hve : (eView v).map V.d = [V.d (.int .i64 v.q.n), V.d (.pl (v.q.atoms.map eAtom)), V.d (.pl (v.q.out.map cI)), V.d (.int .i64 v.r.ar), V.d (.pl (v.r.rows.map (cP cI))), V.d (.pl (v.r.cs.map cI))] := by simp [eView, eQuery, eCnt, cI, cP, pS]
  have hxe : (eDelta x).map V.d = [V.d (.str x.name), V.d (.int .i64 x.ins.ar), V.d (.pl (x.ins.rows.map (cP cI))), V.d (.int .i64 x.del.ar), V.d (.pl (x.del.rows.map (cP cI)))] := by simp [eDelta, eReln, cStr, pS, cP, cI]
  have hno : ∀ B : Nat, avB d v x = false → ∃ y : View, ([V.d (D.int IntKind.i64 0), V.d (D.sl none none []), V.d (D.sl none none []), V.d (D.int IntKind.i64 0), V.d (D.sl none none []), V.d (D.sl none none [])] = List.map V.d (cView y) ∧ avB d v x = false) ∧ plView y = avP d v x ∧ okView y ∧ Good (cView y) (whView y) B := fun B hn =>
    ⟨⟨⟨0, nilS, nilS⟩, ⟨0, nilS, nilS⟩⟩, ⟨by simp [cView, cQuery, cCnt, nilS, cS, cI, dSl], hn⟩, by simp only [avP, hn]; rfl, ⟨⟨trivial, ok_nilS, ok_nilS⟩, trivial, ok_nilS, ok_nilS⟩, good_View0 B⟩
  refine VC.of E s14 (by kernel_rfl) Tryz.func14 (by rfl) (by kernel_rfl) (by simp [Tryz.f14]) (by simp [Tryz.f14]) s14_ok fun B => ?_
  simp [Tryz.f14, s14_7, hde, hve, hxe]
  refine call_p (p_impl_ViewDelta d v.q x hz hst hsq hnm) (by simp [hde, hqe, hxe]) fun hs1 hh1 hl1 => ?_
  simp at hh1
  simp [eCnt, cI, cP, pS, s14_7, ]
  refine call_f (w_impl_IsValidView d v hsq) (by simp [hde, hve]) rfl fun hs2 hh2 => ?_
  simp at hh2
  cases h2 : ivB d v
  · have hG : avB d v x = false := by simp only [avB, avG, h2, Bool.false_and]
    simp [s14_7, ]
    exact hno B hG
  cases h1 : vdB d v.q x
  · have hG : avB d v x = false := by simp only [avB, avG, h1, Bool.and_false, Bool.false_and]
    simp [s14_7, ]
    exact hno B hG
  have f := nv_qf (ivB_nv h2).1
  simp [s14_7, ]
  refine call_some ((e_impl_AddCounted v.r (vdR d v.q x)).er (by simp [eCnt, cI, cP, pS])) (by simp) (by simp) fun n3 hs3 r3 hn3 hm3 hp3 hr3 => ?_
  obtain ⟨⟨ya, yr, yc⟩, rfl, p3, k3, G3⟩ := hp3
  simp at hn3
  have u3 : ∀ g ∈ idsL (cCnt ⟨ya, yr, yc⟩), g < hs3 := fun g hg => hr3 g (by rw [← ids_agg] at hg; simp [V.ids, idsVL] at hg ⊢; exact hg)
  cases h3 : addCB v.r (vdR d v.q x)
  · have hG : avB d v x = false := by simp only [avB, h3, Bool.and_false]
    simp [cCnt, cS, cI, dSl, s14_7, ]
    exact hno B hG
  have hG : avB d v x = true := by simp only [avB, avG, h1, h2, h3, Bool.and_true]
  simp [cCnt, cS, cI, dSl, s14_7, ]
  repeat' apply And.intro
  all_goals
    refine call_some ((e_impl_copyQuery v.q (by have := f.a4; omega) (fun a h => by have := f.vlen a h; omega) (by have := f.out5; omega) hsq).er (by simp [hqe])) (by simp) (by simp) fun n4 hs4 r4 hn4 hm4 hp4 hr4 => ?_
    obtain ⟨⟨za, zr, zc⟩, rfl, p4, k4, G4⟩ := hp4
    simp at hn4
    simp [cQuery, cS, cI, dSl, s14_7, ]
    refine ⟨⟨⟨za, zr, zc⟩, ⟨ya, yr, yc⟩⟩, ⟨by simp [cView, cQuery, cCnt, cS, cI, dSl], hG⟩, by simp only [avP, hG, if_true, plView, p3, p4], ⟨k4, k3⟩, ?_⟩
    exact Good.app (G4.le (by omega)) (G3.le (by omega)) fun g h h' => by
      have := u3 g h'; have := G4.lo g h; omega
end

end Go.Proofs.YtmgphabeodaokaaGreat


namespace Go.Proofs.YtmgphabeodaokaaGreat
open Go.Vs Go.Proofs Go
set_option maxRecDepth 100000
set_option maxHeartbeats 1000000

section
attribute [local simp] plI_id plStr_id map_plI map_plStr pS cP cI cStr cU8 cB
theorem w_spec_IsValidBatch (d : PDb) (xs : List PDelta) (hz : szDb d) (hst : ∀ t ∈ d.tabs, t.name.length ≤ maxLen) (hnm : ∀ x ∈ xs, x.name.length ≤ maxLen) :
   VC Tryz.prog 79 [.agg ((eDb d).map V.d), .d (pS eDelta xs)] (fun _ v => v = .d (.bool (batB d xs))) := by
  refine VC.ofL EP s79 (by kernel_rfl) Tryz.func79 (by rfl) (by kernel_rfl) (by simp [Tryz.f79]) (by simp [Tryz.f79]) s79_ok fun B hl => ?_
  obtain ⟨l⟩ := d
  simp [Tryz.f79, eDb]
  refine call_p (w_spec_ApplyBatch ⟨l⟩ xs hz hst hnm) (by simp [eDb]) fun hs1 hh1 hl1 => ?_
  simp [eDb, ]
end

end Go.Proofs.YtmgphabeodaokaaGreat


namespace Go.Proofs.YtmgphabeodaokaaGreat
open Go.Vs Go.Proofs Go
set_option maxRecDepth 100000
set_option maxHeartbeats 1000000

section
attribute [local simp] plI_id plStr_id map_plI map_plStr
theorem t_impl_IsValidBatch (d : Db) (xs : Sl Delta) (hd : okDb d) (hx : okS okDelta xs) (hz : szDb (plDb d)) :
   VC Tryz.prog 77 [.agg ((cDb d).map V.d), .d (dSl cDelta xs)] (fun _ v => v = .d (.bool (batB (plDb d) (plS plDelta xs)))) := by
  refine VC.of E s77 (by kernel_rfl) Tryz.func77 (by rfl) (by kernel_rfl) (by simp [Tryz.f77]) (by simp [Tryz.f77]) s77_ok fun B => ?_
  have hA := t_impl_ApplyBatch d xs hd hx hz
  obtain ⟨⟨did, dT, dts⟩⟩ := d
  obtain ⟨xid, xT, xl⟩ := xs
  simp [Tryz.f77, cDb, cS, dSl]
  refine call_some hA (by simp [cDb, cS, dSl]) (by simp) fun n2 hs2 r2 hn2 hm2 hp2 hr2 => ?_
  obtain ⟨⟨⟨vid, vT, vs⟩⟩, rfl, p2, k2, G2⟩ := hp2
  simp at hn2
  simp [cDb, cS, dSl, ]
end

end Go.Proofs.YtmgphabeodaokaaGreat


namespace Go.Proofs.YtmgphabeodaokaaGreat
open Go.Vs Go.Proofs Go
set_option maxRecDepth 100000
set_option maxHeartbeats 1000000

section
attribute [local simp] plI_id plStr_id map_plI map_plStr
/-- a view through a batch -/
def abS : List PDelta → PDb → PView → Option PView
  | [], _, v => some v
  | x :: r, d, v => if avB d v x then abS r (appP d x) (avP d v x) else none
def abV (v : PView) (d : PDb) (xs : List PDelta) : Option PView := if batB d xs && ivB d v then abS xs d v else none
def abvB (v : PView) (d : PDb) (xs : List PDelta) : Bool := (abV v d xs).isSome
def abvP (v : PView) (d : PDb) (xs : List PDelta) : PView := (abV v d xs).getD ⟨⟨0, [], []⟩, ⟨0, [], []⟩⟩
theorem addC_nil {z : PCnt} (h : cntsOk z = true) : addCP z ⟨z.ar, [], []⟩ = z := by
  have h2 : cntsOk (⟨z.ar, [], []⟩ : PCnt) = true := by
    have := cntsOk_rows h
    simp only [cntsOk, rowsOk] at h this ⊢
    simp_all
  refine (addC_of h h2 rfl ?_ h rfl fun y => ?_).2
  · rw [List.append_nil]
    have h1 := srtU_len z.rows
    have h3 := rowsOk_len (cntsOk_rows h)
    omega
  · simp [lkC]
structure AbI (v0 : PView) (d0 : PDb) (xs : List PDelta) (i : Nat) (c : PDb) (v : PView) : Prop where
  le : i ≤ xs.length
  ok : dbOk c = true
  q : v.q = v0.q
  r : cntsOk v.r = true
  eq : abS (xs.drop i) c v = abS xs d0 v0
theorem AbI.zero {v : PView} {d : PDb} {xs : List PDelta} (h1 : dbOk d = true) (h2 : ivB d v = true) : AbI v d xs 0 d v :=
  ⟨by omega, h1, rfl, by rw [← (ivB_nv h2).2]; exact nvR_ok (ivB_nv h2).1, rfl⟩
theorem av_r {d : PDb} {v : PView} {x : PDelta} (h : avB d v x = true) : (avP d v x).q = v.q ∧ cntsOk (avP d v x).r = true := by
  rw [avP, if_pos h]
  simp only [avB, Bool.and_eq_true] at h
  exact ⟨rfl, (addC_ok h.2).1⟩
theorem AbI.step {v0 v : PView} {d0 c : PDb} {xs : List PDelta} {i : Nat} (h : AbI v0 d0 xs i c v) (hi : i < xs.length) (hb : avB c v xs[i] = true) : AbI v0 d0 xs (i + 1) (appP c xs[i]) (avP c v xs[i]) := by
  refine ⟨hi, ?_, by rw [(av_r hb).1]; exact h.q, (av_r hb).2, ?_⟩
  · cases ha : appB c xs[i]
    · rw [app_no ha]; exact h.ok
    · exact app_ok ha
  · have := h.eq
    rw [List.drop_eq_getElem_cons hi, abS, if_pos hb] at this
    exact this
theorem AbI.bad {v0 v : PView} {d0 c : PDb} {xs : List PDelta} {i : Nat} (h : AbI v0 d0 xs i c v) (hi : i < xs.length) (hb : avB c v xs[i] = false) : abS xs d0 v0 = none := by
  have := h.eq
  rw [List.drop_eq_getElem_cons hi, abS, hb] at this
  exact this.symm
theorem AbI.done {v0 v : PView} {d0 c : PDb} {xs : List PDelta} {i : Nat} (h : AbI v0 d0 xs i c v) (hi : xs.length ≤ i) : abS xs d0 v0 = some v := by
  have := h.eq
  rw [List.drop_of_length_le hi, abS] at this
  exact this.symm
theorem bat_db {d : PDb} {xs : List PDelta} (h : batB d xs = true) : dbOk d = true := by
  have := (batB_run h).1
  simp only [batG, Bool.and_eq_true] at this
  exact this.2
theorem bat_n5 {d : PDb} {xs : List PDelta} (h : batB d xs = true) : xs.length ≤ 5 := by
  have := (batB_run h).1
  simp only [batG, Bool.and_eq_true, decide_eq_true_eq] at this
  exact this.1
theorem abS_ok : ∀ (xs : List PDelta) (d : PDb) (v w : PView), cntsOk v.r = true → abS xs d v = some w → w.q = v.q ∧ cntsOk w.r = true
  | [], d, v, w, h, e => by simp only [abS, Option.some.injEq] at e; rw [← e]; exact ⟨rfl, h⟩
  | x :: r, d, v, w, h, e => by
    rw [abS] at e
    split at e
    · rename_i hb
      have := abS_ok r _ _ w (av_r hb).2 e
      exact ⟨by rw [this.1, (av_r hb).1], this.2⟩
    · cases e
theorem p_impl_IsValidBatch (d : PDb) (xs : List PDelta) (hz : szDb d) (hst : ∀ t ∈ d.tabs, t.name.length ≤ maxLen) (hnm : ∀ x ∈ xs, x.name.length ≤ maxLen) :
   VC Tryz.prog 77 [.agg ((eDb d).map V.d), .d (pS eDelta xs)] (fun _ v => v = .d (.bool (batB d xs))) := by
  refine VC.untrack (t_impl_IsValidBatch ⟨nilS⟩ nilS ok_nilS ok_nilS ⟨by simp [plDb, plS, nilS], by simp [plDb, plS, nilS]⟩)
    (by have h1 := pn_agg (pn_eDb d); simp only [pnVL, Bool.and_true] at h1 ⊢; rw [h1]; simp [pS, V.pn, D.pn]) fun As h1 h2 h3 => ?_
  obtain ⟨a, b, rfl, ⟨ha, ta, la⟩, hb, tb, lb⟩ := rp_args2 h1 h2 h3
  obtain ⟨s, rfl, e1⟩ := rp_agg tk_Db ha ta
  obtain ⟨t, rfl, e2⟩ := rp_sl tk_Delta hb tb
  have hk : okS okDelta t := by
    have h4 : okS (fun x : Delta => lnL (cDelta x)) t := ok_ln (fun _ h => h) (by simpa [V.ln, cS, lnL] using lb)
    refine ⟨h4.1, fun x hx => okDelta_ln (h4.2 x hx) (hnm _ ?_)⟩
    rw [← e2]; exact List.mem_map_of_mem hx
  have := t_impl_IsValidBatch s t (okDb_ln (lnVL_d _ (by simpa only [V.ln] using la)) (by rw [e1]; exact hst)) hk (by rw [e1]; exact hz)
  rw [e1, e2] at this
  exact this
theorem w_spec_ApplyBatchToView (v : PView) (d : PDb) (xs : List PDelta) (hz : szDb d) (hst : ∀ t ∈ d.tabs, t.name.length ≤ maxLen) (hsq : ∀ a ∈ v.q.atoms, a.rel.length ≤ maxLen) (hnm : ∀ x ∈ xs, x.name.length ≤ maxLen) :
   VC Tryz.prog 25 [.agg ((eView v).map V.d), .agg ((eDb d).map V.d), .d (pS eDelta xs)] (fun _ r => r = .tup [.agg ((eView (abvP v d xs)).map V.d), .d (.bool (abvB v d xs))]) := by
  have hde : ∀ d : PDb, (eDb d).map V.d = [V.d (.pl (d.tabs.map eTab))] := fun d => by simp [eDb, pS, cP]
  have hqe : ∀ v : PView, (eQuery v.q).map V.d = [V.d (.int .i64 v.q.n), V.d (.pl (v.q.atoms.map eAtom)), V.d (.pl (v.q.out.map cI))] := fun v => by simp [eQuery, pS, cP, cI]
  have hve : ∀ v : PView, (eView v).map V.d = [V.d (.int .i64 v.q.n), V.d (.pl (v.q.atoms.map eAtom)), V.d (.pl (v.q.out.map cI)), V.d (.int .i64 v.r.ar), V.d (.pl (v.r.rows.map (cP cI))), V.d (.pl (v.r.cs.map cI))] := fun v => by simp [eView, eQuery, eCnt, cI, cP, pS]
  have hxe : ∀ x : PDelta, (eDelta x).map V.d = [V.d (.str x.name), V.d (.int .i64 x.ins.ar), V.d (.pl (x.ins.rows.map (cP cI))), V.d (.int .i64 x.del.ar), V.d (.pl (x.del.rows.map (cP cI)))] := fun x => by simp [eDelta, eReln, cStr, pS, cP, cI]
  refine VC.ofL EP s25 (by kernel_rfl) Tryz.func25 (by rfl) (by kernel_rfl) (by simp [Tryz.f25]) (by simp [Tryz.f25]) s25_ok fun B hl => ?_
  simp [Tryz.f25, s25_7, s25_11, s25_13, hde, hve]
  refine call_f (w_spec_IsValidBatch d xs hz hst hnm) (by simp [hde, pS]) rfl fun hs1 hh1 => ?_
  simp at hh1
  cases h1 : batB d xs
  · simp [abvP, abvB, abV, h1, eView, eQuery, eCnt, cI, cP, pS, s25_7, s25_11, s25_13, ]
  simp [s25_7, s25_11, s25_13, ]
  refine call_f (w_spec_IsValidView d v hst hsq) (by simp [hde, hve]) rfl fun hs2 hh2 => ?_
  simp at hh2
  cases h2 : ivB d v
  · simp [abvP, abvB, abV, h1, h2, eView, eQuery, eCnt, cI, cP, pS, s25_7, s25_11, s25_13, ]
  have f := nv_qf (ivB_nv h2).1
  have hab : abV v d xs = abS xs d v := by simp [abV, h1, h2]
  have hn5 := bat_n5 h1
  simp [s25_7, s25_11, s25_13, ]
  refine call_p (w_spec_l6Copy d hz) (by simp [hde]) fun hs3 hh3 hl3 => ?_
  simp at hh3
  simp [hde, s25_7, s25_11, s25_13, ]
  refine loop_rule (X := Nat × PDb × PView) (fun p => AbI v d xs p.1 p.2.1 p.2.2) (fun p => [(2, .d (.pl (xs.map eDelta))), (3, .ptr 3 0 0), (6, .ptr 6 0 0), (8, .ptr 8 0 0), (9, .d (.int .i64 p.1))])
    (fun p => [(3, some (.box ((eView p.2.2).map V.d))), (6, some (.box [.d (.int .i64 0), .d (.sl none none []), .d (.sl none none []), .d (.int .i64 0), .d (.sl none none []), .d (.sl none none [])])), (8, some (.box ((eDb p.2.1).map V.d)))]) (fun p => xs.length - p.1) (0, d, v) (.zero (bat_db h1) h2) (by simp [pS]) (by simp [hde, hve]) ?_
  rintro ⟨i, c, w⟩ hs t m hI hh
  simp only at hI
  have hle := hI.le
  have hwq := hI.q
  by_cases hlt : i < xs.length
  · have hwi := wr1 (i := i) (by omega)
    have hnx := hnm _ (List.getElem_mem hlt)
    have hstp := hI.step hlt
    have hbad := hI.bad hlt
    obtain ⟨⟨xn, ⟨xa, xi⟩, ⟨xb, xd⟩⟩, hx⟩ : ∃ x, x = xs[i] := ⟨_, rfl⟩
    rw [← hx] at hnx hstp hbad
    obtain ⟨x, hxx⟩ : ∃ x : PDelta, x = ⟨xn, ⟨xa, xi⟩, ⟨xb, xd⟩⟩ := ⟨_, rfl⟩
    have hxe' : (eDelta x).map V.d = [V.d (.str xn), V.d (.int .i64 xa), V.d (.pl (xi.map (cP cI))), V.d (.int .i64 xb), V.d (.pl (xd.map (cP cI)))] := by rw [hxx, hxe]
    rw [← hxx] at hnx hstp hbad
    have hA := w_spec_ApplyToView w c x (szDb_ok hI.ok) (dbOk_st hI.ok) (by rw [hwq]; exact hsq) hnx
    have hD := w_spec_ApplyDelta c x (szDb_ok hI.ok) (dbOk_st hI.ok) hnx
    simp [hlt, ← hx, hde, hve, s25_7, s25_11, s25_13, eDelta, eReln, cStr, cI, cP, pS]
    repeat' apply And.intro
    all_goals
      refine call_p hA (by simp [hde, hve, hxe']) fun hs3 hh3 hl3 => ?_
      simp at hh3
      cases hb : avB c w x
      · have hP : abvP v d xs = ⟨⟨0, [], []⟩, ⟨0, [], []⟩⟩ := by rw [abvP, hab, hbad hb]; rfl
        have hB : abvB v d xs = false := by rw [abvB, hab, hbad hb]; rfl
        simp [hve, hP, hB, eView, eQuery, eCnt, cI, cP, pS, s25_7, s25_11, s25_13, ]
      · simp [hve, hlt, ← hx, s25_7, s25_11, s25_13, eDelta, eReln, cStr, cI, cP, pS]
        repeat' apply And.intro
        all_goals
          refine call_p hD (by simp [hde, hxe']) fun hs4 hh4 hl4 => ?_
          simp at hh4
          simp [hwi, hde, s25_7, s25_11, s25_13, ]
          exact back (i + 1, appP c x, avP c w x) (hstp hb) (by simp only; omega) rfl (by simp <;> omega) (by simp) (by simp [hve, hde])
  · have hdn := hI.done (by omega)
    have hP : abvP v d xs = w := by rw [abvP, hab, hdn]; rfl
    have hB : abvB v d xs = true := by rw [abvB, hab, hdn]; rfl
    simp [hlt, hde, hve, s25_7, s25_11, s25_13, ]
    refine call_p (w_spec_AddCounted w.r ⟨w.r.ar, [], []⟩) (by simp [eCnt, cI, cP, pS]) fun hs4 hh4 hl4 => ?_
    simp at hh4
    rw [addC_nil hI.r]
    simp [eCnt, cI, cP, pS, s25_7, s25_11, s25_13, ]
    repeat' apply And.intro
    all_goals
      refine call_p (w_spec_l7Copy w.q (by rw [hwq]; have := f.a4; omega) (by rw [hwq]; exact fun a h => by have := f.vlen a h; omega) (by rw [hwq]; have := f.out5; omega)) (by simp [hqe]) fun hs5 hh5 hl5 => ?_
      simp at hh5
      simp [hP, hB, eView, eQuery, eCnt, cI, cP, pS, s25_7, s25_11, s25_13, ]
theorem e_impl_copyCounted (z : PCnt) (h1 : z.rows.length ≤ 4294967296) (h2 : ∀ r ∈ z.rows, r.length ≤ 4294967296) (h3 : z.cs.length ≤ 4294967296) : VC Tryz.prog 78 [.agg ((eCnt z).map V.d)]
   (fun n r => ∃ y : Cnt, r = .agg ((cCnt y).map V.d) ∧ plCnt y = z ∧ okCnt y ∧ Good (cCnt y) (whCnt y) n) := by
  refine VC.untrack (w_impl_copyCounted ⟨0, nilS, nilS⟩ ⟨trivial, ok_nilS, ok_nilS⟩ (by simp [nilS]) (by simp [nilS]) (by simp [nilS])) (pn_agg (pn_eCnt z)) fun As k1 k2 k3 => ?_
  obtain ⟨x, rfl, hx, tx, lx⟩ := rp_args1 k1 k2 k3
  obtain ⟨s, rfl, e1⟩ := rp_agg tk_Cnt hx tx
  have q1 := congrArg PCnt.rows e1
  have q3 := congrArg PCnt.cs e1
  simp only [plCnt, plS] at q1 q3
  have := w_impl_copyCounted s (okCnt_ln (lnVL_d _ (by simpa only [V.ln] using lx))) (by rw [← q1] at h1; simpa using h1) (fun r hr => by
    have := h2 (plS plI r) (by rw [← q1]; exact List.mem_map_of_mem hr)
    simpa [plS] using this) (by rw [← q3] at h3; simpa using h3)
  rw [e1] at this
  exact this
theorem e_impl_ApplyBatchToView (v : PView) (d : PDb) (xs : List PDelta) (hz : szDb d) (hst : ∀ t ∈ d.tabs, t.name.length ≤ maxLen) (hsq : ∀ a ∈ v.q.atoms, a.rel.length ≤ maxLen) (hnm : ∀ x ∈ xs, x.name.length ≤ maxLen) :
   VC Tryz.prog 24 [.agg ((eView v).map V.d), .agg ((eDb d).map V.d), .d (pS eDelta xs)]
   (fun n r => ∃ y : View, r = .tup [.agg ((cView y).map V.d), .d (.bool (abvB v d xs))] ∧ plView y = abvP v d xs ∧ okView y ∧ Good (cView y) (whView y) n) := by
  have hde : ∀ d : PDb, (eDb d).map V.d = [V.d (.pl (d.tabs.map eTab))] := fun d => by simp [eDb, pS, cP]
  have hqe : ∀ v : PView, (eQuery v.q).map V.d = [V.d (.int .i64 v.q.n), V.d (.pl (v.q.atoms.map eAtom)), V.d (.pl (v.q.out.map cI))] := fun v => by simp [eQuery, pS, cP, cI]
  have hve : ∀ v : PView, (eView v).map V.d = [V.d (.int .i64 v.q.n), V.d (.pl (v.q.atoms.map eAtom)), V.d (.pl (v.q.out.map cI)), V.d (.int .i64 v.r.ar), V.d (.pl (v.r.rows.map (cP cI))), V.d (.pl (v.r.cs.map cI))] := fun v => by simp [eView, eQuery, eCnt, cI, cP, pS]
  have hxe : ∀ x : PDelta, (eDelta x).map V.d = [V.d (.str x.name), V.d (.int .i64 x.ins.ar), V.d (.pl (x.ins.rows.map (cP cI))), V.d (.int .i64 x.del.ar), V.d (.pl (x.del.rows.map (cP cI)))] := fun x => by simp [eDelta, eReln, cStr, pS, cP, cI]
  have hno : ∀ B : Nat, abV v d xs = none → ∃ y : View, ([V.d (D.int IntKind.i64 0), V.d (D.sl none none []), V.d (D.sl none none []), V.d (D.int IntKind.i64 0), V.d (D.sl none none []), V.d (D.sl none none [])] = List.map V.d (cView y) ∧ abvB v d xs = false) ∧ plView y = abvP v d xs ∧ okView y ∧ Good (cView y) (whView y) B := fun B hn =>
    ⟨⟨⟨0, nilS, nilS⟩, ⟨0, nilS, nilS⟩⟩, ⟨by simp [cView, cQuery, cCnt, nilS, cS, cI, dSl], by rw [abvB, hn]; rfl⟩, by rw [abvP, hn]; rfl, ⟨⟨trivial, ok_nilS, ok_nilS⟩, trivial, ok_nilS, ok_nilS⟩, good_View0 B⟩
  refine VC.of E s24 (by kernel_rfl) Tryz.func24 (by rfl) (by kernel_rfl) (by simp [Tryz.f24]) (by simp [Tryz.f24]) s24_ok fun B => ?_
  simp [Tryz.f24, s24_3, hde, hve]
  refine call_f (p_impl_IsValidBatch d xs hz hst hnm) (by simp [hde, pS]) rfl fun hs1 hh1 => ?_
  simp at hh1
  cases h1 : batB d xs
  · simp [s24_3, ]
    exact hno B (by simp [abV, h1])
  simp [s24_3, ]
  refine call_f (w_impl_IsValidView d v hsq) (by simp [hde, hve]) rfl fun hs2 hh2 => ?_
  simp at hh2
  cases h2 : ivB d v
  · simp [s24_3, ]
    exact hno B (by simp [abV, h1, h2])
  have f := nv_qf (ivB_nv h2).1
  have hab : abV v d xs = abS xs d v := by simp [abV, h1, h2]
  have hn5 := bat_n5 h1
  have hcr : cntsOk v.r = true := by rw [← (ivB_nv h2).2]; exact nvR_ok (ivB_nv h2).1
  obtain ⟨c1, c2, c3⟩ := cnts_small hcr
  simp []
  refine cutT (X := View) (fun y _ => plView y = v ∧ okView y ∧ Good (cView y) (whView y) B) (fun _ => [(2, .d (.pl (xs.map eDelta))), (4, .ptr 4 0 0), (6, .ptr 6 0 0), (8, .ptr 8 0 0)])
    (fun y => [(4, some (.box ((eDb d).map V.d))), (6, some (.box [.d (.int .i64 0), .d (.sl none none []), .d (.sl none none []), .d (.int .i64 0), .d (.sl none none []), .d (.sl none none [])])), (8, some (.box ((cView y).map V.d)))]) ?_ ?_
  · intro K hK
    simp [s24_3, ]
    repeat' apply And.intro
    all_goals
      refine call_some ((e_impl_copyQuery v.q (by have := f.a4; omega) (fun a h => by have := f.vlen a h; omega) (by have := f.out5; omega) hsq).er (by simp [hqe])) (by simp) (by simp) fun n4 hs4 r4 hn4 hm4 hp4 hr4 => ?_
      obtain ⟨⟨za, zr, zc⟩, rfl, p4, k4, G4⟩ := hp4
      simp at hn4
      have u4 : ∀ g ∈ idsL (cQuery ⟨za, zr, zc⟩), g < hs4 := fun g hg => hr4 g (by rw [← ids_agg] at hg; exact hg)
      simp [cQuery, cS, cI, dSl, s24_3, ]
      repeat' apply And.intro
      all_goals
        refine call_some ((e_impl_copyCounted v.r c1 c2 c3).er (by simp [eCnt, cI, cP, pS])) (by simp) (by simp) fun n5 hs5 r5 hn5 hm5 hp5 hr5 => ?_
        obtain ⟨⟨ya, yr, yc⟩, rfl, p5, k5, G5⟩ := hp5
        simp at hn5
        simp [cCnt, cS, cI, dSl, s24_3, ]
        refine hK ⟨⟨za, zr, zc⟩, ⟨ya, yr, yc⟩⟩ _ ⟨by simp only [plView, p4, p5], ⟨k4, k5⟩, Good.app (G4.le (by omega)) (G5.le (by omega)) fun g h h' => by
          have := u4 g h; have := G5.lo g h'; omega⟩ rfl rfl (by simp <;> omega) (by simp [pS]) (by simp [hde, cView, cQuery, cCnt, cS, cI, dSl])
  rintro y0 hs0 t m ⟨p0, k0, G0⟩ hh0
  simp [hde, s24_3, ]
  refine loop_rule (X := Nat × PDb × View) (fun p => AbI v d xs p.1 p.2.1 (plView p.2.2) ∧ okView p.2.2 ∧ Good (cView p.2.2) (whView p.2.2) B) (fun p => [(4, .ptr 4 0 0), (6, .ptr 6 0 0), (8, .ptr 8 0 0), (31, .d (.pl (xs.map eDelta))), (32, .d (.int .i64 xs.length)), (33, .d (.int .i64 p.1))])
    (fun p => [(4, some (.box ((eDb p.2.1).map V.d))), (6, some (.box [.d (.int .i64 0), .d (.sl none none []), .d (.sl none none []), .d (.int .i64 0), .d (.sl none none []), .d (.sl none none [])])), (8, some (.box ((cView p.2.2).map V.d)))]) (fun p => xs.length - p.1) (0, d, y0) ⟨by rw [p0]; exact .zero (bat_db h1) h2, k0, G0⟩ (by simp) (by simp [hde]) ?_
  rintro ⟨i, c, w⟩ hs t m ⟨hI, kw, Gw⟩ hh
  simp only at hI kw Gw
  have hle := hI.le
  have hwq := hI.q
  have hce : (cView w).map V.d = [V.d (.int .i64 w.q.n), V.d (dSl cAtom w.q.atoms), V.d (dSl cI w.q.out), V.d (.int .i64 w.r.ar), V.d (dSl (cS cI) w.r.rows), V.d (dSl cI w.r.cs)] := by simp [cView, cQuery, cCnt, cI, cS]
  have hwe := hve (plView w)
  by_cases hlt : i < xs.length
  · have hwi := wr1 (i := i) (by omega)
    have hnx := hnm _ (List.getElem_mem hlt)
    have hstp := hI.step hlt
    have hbad := hI.bad hlt
    obtain ⟨⟨xn, ⟨xa, xi⟩, ⟨xb, xd⟩⟩, hx⟩ : ∃ x, x = xs[i] := ⟨_, rfl⟩
    rw [← hx] at hnx hstp hbad
    obtain ⟨x, hxx⟩ : ∃ x : PDelta, x = ⟨xn, ⟨xa, xi⟩, ⟨xb, xd⟩⟩ := ⟨_, rfl⟩
    have hxe' : (eDelta x).map V.d = [V.d (.str xn), V.d (.int .i64 xa), V.d (.pl (xi.map (cP cI))), V.d (.int .i64 xb), V.d (.pl (xd.map (cP cI)))] := by rw [hxx, hxe]
    rw [← hxx] at hnx hstp hbad
    have hA := e_impl_ApplyToView (plView w) c x (szDb_ok hI.ok) (dbOk_st hI.ok) (by rw [hwq]; exact hsq) hnx
    have hD := p_impl_ApplyDelta c x (szDb_ok hI.ok) (dbOk_st hI.ok) hnx
    simp [hlt, ← hx, hde, hce, s24_3, eDelta, eReln, cStr, cI, cP, pS]
    refine call_some (hA.er (by rw [hwe, hde, hxe']; simp [rpL, rp, er_I, er_SI, er_Atom, plView, plQuery, plCnt, pS, cP, cI])) (by simp) (by simp) fun n3 hs3 r3 hn3 hm3 hp3 hr3 => ?_
    obtain ⟨y, rfl, p3, k3, G3⟩ := hp3
    simp at hn3
    have hye : (cView y).map V.d = [V.d (.int .i64 y.q.n), V.d (dSl cAtom y.q.atoms), V.d (dSl cI y.q.out), V.d (.int .i64 y.r.ar), V.d (dSl (cS cI) y.r.rows), V.d (dSl cI y.r.cs)] := by simp [cView, cQuery, cCnt, cI, cS]
    cases hb : avB c (plView w) x
    · simp [hye, s24_3, ]
      exact hno B (by rw [hab]; exact hbad hb)
    · simp [hye, s24_3, ]
      refine call_p hD (by simp [hde, hxe']) fun hs4 hh4 hl4 => ?_
      simp at hh4
      simp [hwi, hde, s24_3, ]
      refine back (i + 1, appP c x, y) ⟨?_, k3, G3.le (by omega)⟩ (by simp only; omega) rfl (by simp <;> omega) (by simp) (by simp [hde, hye])
      rw [p3]; exact hstp hb
  · have hdn := hI.done (by omega)
    have hP : abvP v d xs = plView w := by rw [abvP, hab, hdn]; rfl
    have hB : abvB v d xs = true := by rw [abvB, hab, hdn]; rfl
    simp [hlt, hce, s24_3, ]
    exact ⟨w, ⟨by rw [hce], hB⟩, hP.symm, kw, Gw⟩
theorem t_impl_ApplyBatchToView (v : View) (d : Db) (xs : Sl Delta) (hv : okView v) (hd : okDb d) (hx : okS okDelta xs) (hz : szDb (plDb d)) :
   VC Tryz.prog 24 [.agg ((cView v).map V.d), .agg ((cDb d).map V.d), .d (dSl cDelta xs)]
   (fun n r => ∃ y : View, r = .tup [.agg ((cView y).map V.d), .d (.bool (abvB (plView v) (plDb d) (plS plDelta xs)))] ∧ plView y = abvP (plView v) (plDb d) (plS plDelta xs) ∧ okView y ∧ Good (cView y) (whView y) n) :=
  (e_impl_ApplyBatchToView (plView v) (plDb d) (plS plDelta xs) hz (okDb_strs hd) (okView_strs hv) (okDeltas_st hx)).er (by simp only [rpL, rp, rpL_d, Option.map_some, er_cDb, er_cView, er_Delta])
end

end Go.Proofs.YtmgphabeodaokaaGreat


namespace Go.Proofs.YtmgphabeodaokaaGreat
open Go.Vs Go.Proofs Go
set_option maxRecDepth 100000
set_option maxHeartbeats 1000000

section
attribute [local simp] plI_id plStr_id map_plI map_plStr pS cP cI
end
section
attribute [local simp] plI_id plStr_id map_plI map_plStr
structure RaI (vs : List Int) (rl : List (List Int)) (B : Nat) (p : Nat × List Ints) (h : Nat) : Prop where
  le : p.1 ≤ rl.length
  pl : p.2.map (plS plI) = abL vs (rl.take p.1)
  ok : ∀ y ∈ p.2, okS okI y
  good : GoodL (cS cI) (whS whI) B h p.2
theorem RaI.zero {vs : List Int} {rl : List (List Int)} {B h : Nat} : RaI vs rl B (0, []) h := ⟨by simp, by simp [abL], by simp, GoodL.nil⟩
theorem RaI.skip {vs : List Int} {rl : List (List Int)} {B h h' i : Nat} {ys : List Ints} (H : RaI vs rl B (i, ys) h) (hi : i < rl.length) (hf : fitR vs rl[i] = false) (hh : h ≤ h') : RaI vs rl B (i + 1, ys) h' := by
  refine ⟨hi, ?_, H.ok, H.good.le hh⟩
  have := H.pl
  simp only at this ⊢
  rw [this, abL_succ hi, hf]; simp
theorem RaI.snoc {vs : List Int} {rl : List (List Int)} {B h m h' i : Nat} {ys : List Ints} {y : Ints} (H : RaI vs rl B (i, ys) h) (hi : i < rl.length) (hf : fitR vs rl[i] = true) (hy : y.xs = pickR (aVars vs) (valL vs rl[i])) (hok : okS okI y)
    (hb : B ≤ m ∧ h ≤ m) (hm : m ≤ h') (G : Good (cS cI y) (whS whI y) m) (hr : ∀ g ∈ idsL (cS cI y), g < h') : RaI vs rl B (i + 1, ys ++ [y]) h' := by
  refine ⟨hi, ?_, fun z hz => ?_, GoodL.snoc H.good hb hm G hr⟩
  · have := H.pl
    simp only at this ⊢
    rw [List.map_append, this, abL_succ hi, hf]
    simp [plS, hy]
  · rcases List.mem_append.1 hz with h | h
    · exact H.ok z h
    · rw [List.mem_singleton.1 h]; exact hok
end

end Go.Proofs.YtmgphabeodaokaaGreat


namespace Go.Proofs.YtmgphabeodaokaaGreat
open Go.Vs Go.Proofs Go
set_option maxRecDepth 100000
set_option maxHeartbeats 1000000

section
attribute [local simp] plI_id plStr_id map_plI map_plStr
end

end Go.Proofs.YtmgphabeodaokaaGreat


namespace Go.Proofs.YtmgphabeodaokaaGreat
open Go.Vs Go.Proofs Go
set_option maxRecDepth 100000
set_option maxHeartbeats 1000000

section
attribute [local simp] plI_id plStr_id map_plI map_plStr
end

end Go.Proofs.YtmgphabeodaokaaGreat


namespace Go.Proofs.YtmgphabeodaokaaGreat
open Go.Vs Go.Proofs Go
set_option maxRecDepth 100000
set_option maxHeartbeats 1000000

@[simp] theorem start6 (a b c d e f : V) (B : Nat) : St.start [a, b, c, d, e, f] B = ⟨B, B, [], upd (upd (upd (upd (upd (upd (fun _ => .tup []) 5 f) 4 e) 3 d) 2 c) 1 b) 0 a, fun _ => none⟩ := by
  simp only [St.start, St.mk.injEq, true_and, and_true]
  funext i; match i with | 0 => rfl | 1 => rfl | 2 => rfl | 3 => rfl | 4 => rfl | 5 => rfl | _ + 6 => rfl
section
attribute [local simp] plI_id plStr_id map_plI map_plStr pS cP cI
end

end Go.Proofs.YtmgphabeodaokaaGreat


namespace Go.Proofs.YtmgphabeodaokaaGreat
open Go.Vs Go.Proofs Go
set_option maxRecDepth 100000
set_option maxHeartbeats 1000000

section
attribute [local simp] plI_id plStr_id map_plI map_plStr pS cP cI
end

end Go.Proofs.YtmgphabeodaokaaGreat


namespace Go.Proofs.YtmgphabeodaokaaGreat
open Go.Vs Go.Proofs Go
set_option maxRecDepth 100000
set_option maxHeartbeats 1000000

section
attribute [local simp] plI_id plStr_id map_plI map_plStr
end

end Go.Proofs.YtmgphabeodaokaaGreat


namespace Go.Proofs.YtmgphabeodaokaaGreat
open Go.Vs Go.Proofs Go
set_option maxRecDepth 100000
set_option maxHeartbeats 1000000

section
attribute [local simp] plI_id plStr_id map_plI map_plStr pS cP cI cStr cU8 cB
theorem w_spec_VariableName (v : Int) : VC Tryz.prog 143 [.d (.int .i64 v)] (fun _ r => r = .d (.str (varNm v))) := by
  refine VC.ofL EP s143 (by kernel_rfl) Tryz.func143 (by rfl) (by kernel_rfl) (by simp [Tryz.f143]) (by simp [Tryz.f143]) s143_ok fun B hl => ?_
  simp [Tryz.f143, ]
  refine call_f (w_spec_l1In v 0 4) (by simp) rfl fun hs1 hh1 => ?_
  simp at hh1
  cases h : inR v 0 4
  · simp [varNm, h]
  have h' := h
  simp only [inR, Bool.and_eq_true, decide_eq_true_eq] at h'
  have hw : IntKind.i64.wrap (v + 1) = v + 1 := wrap64_of (by omega) (by omega)
  obtain ⟨k, rfl⟩ : ∃ k : Nat, v = (k : Int) := ⟨v.toNat, by omega⟩
  have hk : k < 5 := by omega
  have h1 : ((k : Int) + 1).toNat = k + 1 := by omega
  simp [varNm, h, hw, h1]
  omega
theorem w_spec_l7Vars (l : List Int) (hb : l.length ≤ 4611686018427387904) : VC Tryz.prog 145 [.d (pS cI l)] (fun _ r => r = .d (.str ([40] ++ varsS l ++ [41]))) := by
  refine VC.ofL EP s145 (by kernel_rfl) Tryz.func145 (by rfl) (by kernel_rfl) (by simp [Tryz.f145]) (by simp [Tryz.f145]) s145_ok fun B hl => ?_
  simp [pS, maxLen] at hl
  simp [Tryz.f145, ]
  refine loop_rule (X := Nat) (fun i => i ≤ l.length) (fun i => [(0, .d (.pl (l.map cI))), (3, .d (.str ([40] ++ varsS (l.take i)))), (4, .d (.int .i64 i))]) (fun _ => []) (fun i => l.length - i) 0 (by simp) (by simp [varsS]) (by simp) ?_
  intro i hs t m hi hh
  have h1 := varsS_len (l.take i)
  rw [List.length_take] at h1
  by_cases hlt : i < l.length
  · have hwi := wr1 (i := i) (by omega)
    simp [hlt, ]
    refine call_f (w_spec_VariableName l[i]) (by simp) rfl fun hs1 hh1 => ?_
    simp at hh1
    have h2 := varNm_len l[i]
    simp [hwi]
    refine ⟨by omega, ?_⟩
    exact back (i + 1) (by omega) (by omega) rfl (by simp <;> omega) (by simp [varsS_step hlt]) (by simp)
  · have h3 := varsS_len l
    simp [hlt, List.take_of_length_le (show l.length ≤ i by omega)]
    omega
end

end Go.Proofs.YtmgphabeodaokaaGreat


namespace Go.Proofs.YtmgphabeodaokaaGreat
open Go.Vs Go.Proofs Go
set_option maxRecDepth 100000
set_option maxHeartbeats 1000000

section
attribute [local simp] plI_id plStr_id map_plI map_plStr pS cP cI cStr cU8 cB
theorem w_spec_l5Cut (s : List UInt8) (c : UInt8) (hb : s.length ≤ 1000000000) : VC Tryz.prog 141 [.d (.str s), .d (.int .u8 c.toNat)] (fun _ r => r = .d (pS cStr (cutB c s))) := by
  refine VC.ofL EP s141 (by kernel_rfl) Tryz.func141 (by rfl) (by kernel_rfl) (by simp [Tryz.f141]) (by simp [Tryz.f141]) s141_ok fun B hl => ?_
  simp [Tryz.f141, ]
  refine loop_rule (X := Nat × Nat × List (List UInt8)) (fun p => CutI c s p) (fun p => [(0, .d (.str s)), (1, .d (.int .u8 c.toNat)), (5, .own 8 0 p.2.2.length), (6, .d (.int .i64 p.1)), (7, .d (.int .i64 p.2.1))]) (fun p => [(8, some (.row 9 1 (p.2.2.map cStr)))]) (fun p => s.length - p.2.1) (0, 0, []) .zero (by simp) (by simp) ?_
  rintro ⟨f, i, out⟩ hs t m hI hh
  have hf := hI.fr
  have hi := hI.le
  have hol := hI.len
  simp only at hf hi hol
  have hwi := wr1 (i := i) (by omega)
  have hL : LenOk 16 (out.length + 1) := ⟨by omega, by simp only [maxLen]; omega⟩
  by_cases hlt : i < s.length
  · by_cases e : s[i] = c
    · have hn := hI.hit hlt e
      simp [hlt, e, hwi, hL, hf, hi, ]
      exact back (i + 1, i + 1, _) hn (by simp only; omega) rfl (by simp <;> omega) (by simp) (by simp [List.take_of_length_le])
    · have hn := hI.miss hlt e
      have e' : ¬ s[i].toNat = c.toNat := fun h => e (UInt8.toNat_inj.1 h)
      simp [hlt, e, e', hwi, hL, ]
      exact back (f, i + 1, out) hn (by simp only; omega) rfl (by simp <;> omega) (by simp) (by simp)
  · have hn := hI.done (by omega)
    have hil : i = s.length := by omega
    subst hil
    simp [hL, hf, ]
    rw [List.take_of_length_le (by simp), ← hn.1]; simp
end

end Go.Proofs.YtmgphabeodaokaaGreat


namespace Go.Proofs.YtmgphabeodaokaaGreat
open Go.Vs Go.Proofs Go
set_option maxRecDepth 100000
set_option maxHeartbeats 1000000

section
attribute [local simp] plI_id plStr_id map_plI map_plStr pS cP cI cStr
theorem e_spec_l7List (s : List UInt8) (hb : s.length ≤ 100000) : VC Tryz.prog 142 [.d (.str s)]
   (fun n r => ∃ y : Ints, r = .d (dSl cI y) ∧ y.xs = lstV s ∧ okS okI y ∧ Good (cS cI y) (whS whI y) n ∧ y.T = some (3, 1)) := by
  refine VC.of E s142 (by kernel_rfl) Tryz.func142 (by rfl) (by kernel_rfl) (by simp [Tryz.f142]) (by simp [Tryz.f142]) s142_ok fun B => ?_
  simp [Tryz.f142, s142_8, s142_8, ]
  have hlv := lstV_len s
  refine loop_rule (X := Nat) (fun i => i ≤ s.length) (fun i => [(0, .d (.str s)), (3, .own 6 0 (lstV (s.take i)).length), (4, .d (.int .i64 i))]) (fun i => [(6, some (.row 3 1 ((lstV (s.take i)).map cI)))]) (fun i => s.length - i) 0 (by simp) (by simp [lstV]) (by simp [lstV]) ?_
  intro i hs t m hi hh
  have hlt2 := lstV_len (s.take i)
  rw [List.length_take] at hlt2
  by_cases hlt : i < s.length
  · have hwi := wr1 (i := i) (by omega)
    have hstp := lstV_step hlt
    obtain ⟨L, hL⟩ : ∃ L, L = lstV (s.take i) := ⟨_, rfl⟩
    rw [← hL] at hstp hlt2 ⊢
    obtain ⟨c, hc⟩ : ∃ c, c = s[i] := ⟨_, rfl⟩
    rw [← hc] at hstp
    refine anyQ fun Q => ?_
    simp [hlt, s142_8, ]
    refine loop_rule (X := Nat) (fun j => j ≤ 5) (fun j => [(0, .d (.str s)), (3, .own 6 0 (L ++ lstT c j).length), (4, .d (.int .i64 i)), (5, .d (.int .i64 j))]) (fun j => [(6, some (.row 3 1 ((L ++ lstT c j).map cI)))]) (fun j => 5 - j) 0 (by simp) (by simp [lstT, rangeI_zero]) (by simp [lstT, rangeI_zero]) ?_
    intro j hs2 t m hj hh2
    have hjl := lstT_len c j
    by_cases hj5 : j < 5
    · have hwj := wr1 (i := j) (by omega)
      have hjz : (j : Int) < 5 := by omega
      have hs3 := lstT_succ c j
      refine anyQ fun Q => ?_
      have hsl : (s.drop i).take 1 = [c] := by rw [List.drop_eq_getElem_cons hlt, hc]; rfl
      have hL1 : LenOk 8 (L.length + (lstT c j).length + 1) := ⟨by omega, by simp only [maxLen]; omega⟩
      simp [hj5, hjz, hwi, s142_8, ]
      repeat' apply And.intro
      all_goals (try omega)
      all_goals
        refine call_f (w_spec_VariableName j) (by simp) rfl fun hs4 hh4 => ?_
        simp at hh4
        by_cases e : varNm j = [c]
        · rw [if_pos e] at hs3
          simp [hj5, hjz, hwi, hwj, e, hsl, hL1, List.take_of_length_le, s142_8, ]
          exact back (j + 1) (by omega) (by omega) rfl (by simp <;> omega) (by simp [hs3]; omega) (by simp [hs3])
        · rw [if_neg e, List.append_nil] at hs3
          simp [hj5, hjz, hwi, hwj, e, hsl, s142_8, ]
          exact back (j + 1) (by omega) (by omega) rfl (by simp <;> omega) (by simp [hs3]) (by simp [hs3])
    · have hj' : j = 5 := by omega
      have hjz : ¬ (j : Int) < 5 := by omega
      subst hj'
      simp [hwi, s142_8, ]
      exact back (i + 1) (by omega) (by omega) rfl (by simp <;> omega) (by simp [hstp, lstT, lstB]) (by simp [hstp, lstT, lstB])
  · simp [hlt, List.take_of_length_le (show s.length ≤ i by omega), s142_8, ]
    intro γ hs' h1 hg
    obtain ⟨q1, q2⟩ := gam_at hg (k := 6) (T := 3) (sz := 1) (es := (lstV s).map cI) (by simp)
    clear hg
    exact ⟨⟨γ 6, some (3, 1), lstV s⟩, by simp [dSl, List.take_of_length_le], rfl, ⟨by simp only [maxLen]; show (lstV s).length ≤ _; omega, fun _ _ => trivial⟩, good_ints (fun g hg => (q1 g hg).1) (by simpa using q2), rfl⟩
end

end Go.Proofs.YtmgphabeodaokaaGreat


namespace Go.Proofs.YtmgphabeodaokaaGreat
open Go.Vs Go.Proofs Go
set_option maxRecDepth 100000
set_option maxHeartbeats 1000000

section
attribute [local simp] plI_id plStr_id map_plI map_plStr pS cP cI cStr
theorem fmtA_len {a : PAtom} (h1 : a.rel.length ≤ 1000000) (h2 : a.vars.length ≤ 1000000) : (fmtA a).length ≤ 2000010 := by
  have := varsS_len a.vars
  simp only [fmtA, List.length_append, List.length_singleton]; omega
theorem w_spec_FormatQuery (q : PQuery) (hst : ∀ a ∈ q.atoms, a.rel.length ≤ maxLen) : VC Tryz.prog 144 [.agg ((eQuery q).map V.d)] (fun _ r => r = .d (.str (fmtQ q))) := by
  refine VC.ofL EP s144 (by kernel_rfl) Tryz.func144 (by rfl) (by kernel_rfl) (by simp [Tryz.f144]) (by simp [Tryz.f144]) s144_ok fun B hl => ?_
  obtain ⟨n, l, o⟩ := q
  simp only at hst
  have hF : fmtQ ⟨n, l, o⟩ = if queryOk ⟨n, l, o⟩ then ([40] ++ varsS o ++ [41]) ++ [61] ++ joinB [44] (l.map fmtA) else [] := rfl
  simp [Tryz.f144, s144_9, s144_9, eQuery]
  refine call_f (w_spec_IsValidQuery ⟨n, l, o⟩ hst) (by simp [eQuery]) rfl fun hs1 hh1 => ?_
  simp at hh1
  cases hq : queryOk ⟨n, l, o⟩
  · rw [if_neg (by rw [hq]; simp)] at hF
    simp [hF, s144_9, eQuery]
  rw [if_pos hq] at hF
  have hqb := qok_small hq
  obtain ⟨hl4, ho5, hat⟩ := hqb
  simp only at hl4 ho5 hat
  have hvo := varsS_len o
  have hfl : ∀ a ∈ l, (fmtA a).length ≤ 2000010 := fun a ha => by
    have := hat a ha
    exact fmtA_len (by omega) (by omega)
  simp [s144_9, eQuery]
  refine call_f (w_spec_l7Vars o (by omega)) (by simp) rfl fun hs2 hh2 => ?_
  simp at hh2
  simp [s144_9, eQuery]
  refine ⟨by omega, ?_⟩
  obtain ⟨H, hH⟩ : ∃ H, H = ([40] ++ varsS o ++ [41]) ++ [61] := ⟨_, rfl⟩
  have hHl : H.length ≤ 100 := by rw [hH]; simp; omega
  refine loop_rule (X := Nat) (fun i => i ≤ l.length) (fun i => [(1, .ptr 1 0 0), (3, .d (.str (H ++ joinB [44] ((l.take i).map fmtA)))), (4, .d (.int .i64 i))]) (fun i => [(1, some (.box [.d (.int .i64 n), .d (.pl (l.map eAtom)), .d (.pl (o.map cI))]))]) (fun i => l.length - i) 0 (by simp) (by simp [joinB, hH]) (by simp) ?_
  intro i hs t m hi hh
  by_cases hlt : i < l.length
  · have hwi := wr1 (i := i) (by omega)
    have hjl := joinB_len [44] ((l.take i).map fmtA)
    have hst := strW_map fmtA 1 2000010 (l.take i) fun a ha => hfl a (List.mem_of_mem_take ha)
    rw [List.length_take] at hst
    have hstp := joinB_step (sep := [44]) (l := l.map fmtA) (i := i) (by simpa using hlt)
    rw [show (l.map fmtA).take i = (l.take i).map fmtA from List.map_take.symm, List.getElem_map] at hstp
    have hw1 : IntKind.i64.wrap 1 = 1 := wrap64_of (by omega) (by omega)
    have hm := List.getElem_mem hlt
    obtain ⟨ar, av, hA⟩ : ∃ ar av, l[i] = ⟨ar, av⟩ := ⟨_, _, rfl⟩
    rw [hA] at hm hstp
    have hab := hat _ hm
    simp only at hab
    have hvl := varsS_len av
    obtain ⟨J, hJ⟩ : ∃ J, J = joinB [44] ((l.take i).map fmtA) := ⟨_, rfl⟩
    rw [← hJ] at hstp hjl ⊢
    simp only [List.length_singleton] at hjl
    have hJl : J.length ≤ 10000000 := by
      have : (2000010 + 1) * min i l.length ≤ 2000011 * 4 := Nat.mul_le_mul (Nat.le_refl _) (by omega)
      omega
    refine anyQ fun Q => ?_
    by_cases h0 : i = 0
    · subst h0
      simp [hlt, hA, eAtom, s144_9, eQuery]
      repeat' apply And.intro
      all_goals (try omega)
      all_goals
        refine call_f (w_spec_l7Vars av (by omega)) (by simp) rfl fun hs4 hh4 => ?_
        simp at hh4
        simp [hlt, hwi, hA, eAtom, s144_9, eQuery]
        repeat' apply And.intro
        all_goals (try omega)
        all_goals exact back (0 + 1) (by omega) (by omega) rfl (by simp <;> omega) (by simp [hstp, hw1, fmtA]) (by simp)
    · have h0' : 0 < i := by omega
      simp [hlt, h0', hA, eAtom, s144_9, eQuery]
      repeat' apply And.intro
      all_goals (try omega)
      all_goals
        refine call_f (w_spec_l7Vars av (by omega)) (by simp) rfl fun hs4 hh4 => ?_
        simp at hh4
        simp [hlt, hwi, hA, eAtom, s144_9, eQuery]
        repeat' apply And.intro
        all_goals (try omega)
        all_goals exact back (i + 1) (by omega) (by omega) rfl (by simp <;> omega) (by simp [hstp, h0, fmtA]) (by simp)
  · simp [hlt, hF, List.take_of_length_le (show l.length ≤ i by omega), hH, s144_9, eQuery]
end

end Go.Proofs.YtmgphabeodaokaaGreat


namespace Go.Proofs.YtmgphabeodaokaaGreat
open Go.Vs Go.Proofs Go
set_option maxRecDepth 100000
set_option maxHeartbeats 1000000

section
attribute [local simp] plI_id plStr_id map_plI map_plStr pS cP cI cStr
theorem plA_app (nm : List UInt8) (y : Ints) (l : List UInt8) (h1 : nm = (cutB 40 l).getD 0 []) (h2 : y.xs = lstV l) : plAtom ⟨nm, y⟩ = prsA l := by
  simp only [plAtom, prsA, plS, plStr_id, map_plI, h1, h2]
/-- what stands behind a loop's test is of no account where the test ends the loop -/
theorem seqAny2 {P : Program} {E : Md} {sc : Nat → Tr} {a b : Code} {Q : Exit → St → Prop} {σ : St} (h : ∀ b', vwp P E sc (a.seq b') Q σ) : vwp P E sc (a.seq b) Q σ := h b
theorem copI_up {α β : Type} {c : α → List D} {wh : α → Prop} {ok : α → Prop} {pl : α → β} {l : List β} {B : Nat} {p : Nat × List α} {h h' : Nat} (H : CopI c wh ok pl l B p h) (hh : h ≤ h') : CopI c wh ok pl l B p h' :=
  ⟨H.le, H.pl, H.ok, ⟨H.good.nd, H.good.lo, fun g hg => Nat.lt_of_lt_of_le (H.good.hi g hg) hh, H.good.wh⟩⟩
theorem e_spec_ParseQuery (s : List UInt8) (hb : s.length ≤ 1000) : VC Tryz.prog 136 [.d (.str s)]
   (fun n v => ∃ y : Query, v = .tup [.agg ((cQuery y).map V.d), .d (.bool (prsB' s))] ∧ plQuery y = prsP s ∧ okQuery y ∧ Good (cQuery y) (whQuery y) n ∧ (∀ g, y.atoms.id = some g → y.atoms.T = some (78, 2)) ∧ (∀ g, y.out.id = some g → y.out.T = some (3, 1))) := by
  refine VC.of E s136 (by kernel_rfl) Tryz.func136 (by rfl) (by kernel_rfl) (by simp [Tryz.f136]) (by simp [Tryz.f136]) s136_ok fun B => ?_
  have h0 : ∀ n : Nat, plQuery ⟨0, nilS, nilS⟩ = ⟨0, [], []⟩ ∧ okQuery ⟨0, nilS, nilS⟩ ∧ Good (cQuery ⟨0, nilS, nilS⟩) (whQuery ⟨0, nilS, nilS⟩) n := fun n =>
    ⟨by simp [plQuery, nilS, plS], ⟨trivial, ok_nilS, ok_nilS⟩, by simp [cQuery, cCnt, nilS, cS, cI, dSl, idsL, D.ids, idsLL], by simp [cQuery, cCnt, nilS, cS, cI, dSl, idsL, D.ids, idsLL], ⟨trivial, ⟨⟨by simp [nilS], by simp [nilS]⟩, by simp [nilS]⟩, ⟨⟨by simp [nilS], by simp [nilS]⟩, by simp [nilS]⟩⟩⟩
  simp [Tryz.f136, s136_10, s136_17, s136_10, s136_17, ]
  refine call_some (VC.track (w_spec_l5Cut s 61 (by omega)) (by simp) (by simp [V.pn])) (by simp) (by simp) fun n1 hs1 r1 hn1 hm1 hp1 hr1 => ?_
  obtain ⟨hq1, ht1⟩ := hp1
  obtain ⟨⟨wid, wT, w⟩, rfl, pw⟩ := rp_sl tk_Str hq1 ht1
  have pw : w = cutB 61 s := by simpa [plS] using pw
  simp at hn1
  have hB : prsB' s = (decide (w.length = 2) && decide (fmtQ (prsC s) = s) && decide (s ≠ [])) := by rw [pw]; rfl
  by_cases hw2 : w.length = 2
  case neg =>
    have hw2' : ¬ (w.length : Int) = 2 := by omega
    have hBf : prsB' s = false := by rw [hB]; simp [hw2]
    have hP : prsP s = ⟨0, [], []⟩ := by rw [prsP, if_neg (by rw [hBf]; simp)]
    simp [hw2, hw2', hBf, hP, dSl, cS, s136_10, s136_17, ]
    exact ⟨⟨0, nilS, nilS⟩, by simp [cQuery, cS, dSl, nilS], (h0 B).1, (h0 B).2.1, (h0 B).2.2, by simp [nilS], by simp [nilS]⟩
  obtain ⟨w0, w1, rfl⟩ : ∃ w0 w1, w = [w0, w1] := by
    match w, hw2 with
    | [a, b], _ => exact ⟨a, b, rfl⟩
  have hC : prsC s = ⟨prsM (cutB 44 w1), (cutB 44 w1).map prsA, lstV w0⟩ := by rw [prsC, ← pw]; rfl
  have hwl0 : w0.length ≤ 1000 := Nat.le_trans (cutB_mem (c := 61) (s := s) (by rw [← pw]; simp)) hb
  have hwl1 : w1.length ≤ 1000 := Nat.le_trans (cutB_mem (c := 61) (s := s) (by rw [← pw]; simp)) hb
  simp [dSl, cS, s136_10, s136_17, ]
  refine call_some (e_spec_l7List w0 (by omega)) (by simp) (by simp) fun n2 hs2 r2 hn2 hm2 hp2 hr2 => ?_
  obtain ⟨y0, rfl, p0, k0, G0, T0⟩ := hp2
  simp at hn2
  have u0 : ∀ g ∈ idsL (cS cI y0), g < hs2 := fun g hg => hr2 g (by rw [idsL_cS] at hg; exact hg)
  simp [dSl, cS, s136_10, s136_17, ]
  refine call_some (VC.track (w_spec_l5Cut w1 44 (by omega)) (by simp) (by simp [V.pn])) (by simp) (by simp) fun n3 hs3 r3 hn3 hm3 hp3 hr3 => ?_
  obtain ⟨hq3, ht3⟩ := hp3
  obtain ⟨⟨cid, cT, ls⟩, rfl, pl3⟩ := rp_sl tk_Str hq3 ht3
  have pl3 : ls = cutB 44 w1 := by simpa [plS] using pl3
  have hll : ls.length ≤ 1001 := by rw [pl3]; have := cutB_len 44 w1; omega
  have hlm : ∀ x ∈ ls, x.length ≤ 1000 := fun x hx => by rw [pl3] at hx; exact Nat.le_trans (cutB_mem hx) hwl1
  rw [← pl3] at hC
  simp at hn3
  simp [dSl, cS, s136_17, ]
  refine loop_ruleL (X := Nat × List Atom) (CopI cAtom whAtom okAtom plAtom (ls.map prsA) hs3) (fun p => [(0, .d (.str s)), (2, .ptr 2 0 0), (3, .d (.bool false)), (5, .ptr 5 0 0), (6, .d (.sl cid cT (ls.map cStr))), (7, .d (.int .i64 p.1))]) (fun p => [(2, some (.box [.d (.int .i64 0), .d (.sl none none []), .d (.sl none none [])])), (5, some (.box [.d (.int .i64 (prsM (ls.take p.1))), .own 900 0 p.2.length, .d (dSl cI y0)])), (900, some (.row 78 2 (p.2.map cAtom)))]) (fun p => ls.length - p.1) ?_ ?_
  · refine (lead_box 5 1 900 78 2 [.d (.int .i64 0), .d (.sl none none []), .d (dSl cI y0)] (by omega) (by omega) (by omega) (by simp [dSl]) rfl).bind ?_
    rintro _ rfl
    exact Lead.of ⟨(0, []), .zero, rfl, rfl, Nat.le_refl _, by simp, by simp [dSl, prsM]⟩
  rintro ⟨i, ys⟩ hs t m hI hh
  have hle := hI.le
  have hyl := hI.len
  simp only [List.length_map] at hle
  by_cases hlt : i < ls.length
  · have hwi := wr1 (i := i) (by omega)
    have hL : LenOk 40 (ys.length + 1) := ⟨by omega, by simp only [maxLen]; omega⟩
    obtain ⟨li, hli⟩ : ∃ li, li = ls[i] := ⟨_, rfl⟩
    have hlil : li.length ≤ 1000 := by rw [hli]; exact hlm _ (List.getElem_mem hlt)
    have hns := prsM_step hlt
    have hn5 := prsM_in (ls.take i)
    rw [← hli] at hns
    refine anyQ2 fun Q => ?_
    simp [hlt, ← hli, dSl, s136_17, ]
    refine call_some (VC.track (w_spec_l5Cut li 40 (by omega)) (by simp) (by simp [V.pn])) (by simp) (by simp) fun n4 hs4 r4 hn4 hm4 hp4 hr4 => ?_
    obtain ⟨hq4, ht4⟩ := hp4
    obtain ⟨⟨did, dT, ds⟩, rfl, pd⟩ := rp_sl tk_Str hq4 ht4
    have pd : ds = cutB 40 li := by simpa [plS] using pd
    obtain ⟨d0, dr, rfl⟩ : ∃ d0 dr, ds = d0 :: dr := by
      have := (cutA_len 40 li []).2
      rw [pd]
      cases h : cutB 40 li with
      | nil => exact absurd h this
      | cons a r => exact ⟨a, r, rfl⟩
    have hd0 : d0.length ≤ 1000 := Nat.le_trans (cutB_mem (c := 40) (s := li) (by rw [← pd]; simp)) hlil
    have hpa : ∀ y : Ints, y.xs = lstV li → plAtom ⟨d0, y⟩ = prsA li := fun y h => plA_app d0 y li (by rw [← pd]; rfl) h
    simp at hn4
    simp [hlt, ← hli, dSl, cS, s136_17, ]
    refine cutT (X := Ints) (fun y hs' => y.xs = lstV li ∧ okS okI y ∧ (∃ m, hs4 ≤ m ∧ m ≤ hs' ∧ Good (cAtom ⟨d0, y⟩) (whAtom ⟨d0, y⟩) m) ∧ ∀ g ∈ idsL (cAtom ⟨d0, y⟩), g < hs') (fun _ => [(0, .d (.str s)), (2, .ptr 2 0 0), (3, .d (.bool false)), (5, .ptr 5 0 0), (6, .d (.sl cid cT (ls.map cStr))), (7, .d (.int .i64 i))]) (fun y => [(2, some (.box [.d (.int .i64 0), .d (.sl none none []), .d (.sl none none [])])), (5, some (.box [.d (.int .i64 (prsM (ls.take i))), .own 900 0 (ys ++ [(⟨d0, y⟩ : Atom)]).length, .d (dSl cI y0)])), (900, some (.row 78 2 ((ys ++ [(⟨d0, y⟩ : Atom)]).map cAtom)))]) ?_ ?_
    · intro K hK
      simp [hlt, ← hli, dSl, cS, s136_10, ]
      repeat' apply And.intro
      all_goals
        refine call_some (e_spec_l7List li (by omega)) (by simp) (by simp) fun n5 hs5 r5 hn5' hm5 hp5 hr5 => ?_
        obtain ⟨y, rfl, p5, k5, G5, T5⟩ := hp5
        simp at hn5'
        have u5 : ∀ g ∈ idsL (cAtom ⟨d0, y⟩), g < hs5 := fun g hg => hr5 g (by
          rw [cAtom, idsL_app] at hg
          have := (List.mem_append.1 hg).resolve_left (by simp [cStr, idsL, D.ids])
          rw [idsL_cS] at this; exact this)
        have Ga : Good (cAtom ⟨d0, y⟩) (whAtom ⟨d0, y⟩) n5 := Good.app (good_Str n5 d0) G5 fun g h h' => by simp [cStr, idsL, D.ids] at h
        simp [hL, hlt, ← hli, dSl, cS, s136_10, ]
        exact hK y _ ⟨p5, k5, ⟨n5, by omega, hm5, Ga⟩, u5⟩ rfl rfl (by simp <;> omega) (by simp) (by simp [dSl, cAtom, cStr, cS])
    rintro y hs5 t m ⟨py, ky, ⟨m5, hm5, hm5', Ga⟩, uy⟩ hh5
    obtain ⟨ys2, hys2⟩ : ∃ ys2, ys2 = ys ++ [(⟨d0, y⟩ : Atom)] := ⟨_, rfl⟩
    have hI2 := hI.snoc (by simpa using hlt) (by rw [hpa y py, List.getElem_map, ← hli]) (show okAtom (⟨d0, y⟩ : Atom) from ⟨show d0.length ≤ maxLen by simp only [maxLen]; omega, ky⟩) ⟨by omega, by omega⟩ hm5' Ga uy
    rw [← hys2] at hI2 ⊢
    obtain ⟨n0, hn0⟩ : ∃ n0, n0 = prsM (ls.take i) := ⟨_, rfl⟩
    rw [← hn0] at hns hn5 ⊢
    simp [dSl, cS, s136_17, ]
    refine loop_rule (X := Nat) (fun k => k ≤ li.length) (fun k => [(0, .d (.str s)), (2, .ptr 2 0 0), (3, .d (.bool false)), (5, .ptr 5 0 0), (6, .d (.sl cid cT (ls.map cStr))), (7, .d (.int .i64 i)), (9, .d (.int .i64 k))]) (fun k => [(2, some (.box [.d (.int .i64 0), .d (.sl none none []), .d (.sl none none [])])), (5, some (.box [.d (.int .i64 (vcS n0 (li.take k))), .own 900 0 ys2.length, .d (dSl cI y0)])), (900, some (.row 78 2 (ys2.map cAtom)))]) (fun k => li.length - k) 0 (by simp) (by simp) (by simp [dSl, vcS]) ?_
    intro k hs6 t m hk hh6
    by_cases hkl : k < li.length
    · have hwk := wr1 (i := k) (by omega)
      have hst := vcS_step (n := n0) hkl
      have hin := vcS_in (li.take k) hn5
      obtain ⟨nk, hnk⟩ : ∃ nk, nk = vcS n0 (li.take k) := ⟨_, rfl⟩
      obtain ⟨c, hc⟩ : ∃ c, c = li[k] := ⟨_, rfl⟩
      rw [← hnk, ← hc] at hst
      rw [← hnk] at hin ⊢
      have hsl : (li.drop k).take 1 = [c] := by rw [List.drop_eq_getElem_cons hkl, hc]; rfl
      refine anyQ fun Q => ?_
      simp [hlt, ← hli, hkl, dSl, cS, s136_10, s136_17, ]
      refine loop_rule (X := Int × Int) (fun p => VcI c nk p.1 p.2) (fun p => [(0, .d (.str s)), (2, .ptr 2 0 0), (3, .d (.bool false)), (5, .ptr 5 0 0), (6, .d (.sl cid cT (ls.map cStr))), (7, .d (.int .i64 i)), (9, .d (.int .i64 k)), (10, .d (.int .i64 p.1))]) (fun p => [(2, some (.box [.d (.int .i64 0), .d (.sl none none []), .d (.sl none none [])])), (5, some (.box [.d (.int .i64 p.2), .own 900 0 ys2.length, .d (dSl cI y0)])), (900, some (.row 78 2 (ys2.map cAtom)))]) (fun p => (5 - p.1).toNat) (nk, nk) (VcI.zero hin) (by simp) (by simp [dSl]) ?_
      rintro ⟨v, cur⟩ hs7 t m hV hh7
      have hv5 := hV.le
      simp only at hv5
      by_cases hv : v < 5
      · have hn := hV.step hv
        have hwv : IntKind.i64.wrap (v + 1) = v + 1 := wrap64_of (by omega) (by omega)
        refine anyQ fun Q => ?_
        simp [hlt, ← hli, hkl, hwk, hv, dSl, cS, s136_10, s136_17, ]
        repeat' apply And.intro
        all_goals (try omega)
        all_goals
          refine call_f (w_spec_VariableName v) (by simp) rfl fun hs8 hh8 => ?_
          simp at hh8
          by_cases e : varNm v = [c]
          · rw [if_pos e] at hn
            simp [hlt, ← hli, hkl, hwk, hv, hwv, e, hsl, dSl, cS, s136_10, s136_17, ]
            exact back (_, _) hn (by simp only; omega) rfl (by simp <;> omega) (by simp) (by simp [dSl])
          · rw [if_neg e] at hn
            simp [hlt, ← hli, hkl, hwk, hv, hwv, e, hsl, dSl, cS, s136_10, s136_17, ]
            exact back (_, _) hn (by simp only; omega) rfl (by simp <;> omega) (by simp) (by simp [dSl])
      · have hd := hV.done hv
        simp [hv, hwk, dSl, cS, s136_10, s136_17, ]
        exact back (k + 1) (by omega) (by omega) rfl (by simp <;> omega) (by simp) (by simp [dSl, hst, hd])
    · have hkl' : k = li.length := by omega
      subst hkl'
      simp [hlt, ← hli, hwi, dSl, cS, s136_10, s136_17, ]
      exact back2 (i + 1, ys2) (copI_up hI2 (by simp <;> omega)) (by simp only; omega) rfl (by simp <;> omega) (by simp) (by simp [dSl, hns])
  · have hil : i = ls.length := by omega
    have hall := hI.all (by simp; omega)
    rw [hil, List.take_of_length_le (Nat.le_refl _)]
    have hFq : ∀ g : Option Nat, plQuery ⟨prsM ls, ⟨g, some (78, 2), ys⟩, y0⟩ = prsC s := fun g => by
      rw [hC]
      simp only [plQuery, plS, hall, map_plI, p0, plI]
    have hsz : ∀ a ∈ (prsC s).atoms, a.rel.length ≤ maxLen := fun a ha => by
      rw [hC] at ha
      simp only [List.mem_map] at ha
      obtain ⟨x, hx, rfl⟩ := ha
      have := hlm x hx
      have h2 : ((cutB 40 x).getD 0 []).length ≤ x.length := by
        have h3 := (cutA_len 40 x []).2
        cases h : cutB 40 x with
        | nil => simp
        | cons a r => exact cutB_mem (c := 40) (s := x) (by rw [h]; simp)
      simp only [prsA, maxLen]; omega
    have hpA : hpLL (ys.map cAtom) = false := hpLL_map (fun a => by simp) ys
    have hBe : prsB' s = (decide (fmtQ (prsC s) = s) && decide (s ≠ [])) := by rw [hB]; simp
    refine seqAny2 fun b' => ?_
    simp [dSl, cS, hil, s136_10, s136_17, ]
    refine call_own (post := fun _ r => r = .d (.str (fmtQ (prsC s)))) (by simp) (fun γ n hn hg => ⟨[.agg ((cQuery ⟨prsM ls, ⟨γ 900, some (78, 2), ys⟩, y0⟩).map V.d)], by simp [hpA, cQuery, cS, dSl, List.take_of_length_le], ?_⟩) (by rintro _ _ rfl; simp [V.ids, D.ids, V.hp, D.hp]) fun n9 hs9 r9 hn9 hm9 hp9 hr9 => ?_
    · refine (w_spec_FormatQuery (prsC s) hsz).er ?_
      simp only [rpL, rp, rpL_d, Option.map_some, er_cQuery, hFq]
    obtain rfl := hp9
    replace hn9 : hs ≤ n9 := hn9
    have fin : ∀ (γ : Nat → Option Nat) (hs' : Nat) (σ : St), σ.B = B → σ.m 900 = some (.row 78 2 (ys.map cAtom)) → σ.m 5 = some (.box [.d (.int .i64 (prsM ls)), .own 900 0 ys.length, .d (.sl y0.id y0.T (y0.xs.map cI))]) → Gam σ γ hs' → plQuery ⟨prsM ls, ⟨γ 900, some (78, 2), ys⟩, y0⟩ = prsC s ∧ okQuery ⟨prsM ls, ⟨γ 900, some (78, 2), ys⟩, y0⟩ ∧ Good (cQuery ⟨prsM ls, ⟨γ 900, some (78, 2), ys⟩, y0⟩) (whQuery ⟨prsM ls, ⟨γ 900, some (78, 2), ys⟩, y0⟩) B := fun γ hs' σ hσB hm9 hm5 hg => by
      obtain ⟨q1, q2⟩ := gam_at hg hm9
      rw [hσB] at q1
      have q3 := gam_row hg hm9
      have qf : ∀ g, γ 900 = some g → g ∉ (dSl cI y0).ids := fun g hγ => by
        have hb := (hg.fr 900 78 2 _ g hm9 hγ).1.box 5 _ hm5
        simpa [V.ids, idsVL, D.ids, idsLL, dSl] using hb
      clear hg
      have hG := hI.good
      have K2 : Good (cS cAtom ⟨γ 900, some (78, 2), ys⟩) (whS whAtom ⟨γ 900, some (78, 2), ys⟩) B := good_row (fun g hg => (q1 g hg).1) (by simpa using q2) q3 ⟨hG.nd, fun g hg => Nat.le_trans (by omega) (hG.lo g hg)⟩ hG.wh
      refine ⟨hFq _, ⟨trivial, ⟨by simp only [maxLen]; show ys.length ≤ _; omega, hI.ok⟩, k0⟩, ?_⟩
      have K1 := Good.app (good_I B (prsM ls)) K2 (fun g h h' => by simp [cI, idsL, D.ids] at h)
      have K := Good.app K1 (G0.le (show B ≤ n2 by omega)) (fun g h h' => by
        have h0 := u0 g h'
        rw [idsL_app] at h
        rcases List.mem_append.1 h with h | h
        · simp [cI, idsL, D.ids] at h
        · rw [idsL_cS] at h h'
          simp only [dSl, D.ids, List.mem_append] at h
          rcases h with h | h
          · exact qf g (by cases hk : γ 900 with
              | none => rw [hk] at h; simp at h
              | some z => rw [hk] at h; simp at h; rw [h]) h'
          · have := hG.lo g h; omega)
      exact ⟨K.nd, K.lo, K.wh.1.1, K.wh.1.2, K.wh.2⟩
    by_cases hf : fmtQ (prsC s) = s
    case neg =>
      have hBf : prsB' s = false := by rw [hBe]; simp [hf]
      have hP : prsP s = ⟨0, [], []⟩ := by rw [prsP, if_neg (by rw [hBf]; simp)]
      simp [hf, hBf, hP, dSl, cS, s136_10, s136_17, ]
      exact ⟨⟨0, nilS, nilS⟩, by simp [cQuery, cS, dSl, nilS], (h0 B).1, (h0 B).2.1, (h0 B).2.2, by simp [nilS], by simp [nilS]⟩
    by_cases hs0 : s = []
    · have hBf : prsB' s = false := by rw [hBe]; simp [hs0]
      have hP : prsP s = ⟨0, [], []⟩ := by rw [prsP, if_neg (by rw [hBf]; simp)]
      have hf' := eq_true hf
      have hs0' := eq_true hs0
      simp [hf', hs0', hBf, hP, dSl, cS, s136_10, s136_17, ]
      exact ⟨⟨0, nilS, nilS⟩, by simp [cQuery, cS, dSl, nilS], (h0 B).1, (h0 B).2.1, (h0 B).2.2, by simp [nilS], by simp [nilS]⟩
    have hBf : prsB' s = true := by rw [hBe]; simp [hs0, hf]
    have hP : prsP s = prsC s := by rw [prsP, if_pos hBf]
    have hf' := eq_true hf
    have hs0' := eq_false hs0
    simp [hf', hs0', hBf, hP, dSl, cS, s136_10, s136_17, ]
    intro γ hs' h1' hg
    have hfin := fin γ hs' _ rfl (by simp) (by simp) hg
    clear hg
    exact ⟨⟨prsM ls, ⟨γ 900, some (78, 2), ys⟩, y0⟩, by simp [cQuery, cS, dSl, hpA, List.take_of_length_le], hfin.1, hfin.2.1, hfin.2.2, fun _ _ => rfl, fun _ _ => T0⟩
end

end Go.Proofs.YtmgphabeodaokaaGreat


namespace Go.Proofs.YtmgphabeodaokaaGreat
open Go.Vs Go.Proofs Go
set_option maxRecDepth 100000
set_option maxHeartbeats 1000000

/-- what the draw of a query leaves -/
structure QryC (tA tI : Nat) (b : Sl Int) (n : Nat) (r : V) (cs : List V) : Prop where
  ex : ∃ (c' : Nat × Int) (y : Query), r = .agg ((cQuery y).map V.d) ∧ okQuery y ∧ Good (cQuery y) (whQuery y) n ∧ queryOk (plQuery y) = true ∧ smallQ (plQuery y) ∧ ((∀ g, y.atoms.id = some g → y.atoms.T = some (tA, 2)) ∧ (∀ g, y.out.id = some g → y.out.T = some (tI, 1))) ∧ cs = (curD b c').map V.d ∧ curO b c'
section
attribute [local simp] pS dSl cP cI cW
theorem w_spec_l7Query (b : Sl Int) (c : Nat × Int) (hb : b.xs.length ≤ 1048576) (hc : curO b c) : VX Tryz.prog 115 [] [.ptr 1000 0 0] (some ((curD b c).map V.d)) (fun n r cs _ => QryC 78 3 b n r cs) := by
  refine VX.of E s115 (by kernel_rfl) Tryz.func115 (by rfl) (by kernel_rfl) (by simp [Tryz.f115]) (by simp [Tryz.f115]) s115_ok ?_ ?_ fun B hB => ?_
  · simp
  · rintro cs h
    cases h
    simp [curD]
  simp [Tryz.f115, s115_14, s115_14, curD]
  refine call_curK c E122 (w_spec_l1Pick b c knownQ hb hc (by simp [knownQ]) (by simp [knownQ])) (by simp) (by simp [curD]) (by simp [knownQ, cStr]) fun r0 c0 hs0 hh0 hq0 hl0 o0 => ?_
  obtain ⟨s, rfl, hs⟩ := hq0
  have hsl := known_len s hs
  have hB0 : B ≤ hs0 := hh0
  simp [s115_14, curD]
  refine call_some (e_spec_ParseQuery s (by omega)) (by simp) (by simp) fun n1 hs1 r1 hn1 hm1 hp1 hr1 => ?_
  obtain ⟨q, rfl, pq, kq, Gq, TA, TI⟩ := hp1
  have hn1' : hs0 ≤ n1 := hn1
  have okq := known_ok s hs
  have smq := known_small s hs
  rw [← pq] at okq smq
  obtain ⟨qn, ⟨qaid, qaT, qa⟩, ⟨qoid, qoT, qo⟩⟩ := q
  have hfin : ∀ c' : Nat × Int, curO b c' → QryC 78 3 b B (.agg ((cQuery ⟨qn, ⟨qaid, qaT, qa⟩, ⟨qoid, qoT, qo⟩⟩).map V.d)) ((curD b c').map V.d) := fun c' ho => ⟨⟨c', _, rfl, kq, Gq.le (by omega), okq, smq, ⟨TA, TI⟩, rfl, ho⟩⟩
  simp [cQuery, cS, s115_14, curD]
  refine call_cur c0 E106 (w_spec_l1Once b c0 3 hb o0 (by omega)) (by simp) (by simp [curD]) (by simp) (by simp) fun r2 c2 hs2 hh2 hq2 hl2 o2 => ?_
  obtain ⟨u, rfl⟩ := hq2
  have hh2' : hs1 ≤ hs2 := hh2
  cases u
  · simp [vendX, cQuery, cS, s115_14, curD]
    intro γ hs' h1 hg
    clear hg
    simpa [cQuery, cS, curD] using hfin c2 o2
  simp [cQuery, cS, s115_14, curD]
  refine call_cur c2 E32 (w_spec_l1Below b c2 4 hb o2 (by omega)) (by simp) (by simp [curD]) (by simp) (by simp) fun r3 c3 hs3 hh3 hq3 hl3 o3 => ?_
  obtain ⟨N, rfl, N0, N1, _⟩ := hq3
  have N1 := N1 (by omega)
  have hh3' : hs2 ≤ hs3 := hh3
  have hwN : IntKind.i64.wrap (1 + N) = 1 + N := wrap64_of (by omega) (by omega)
  simp [hwN, s115_14, curD]
  refine call_cur c3 E32 (w_spec_l1Below b c3 4 hb o3 (by omega)) (by simp) (by simp [curD]) (by simp) (by simp) fun r4 c4 hs4 hh4 hq4 hl4 o4 => ?_
  obtain ⟨M, rfl, M0, M1, _⟩ := hq4
  have M1 := M1 (by omega)
  have hh4' : hs3 ≤ hs4 := hh4
  obtain ⟨M, rfl⟩ : ∃ k : Nat, M = k := ⟨M.toNat, by omega⟩
  have hwM : IntKind.i64.wrap (1 + (M : Int)) = ((M + 1 : Nat) : Int) := by rw [wrap64_of (by omega) (by omega)]; omega
  obtain ⟨N', hN'⟩ : ∃ N' : Int, N' = 1 + N := ⟨_, rfl⟩
  simp [hwM, ← hN', cQuery, cS, curD]
  refine loop_ruleL (X := (Nat × Int) × List Atom × Nat) (fun p h => curO b p.1 ∧ p.2.1.length + p.2.2 ≤ 4 ∧ GoodL cAtom whAtom B h p.2.1 ∧ ∀ y ∈ p.2.1, okAtom y) (fun p => [(0, .ptr 1000 0 0), (2, .ptr 2 0 0), (4, .ptr 4 0 0), (6, .ptr 6 0 0), (7, .d (.int .i64 p.2.2))]) (fun p => [(1000, some (.box ((curD b p.1).map V.d))), (2, some (.box [.d (.int .i64 0), .d (.sl none none []), .d (.sl none none [])])), (4, some (.box ((cQuery ⟨qn, ⟨qaid, qaT, qa⟩, ⟨qoid, qoT, qo⟩⟩).map V.d))), (6, some (.box [.d (.int .i64 N'), .own 900 0 p.2.1.length, .d (.sl none none [])])), (900, some (.row 78 2 (p.2.1.map cAtom)))]) (fun p => p.2.2) ?_ ?_
  · refine (lead_box 6 1 900 78 2 [.d (.int .i64 N'), .d (.sl none none []), .d (.sl none none [])] (by omega) (by omega) (by omega) (by simp) rfl).bind ?_
    rintro _ rfl
    exact Lead.of ⟨(c4, [], M + 1), ⟨o4, by simp; omega, GoodL.nil, by simp⟩, rfl, rfl, Nat.le_refl _, by simp, by simp [curD, cQuery, cS]⟩
  rintro ⟨c5, ys, k⟩ hs t m ⟨o5, hyl, hG, hyk⟩ hh
  simp only at o5 hyl hG hyk
  have hh' : hs4 ≤ hs := hh
  cases k with
  | succ k =>
    obtain ⟨u, hu⟩ : ∃ u : Nat, u = k + 1 := ⟨_, rfl⟩
    have hup : 0 < u := by omega
    have hwm : IntKind.i64.wrap ((u : Int) - 1) = k := by rw [wrap64_of (by omega) (by omega)]; omega
    have hL : LenOk 40 (ys.length + 1) := ⟨by omega, by simp only [maxLen]; omega⟩
    rw [← hu] at hyl ⊢
    refine anyQ2 fun Q => ?_
    simp [hup, cQuery, cS, curD, ]
    refine call_cur c5 E32 (w_spec_l1Below b c5 5 hb o5 (by omega)) (by simp) (by simp [curD]) (by simp) (by simp) fun r6 c6 hs6 hh6 hq6 hl6 o6 => ?_
    obtain ⟨x, rfl, x0, x1, _⟩ := hq6
    have x1 := x1 (by omega)
    have hh6' : hs ≤ hs6 := hh6
    obtain ⟨j, rfl⟩ : ∃ j : Nat, x = j := ⟨x.toNat, by omega⟩
    have hj : j < nms.length := by rw [nms_len]; omega
    have hj5 : j < 5 := by omega
    obtain ⟨nm, hnm⟩ : ∃ nm, nm = nms[j]'hj := ⟨_, rfl⟩
    have hnl : nm.length ≤ 10 := by rw [hnm]; exact nms_one _ (List.getElem_mem hj)
    have eN : [[D.str [114]], [D.str [115]], [D.str [116]], [D.str [117]], [D.str [118]]] = nms.map cStr := rfl
    obtain ⟨M2, hM2⟩ : ∃ M2 : Nat, IntKind.i64.wrap (2 + IntKind.i64.wrap ((j : Int) / 4)) = M2 ∧ M2 ≤ 3 := by
      have h5 : j = 0 ∨ j = 1 ∨ j = 2 ∨ j = 3 ∨ j = 4 := by omega
      rcases h5 with rfl | rfl | rfl | rfl | rfl
      · exact ⟨2, by decide, by omega⟩
      · exact ⟨2, by decide, by omega⟩
      · exact ⟨2, by decide, by omega⟩
      · exact ⟨2, by decide, by omega⟩
      · exact ⟨3, by decide, by omega⟩
    obtain ⟨hM2, hM3⟩ := hM2
    simp [eN, hj, hj5, ← hnm, hM2, nms_len, cStr, cQuery, cS, curD, ]
    refine loop_ruleL (X := (Nat × Int) × List Int × Nat) (fun p h => (curO b p.1 ∧ p.2.1.length + p.2.2 ≤ 3)) (fun p => [(0, .ptr 1000 0 0), (2, .ptr 2 0 0), (4, .ptr 4 0 0), (6, .ptr 6 0 0), (7, .d (.int .i64 u)), (9, .ptr 9 0 0), (10, .d (.int .i64 p.2.2))]) (fun p => [(1000, some (.box ((curD b p.1).map V.d))), (2, some (.box [.d (.int .i64 0), .d (.sl none none []), .d (.sl none none [])])), (4, some (.box ((cQuery ⟨qn, ⟨qaid, qaT, qa⟩, ⟨qoid, qoT, qo⟩⟩).map V.d))), (6, some (.box [.d (.int .i64 N'), .own 900 0 ys.length, .d (.sl none none [])])), (900, some (.row 78 2 (ys.map cAtom))), (9, some (.box [.d (.str nm), .own 901 0 p.2.1.length])), (901, some (.row 3 1 (p.2.1.map cI)))]) (fun p => p.2.2) ?_ ?_
    · refine (lead_box 9 1 901 3 1 [.d (.str nm), .d (.sl none none [])] (by omega) (by omega) (by omega) (by simp) rfl).bind ?_
      rintro _ rfl
      exact Lead.of ⟨(c6, [], M2), ⟨o6, by simp; omega⟩, rfl, rfl, Nat.le_refl _, by simp, by simp [curD, cQuery, cS]⟩
    rintro ⟨c7, vs, k2⟩ hs7 t m ⟨o7, hvl⟩ hh7
    simp only at o7 hvl
    have hh7' : hs6 ≤ hs7 := hh7
    cases k2 with
    | succ k2 =>
      obtain ⟨u2, hu2⟩ : ∃ u2 : Nat, u2 = k2 + 1 := ⟨_, rfl⟩
      have hup2 : 0 < u2 := by omega
      have hwm2 : IntKind.i64.wrap ((u2 : Int) - 1) = k2 := by rw [wrap64_of (by omega) (by omega)]; omega
      have hL2 : LenOk 8 (vs.length + 1) := ⟨by omega, by simp only [maxLen]; omega⟩
      rw [← hu2] at hvl ⊢
      refine anyQ2 fun Q => ?_
      simp [hup2, cQuery, cS, curD, ]
      refine cutT (X := (Nat × Int) × Int) (fun p _ => curO b p.1) (fun _ => [(0, .ptr 1000 0 0), (2, .ptr 2 0 0), (4, .ptr 4 0 0), (6, .ptr 6 0 0), (7, .d (.int .i64 u)), (9, .ptr 9 0 0), (10, .d (.int .i64 u2))]) (fun p => [(1000, some (.box ((curD b p.1).map V.d))), (2, some (.box [.d (.int .i64 0), .d (.sl none none []), .d (.sl none none [])])), (4, some (.box ((cQuery ⟨qn, ⟨qaid, qaT, qa⟩, ⟨qoid, qoT, qo⟩⟩).map V.d))), (6, some (.box [.d (.int .i64 N'), .own 900 0 ys.length, .d (.sl none none [])])), (900, some (.row 78 2 (ys.map cAtom))), (9, some (.box [.d (.str nm), .own 901 0 (vs ++ [p.2]).length])), (901, some (.row 3 1 ((vs ++ [p.2]).map cI)))]) ?_ ?_
      · intro K hK
        simp [hup2, cQuery, cS, curD, s115_14, ]
        repeat' apply And.intro
        all_goals
          refine call_cur c7 E32 (w_spec_l1Below b c7 N' hb o7 (by omega)) (by simp) (by simp [curD]) (by simp) (by simp) fun r8 c8 hs8 hh8 hq8 hl8 o8 => ?_
          obtain ⟨v, rfl, _, _, _⟩ := hq8
          simp [hL2, hup2, List.take_of_length_le, cQuery, cS, curD, s115_14, ]
          exact hK (c8, v) _ o8 rfl rfl (by simpa using hh8) (by simp) (by simp [curD, cQuery, cS])
      rintro ⟨c8, v⟩ hs8 t m o8 hh8
      simp only at o8
      simp [hwm2, cQuery, cS, curD, ]
      exact back2 (c8, vs ++ [v], k2) ⟨o8, by simp; omega⟩ (by simp only; omega) rfl (by simp <;> omega) (by simp) (by simp [curD, cQuery, cS])
    | zero =>
      have hpI : hpLL (vs.map cI) = false := hpLL_mapI _
      simp [cQuery, cS, curD, ]
      rw [w_bs1 (k' := 901) (ks := []) _ _ _ (by simp) (by simp)]
      intro γ hs8 h1 hg
      simp only at h1
      obtain ⟨q1, q2⟩ := gam_at hg (k := 901) (T := 3) (sz := 1) (es := vs.map cI) (by simp)
      have q3 := gam_row2 hg (k := 901) (T := 3) (sz := 1) (es := vs.map cI) (k2 := 900) (T2 := 78) (sz2 := 2) (es2 := ys.map cAtom) (by simp) (by simp)
      clear hg
      have hid : ∀ L : List Int, idsLL (L.map cI) = [] := fun L => by simp
      simp [vpre, vnext, veff, vval, isPure, St.frzs, St.frz, Vs.frz, hpI, hL, hwm, List.take_of_length_le]
      have hgi : Good (cS cI (⟨γ 901, some (3, 1), vs⟩ : Ints)) (whS whI ⟨γ 901, some (3, 1), vs⟩) B := good_ints (fun g hg => (q1 g hg).1) (by simpa using q2)
      have hy : ∀ g, g ∈ idsL (cAtom ⟨nm, ⟨γ 901, some (3, 1), vs⟩⟩) → γ 901 = some g := fun g hg => by
        rw [cAtom, idsL_app] at hg
        have hg := (List.mem_append.1 hg).resolve_left (by simp [cStr, idsL, D.ids])
        rw [idsL_cS] at hg
        rcases mem_sl_ids.1 hg with h | h
        · exact h
        · simp only at h; rw [hid] at h; simp at h
      have hGa : Good (cAtom ⟨nm, ⟨γ 901, some (3, 1), vs⟩⟩) (whAtom ⟨nm, ⟨γ 901, some (3, 1), vs⟩⟩) B := Good.app (good_Str B nm) hgi fun g h h' => by simp [cStr, idsL, D.ids] at h
      refine back2 (c7, ys ++ [⟨nm, ⟨γ 901, some (3, 1), vs⟩⟩], k) ⟨o7, by simp; omega, ?_, ?_⟩ (by simp only; omega) rfl (by simp <;> omega) (by simp) (by simp [curD, cAtom, cStr, cQuery, cS, List.take_of_length_le])
      · exact GoodL.snoc2 hG (by simp <;> omega) hGa (fun g hg => q3 g (hy g hg)) (fun g hg => (q1 g (hy g hg)).2)
      · intro z hz
        rcases List.mem_append.1 hz with hz | hz
        · exact hyk z hz
        · rw [List.mem_singleton.1 hz]
          exact ⟨show nm.length ≤ maxLen by simp only [maxLen]; omega, by show vs.length ≤ maxLen; simp only [maxLen]; omega, fun _ _ => trivial⟩
  | zero =>
    have hN5 : 1 ≤ N' ∧ N' ≤ 4 := by omega
    refine seqAny2 fun b' => ?_
    simp [cQuery, cS, curD, ]
    refine loop_rule2 (X := (Nat × Int) × Ints × Nat) (fun p h => (curO b p.1 ∧ (p.2.2 : Int) ≤ N' ∧ p.2.1.xs.length ≤ p.2.2) ∧ okS okI p.2.1 ∧ Good (cS cI p.2.1) (whS whI p.2.1) B ∧ (∀ g ∈ idsL (cS cI p.2.1), g < h ∧ g ∉ idsLL (ys.map cAtom)) ∧ ∀ g, p.2.1.id = some g → p.2.1.T = some (3, 1)) (fun p => [(0, .ptr 1000 0 0), (2, .ptr 2 0 0), (4, .ptr 4 0 0), (6, .ptr 6 0 0), (11, .d (.int .i64 p.2.2))]) (fun p => [(1000, some (.box ((curD b p.1).map V.d))), (2, some (.box [.d (.int .i64 0), .d (.sl none none []), .d (.sl none none [])])), (4, some (.box ((cQuery ⟨qn, ⟨qaid, qaT, qa⟩, ⟨qoid, qoT, qo⟩⟩).map V.d))), (6, some (.box [.d (.int .i64 N'), .own 900 0 ys.length, .d (dSl cI p.2.1)])), (900, some (.row 78 2 (ys.map cAtom)))]) (fun p => 5 - p.2.2) (c5, nilS, 0) ⟨⟨o5, by simp; omega, by simp [nilS]⟩, ok_nilS, good_nilS B, fun g hg => by rw [idsL_cS] at hg; simp [nilS, dSl, D.ids, idsLL] at hg, by simp [nilS]⟩ (by simp) (by simp [curD, cQuery, cS, nilS]) ?_
    rintro ⟨c6, out, i⟩ hs6 t m ⟨⟨o6, hiN, hol⟩, hok, hGo, hgo, hTo⟩ hh6
    simp only at o6 hiN hol hok hGo hgo hTo
    by_cases hlt : (i : Int) < N'
    · have hwi := wr1 (i := i) (by omega)
      refine anyQ2 fun Q => ?_
      simp [hlt, cQuery, cS, curD, s115_14, ]
      refine call_cur c6 E106 (w_spec_l1Once b c6 2 hb o6 (by omega)) (by simp) (by simp [curD]) (by simp) (by simp) fun r7 c7 hs7 hh7 hq7 hl7 o7 => ?_
      obtain ⟨u, rfl⟩ := hq7
      have hh7' : hs6 ≤ hs7 := hh7
      cases u
      · simp [hwi, cQuery, cS, curD, s115_14, ]
        exact back2 (c7, out, i + 1) ⟨⟨o7, by simp only; omega, by simp only; omega⟩, hok, hGo, fun g hg => ⟨by have := (hgo g hg).1; simp <;> omega, (hgo g hg).2⟩, hTo⟩ (by simp only; omega) rfl (by simp <;> omega) (by simp) (by simp [curD, cQuery, cS])
      · have hL : LenOk 8 (1 + out.xs.length) := ⟨by omega, by simp only [maxLen]; omega⟩
        have hL' : LenOk 8 (out.xs.length + 1) := ⟨by omega, by simp only [maxLen]; omega⟩
        simp [hwi, hL, hL', List.take_of_length_le, cQuery, cS, curD, s115_14, ]
        refine Back2.lead (lead_frz 73 (T := 3) (sz := 1) (es := ((i : Int) :: out.xs).map cI) (by simp)) ?_
        rintro _ ⟨γ, hs8, h8, hg, rfl⟩
        obtain ⟨q1, q2⟩ := gam_at hg (k := 73) (T := 3) (sz := 1) (es := ((i : Int) :: out.xs).map cI) (by simp)
        have q3 := gam_row2 hg (k := 73) (T := 3) (sz := 1) (es := ((i : Int) :: out.xs).map cI) (k2 := 900) (T2 := 78) (sz2 := 2) (es2 := ys.map cAtom) (by simp) (by simp)
        clear hg
        simp only at h8 q1
        have hpo : hpLL (out.xs.map cI) = false := hpLL_mapI _
        have hy : ∀ g, g ∈ idsL (cS cI (⟨γ 73, some (3, 1), (i : Int) :: out.xs⟩ : Ints)) → γ 73 = some g := fun g hg => by
          rw [idsL_cS] at hg
          rcases mem_sl_ids.1 hg with h | h
          · exact h
          · have hid : ∀ L : List Int, idsLL (L.map cI) = [] := fun L => by simp
            simp only at h
            rw [hid] at h
            cases h
        refine back2 (c7, ⟨γ 73, some (3, 1), (i : Int) :: out.xs⟩, i + 1) ⟨⟨o7, by simp only; omega, by simp only [List.length_cons]; omega⟩, ⟨by simp only [List.length_cons, maxLen]; omega, fun _ _ => trivial⟩, good_ints (fun g hg => (q1 g hg).1) (by simpa using q2), fun g hg => ⟨by have := (q1 g (hy g hg)).2; simpa using this, q3 g (hy g hg)⟩, fun _ _ => rfl⟩ (by simp only; omega) rfl (by simp <;> omega) (by simp) (by simp [hpo, Vs.frz, St.frz, Nat.add_comm 1, List.take_of_length_le, curD, cQuery, cS])
    · have hlt' := hlt
      refine seqAny2 fun b' => ?_
      simp [hlt, cQuery, cS, curD, s115_14, ]
      have hpA : hpLL (ys.map cAtom) = false := hpLL_map (fun a => by simp) ys
      have hQe : ∀ g : Option Nat, plQuery ⟨N', ⟨g, some (78, 2), ys⟩, out⟩ = ⟨N', ys.map plAtom, out.xs⟩ := fun g => by
        simp only [plQuery, plS, map_plI, plI]
      have hsz : ∀ a ∈ (⟨N', ys.map plAtom, out.xs⟩ : PQuery).atoms, a.rel.length ≤ maxLen := fun a ha => by
        obtain ⟨y, hy, rfl⟩ := List.mem_map.1 ha
        exact (hyk y hy).1
      refine call_own (post := fun _ r => r = .d (.bool (queryOk ⟨N', ys.map plAtom, out.xs⟩))) (by simp) (fun γ n hn hg => ⟨[.agg ((cQuery ⟨N', ⟨γ 900, some (78, 2), ys⟩, out⟩).map V.d)], by simp [hpA, cQuery, cS, dSl, List.take_of_length_le], ?_⟩) (by rintro _ _ rfl; simp [V.ids, D.ids, V.hp, D.hp]) fun n9 hs9 r9 hn9 hm9 hp9 hr9 => ?_
      · refine (w_spec_IsValidQuery ⟨N', ys.map plAtom, out.xs⟩ hsz).er ?_
        simp only [rpL, rp, rpL_d, Option.map_some, er_cQuery, hQe]
      obtain rfl := hp9
      replace hn9 : hs6 ≤ n9 := hn9
      cases hv : queryOk ⟨N', ys.map plAtom, out.xs⟩
      · simp [vendX, cQuery, cS, s115_14, curD]
        intro γ hs' h1 hg
        clear hg
        simpa [cQuery, cS, curD] using hfin c6 o6
      simp [vendX, cQuery, cS, s115_14, curD]
      intro γ hs' h1 hg
      obtain ⟨q1, q2⟩ := gam_at hg (k := 900) (T := 78) (sz := 2) (es := ys.map cAtom) (by simp)
      have q3 := gam_row hg (k := 900) (T := 78) (sz := 2) (es := ys.map cAtom) (by simp)
      have qf : ∀ g, γ 900 = some g → g ∉ idsL (cS cI out) := fun g hγ => by
        have hb := (hg.fr 900 78 2 (ys.map cAtom) g (by simp) hγ).1.box 6 [.d (.int .i64 N'), .own 900 0 ys.length, .d (dSl cI out)] (by simp)
        rw [idsL_cS]
        simpa [V.ids, idsVL, D.ids, idsLL, dSl] using hb
      clear hg
      have K2 : Good (cS cAtom ⟨γ 900, some (78, 2), ys⟩) (whS whAtom ⟨γ 900, some (78, 2), ys⟩) B := good_row (fun g hg => (q1 g hg).1) (by simpa using q2) q3 ⟨hG.nd, hG.lo⟩ hG.wh
      have K1 := Good.app (good_I B N') K2 (fun g h h' => by simp [cI, idsL, D.ids] at h)
      have K := Good.app K1 hGo (fun g h h' => by
        rw [idsL_app] at h
        rcases List.mem_append.1 h with h | h
        · simp [cI, idsL, D.ids] at h
        · rw [idsL_cS] at h
          rcases mem_sl_ids.1 h with h | h
          · exact qf g h h'
          · exact (hgo g h').2 h)
      have hfx : QryC 78 3 b B (.agg ((cQuery ⟨N', ⟨γ 900, some (78, 2), ys⟩, out⟩).map V.d)) ((curD b c6).map V.d) := ⟨⟨c6, _, rfl, ⟨trivial, ⟨by simp only [maxLen]; show ys.length ≤ _; omega, hyk⟩, hok⟩, ⟨K.nd, K.lo, K.wh.1.1, K.wh.1.2, K.wh.2⟩, by rw [hQe]; exact hv, by rw [hQe]; exact .inl (by simp only; omega), ⟨fun _ _ => rfl, hTo⟩, rfl, o6⟩⟩
      simpa [hpA, cQuery, cS, curD, List.take_of_length_le] using hfx
end

end Go.Proofs.YtmgphabeodaokaaGreat


namespace Go.Proofs.YtmgphabeodaokaaGreat
open Go.Vs Go.Proofs Go
set_option maxRecDepth 100000
set_option maxHeartbeats 1000000

theorem call_qry {tA tI : Nat} {P : Program} {E : Md} {args : List Operand} {f : FuncId} {rest As : List V} {k : Nat} {dst : Option Tmp} {K : St → Prop} {σ : St} {b : Sl Int} (c : Nat × Int) (hE : E f = true)
    (hc : VX P f [] (.ptr 1000 0 0 :: As) (some ((curD b c).map V.d)) (fun n r cs _ => QryC tA tI b n r cs)) (hvs : args.map σ.ev = .ptr k 0 0 :: rest) (hm : σ.m k = some (.box ((curD b c).map V.d)))
    (hr : rpL σ.m rest = some As) (hk : keysVL rest = [])
    (hK : ∀ (y : Query) c' n hs', σ.hs ≤ n → n ≤ hs' → okQuery y → Good (cQuery y) (whQuery y) n → (∀ g ∈ idsL (cQuery y), g < hs') → queryOk (plQuery y) = true → smallQ (plQuery y) → (∀ g, y.atoms.id = some g → y.atoms.T = some (tA, 2)) → (∀ g, y.out.id = some g → y.out.T = some (tI, 1)) → curO b c' → K ({ σ with hs := hs', m := upd σ.m k (some (.box ((curD b c').map V.d))) }.put dst (.agg ((cQuery y).map V.d)))) : vcallA P E f args (.ptr k 0 0 :: rest) dst K σ := by
  refine call_xi hE hvs hm hr (by simp [curD, dSl]) hc fun r cs' ws n hs' h1 h2 h3 h4 h5 h9 => ?_
  obtain ⟨c', y, rfl, h6, h7, h8, h10, ⟨h11, h12⟩, rfl, ho⟩ := h3.ex
  have : keysVL rest ++ keysVL ((curD b c).map V.d) = [] := by rw [hk]; simp [curD]
  rw [this]
  exact hK y c' n hs' h1 h2 h6 h7 (fun g hg => h9 g (by rw [ids_agg]; exact hg)) h8 h10 h11 h12 ho
/-- what the draw of a query leaves that need not be right -/
structure QryA (b : Sl Int) (r : V) (cs : List V) : Prop where
  ex : ∃ (c' : Nat × Int) (y : Query), r = .agg ((cQuery y).map V.d) ∧ okQuery y ∧ QA (plQuery y) ∧ cs = (curD b c').map V.d ∧ curO b c'
section
attribute [local simp] pS dSl cP cI cW
theorem cAtom_len (t : Atom) : (cAtom t).length = 2 := by simp [cAtom, cStr, cS, cI]
theorem re_raw {g : Nat} {T : TypeId × Nat} {es es' : List (List D)} (h : es'.map List.length = es.map List.length) : reV (one g (.sl (some g) (some T) es')) (.d (.sl (some g) (some T) es)) = .d (.sl (some g) (some T) es') := by
  have h1 : reD (one g (.sl (some g) (some T) es')) (.sl (some g) (some T) es) = some (.sl (some g) (some T) es') := by
    simp only [reD, one, if_true]
    rw [if_pos]
    exact ⟨trivial, rfl, trivial, h⟩
  simp only [reV, h1]
theorem w_spec_l7Any (b : Sl Int) (c : Nat × Int) (hb : b.xs.length ≤ 1048576) (hc : curO b c) : VX Tryz.prog 117 [] [.ptr 1000 0 0] (some ((curD b c).map V.d)) (fun _ r cs _ => QryA b r cs) := by
  refine VX.of E s117 (by kernel_rfl) Tryz.func117 (by rfl) (by kernel_rfl) (by simp [Tryz.f117]) (by simp [Tryz.f117]) s117_ok ?_ ?_ fun B hB => ?_
  · simp
  · rintro cs h
    cases h
    simp [curD]
  simp [Tryz.f117, s117_6, s117_8, s117_12, s117_6, s117_8, s117_12, curD]
  refine call_qry c E115 (w_spec_l7Query b c hb hc) (by simp) (by simp [curD]) (by simp) (by simp) fun q c0 n0 hs0 hn0 hm0 kq Gq uq okq smq TA TI o0 => ?_
  obtain ⟨qn, ⟨qaid, qaT, qa⟩, ⟨qoid, qoT, qo⟩⟩ := q
  have hnB : B ≤ n0 := hn0
  have hQ : plQuery ⟨qn, ⟨qaid, qaT, qa⟩, ⟨qoid, qoT, qo⟩⟩ = ⟨qn, qa.map plAtom, qo⟩ := by simp only [plQuery, plS, map_plI, plI]
  rw [hQ] at okq smq
  have hsm := qok_small okq
  have hqv := qok_vars okq
  simp only [List.length_map] at hsm hqv
  obtain ⟨hal, hol, hat⟩ := hsm
  obtain ⟨⟨ar, ⟨avid, avT, av⟩⟩, ra, rfl⟩ : ∃ a ra, qa = a :: ra := by
    cases qa with
    | nil => simp at hqv
    | cons a r => exact ⟨a, r, rfl⟩
  have hav : 1 ≤ av.length := by
    have := (hqv.1 (plAtom ⟨ar, ⟨avid, avT, av⟩⟩) (by simp)).1
    simpa [plAtom, plS] using this
  obtain ⟨v0, rv, rfl⟩ : ∃ v rv, av = v :: rv := by
    cases av with
    | nil => simp at hav
    | cons a r => exact ⟨a, r, rfl⟩
  obtain ⟨_, hok1, hok2⟩ := kq
  have wh1 := Gq.wh.2.1
  have wh2 := Gq.wh.2.2
  obtain ⟨ga, rfl⟩ : ∃ ga, qaid = some ga := by
    cases hq : qaid with
    | none => have := wh1.1.nil hq; simp at this
    | some g => exact ⟨g, rfl⟩
  obtain rfl : qaT = some (78, 2) := TA ga rfl
  have wh3 := wh1.2 ⟨ar, ⟨avid, avT, v0 :: rv⟩⟩ (by simp)
  obtain ⟨gv, rfl⟩ : ∃ gv, avid = some gv := by
    cases hq : avid with
    | none => have := wh3.2.1.nil hq; simp at this
    | some g => exact ⟨g, rfl⟩
  obtain ⟨Tv, rfl⟩ : ∃ Tv, avT = some Tv := Option.isSome_iff_exists.1 (wh3.2.1.some (by simp))
  have eI : idsL (cQuery ⟨qn, ⟨some ga, some (78, 2), ⟨ar, ⟨some gv, some Tv, v0 :: rv⟩⟩ :: ra⟩, ⟨qoid, qoT, qo⟩⟩) = ga :: gv :: (idsLL (ra.map cAtom) ++ qoid.toList) := by
    simp [cQuery, cAtom, cStr, cS, idsL, D.ids, idsLL]
  have hnd := Gq.nd
  have hlo := Gq.lo
  rw [eI] at hnd hlo
  simp only [List.nodup_cons, List.mem_cons, List.mem_append, not_or] at hnd
  obtain ⟨⟨n1, n2, n3⟩, ⟨n4, n5⟩, n6⟩ := hnd
  have n7 := (List.nodup_append.1 n6).2.2
  have b1 : B ≤ ga := by have := hlo ga (by simp); omega
  have b2 : B ≤ gv := by have := hlo gv (by simp); omega
  have b3 : ∀ g, qoid = some g → B ≤ g := fun g hg => by have := hlo g (by simp [hg]); omega
  have n3' : qoid ≠ some ga := fun h => n3 (by simp [h])
  have n5' : qoid ≠ some gv := fun h => n5 (by simp [h])
  have hn5 := queryOk_n5 okq
  simp only at hn5
  have hwn : IntKind.i64.wrap (qn + 1) = qn + 1 := wrap64_of (by omega) (by omega)
  have okA := hok1.2 ⟨ar, ⟨some gv, some Tv, v0 :: rv⟩⟩ (by simp)
  have okR : ∀ a ∈ ra, okAtom a := fun a ha => hok1.2 a (by simp [ha])
  have hal2 : ra.length ≤ 3 := by simp only [List.length_cons] at hal; omega
  have eC : cAtom ⟨ar, ⟨some gv, some Tv, v0 :: rv⟩⟩ = [.str ar, .sl (some gv) (some Tv) ([.int .i64 v0] :: rv.map cI)] := by simp [cAtom, cStr, cS]
  have hcur : ∀ f : Nat → Option D, (∀ j, B ≤ j ∨ f j = none) → reV f (.d (.sl b.id b.T (b.xs.map cW))) = .d (.sl b.id b.T (b.xs.map cW)) := fun f hf => reV_id _ (fun j hj => by
    rcases hf j with h | h
    · have := hB j (.inr (by simpa [curD] using hj)); omega
    · exact h) (by simp [tkLL_mapW])
  simp [cQuery, cS, eC, s117_6, s117_8, s117_12, curD]
  refine call_cur c0 E32 (w_spec_l1Below b c0 14 hb o0 (by omega)) (by simp) (by simp [curD]) (by simp) (by simp) fun r2 c2 hs2 hh2 hq2 hl2 o2 => ?_
  obtain ⟨u, rfl, u0, u1, _⟩ := hq2
  refine forgetG [(0, .ptr 1000 0 0), (2, .ptr 2 0 0), (3, .ptr 3 0 0), (7, .d (.int .i64 u))] [(1000, some (.box ((curD b c2).map V.d))), (2, some (.box [.d (.int .i64 0), .d (.sl none none []), .d (.sl none none [])])), (3, some (.box [.d (.int .i64 qn), .d (.sl (some ga) (some (78, 2)) ([.str ar, .sl (some gv) (some Tv) ([.int .i64 v0] :: rv.map cI)] :: ra.map cAtom)), .d (.sl qoid qoT (qo.map cI))]))] (by simp) (by simp [curD, cQuery, cS]) fun t m => ?_
  have fin : ∀ (c' : Nat × Int) (y : Query), curO b c' → okQuery y → QA (plQuery y) → QryA b (.agg ((cQuery y).map V.d)) ((curD b c').map V.d) := fun c' y h1 h2 h3 => ⟨⟨c', y, rfl, h2, h3, rfl, h1⟩⟩
  by_cases e0 : u = 0
  · subst e0
    simp [hwn, curD, s117_6, s117_8, s117_12, ]
    refine call_curK c2 E135 (w_spec_l1PickInt b c2 [0, 6, qn + 1] hb o2 (by simp) (by simp)) (by simp) (by simp [curD]) (by simp) fun r3 c3 hs3 hh3 hq3 hl3 o3 => ?_
    obtain ⟨v, rfl, hv⟩ := hq3
    simp [vendX, curD, s117_6, s117_8, s117_12, ]
    intro γ hs' h1 hg
    clear hg
    have := fin c3 ⟨v, ⟨some ga, some (78, 2), ⟨ar, ⟨some gv, some Tv, v0 :: rv⟩⟩ :: ra⟩, ⟨qoid, qoT, qo⟩⟩ o3 ⟨trivial, hok1, hok2⟩ (by have := QA.n okq hv; simpa only [plQuery, plS, map_plI, plI] using this)
    simpa [cQuery, cS, curD, eC] using this
  by_cases e1 : u = 1
  · subst e1
    have hp0 : hpLL (ra.map cAtom) = false := hpLL_map (fun a => by simp) ra
    have L0 : LenOk 8 1 := ⟨by omega, by simp only [maxLen]; omega⟩
    have L1 : LenOk 40 (ra.length + 1 + 1) := ⟨by omega, by simp only [maxLen]; omega⟩
    have k1 : ∀ j, B ≤ j ∨ kphi (some ga) j = none := fun j => by
      by_cases h : j = ga
      · left; omega
      · right; simp only [kphi]; rw [if_neg (by simpa using Ne.symm h)]
    have kC := hcur _ k1
    have kO : reV (kphi (some ga)) (.d (.sl qoid qoT (qo.map cI))) = .d (.sl qoid qoT (qo.map cI)) := reV_id (.d (dSl cI ⟨qoid, qoT, qo⟩)) fun j hj => by
      have hne : j ≠ ga := fun e => by
        rcases mem_sl_ids.1 hj with h | h
        · subst e; exact n3' h
        · simp at h
      simp only [kphi]; rw [if_neg (by simpa using Ne.symm hne)]
    have f1 : ga ∉ idsLL ([.str ar, .sl (some gv) (some Tv) ([.int .i64 v0] :: rv.map cI)] :: ra.map cAtom) := by simp [idsLL, idsL, D.ids]; exact ⟨n1, n2⟩
    have F0 : ∀ (nm : List UInt8) (g24 : Nat), g24 ≠ ga → ga ∉ idsLL [[.str nm, .sl (some g24) (some (3, 1)) [[.int .i64 0]]]] := fun nm g24 h => by simp [idsLL, idsL, D.ids]; exact Ne.symm h
    have KE : ∀ (nm : List UInt8) (g24 : Nat), g24 ≠ ga → reLL (kphi (some ga)) ([.str ar, .sl (some gv) (some Tv) ([.int .i64 v0] :: rv.map cI)] :: (ra.map cAtom ++ [[.str nm, .sl (some g24) (some (3, 1)) [[.int .i64 0]]]])) = some ([.str ar, .sl (some gv) (some Tv) ([.int .i64 v0] :: rv.map cI)] :: (ra.map cAtom ++ [[.str nm, .sl (some g24) (some (3, 1)) [[.int .i64 0]]]])) := fun nm g24 h => by
      have e : [.str ar, .sl (some gv) (some Tv) ([.int .i64 v0] :: rv.map cI)] :: (ra.map cAtom ++ [[.str nm, .sl (some g24) (some (3, 1)) [[D.int .i64 0]]]]) = ((⟨ar, ⟨some gv, some Tv, v0 :: rv⟩⟩ : Atom) :: ra ++ [(⟨nm, ⟨some g24, some (3, 1), [0]⟩⟩ : Atom)]).map cAtom := by simp [cAtom, cStr, cS]
      refine reLL_id _ (fun j hj => ?_) (by rw [e]; exact tkLL_map _ (by simp))
      have hne : j ≠ ga := fun e => by
        subst e
        rw [← List.cons_append, idsLL_append] at hj
        rcases List.mem_append.1 hj with h2 | h2
        · exact f1 h2
        · exact F0 nm g24 h h2
      simp only [kphi]; rw [if_neg (by simpa using Ne.symm hne)]
    simp [curD, s117_6, s117_8, s117_12, ]
    repeat' apply And.intro
    all_goals
      refine call_curK c2 E122 (w_spec_l1Pick b c2 [[], [119], [114]] hb o2 (by simp) (by simp)) (by simp) (by simp [curD]) (by simp [cStr]) fun r3 c3 hs3 hh3 hq3 hl3 o3 => ?_
      obtain ⟨nm, rfl, hnm⟩ := hq3
      have hnl : nm.length ≤ 10 := by
        simp only [List.mem_cons, List.not_mem_nil, or_false] at hnm
        rcases hnm with rfl | rfl | rfl <;> simp
      simp [curD, s117_6, s117_8, s117_12, ]
      rw [w_bs1 (k' := 24) (ks := []) _ _ _ (by simp) (by simp)]
      intro γ hs4 h1 hg
      obtain ⟨q1, q2⟩ := gam_at hg (k := 24) (T := 3) (sz := 1) (es := [[.int .i64 0]]) (by simp)
      obtain ⟨g24, h24⟩ := Option.ne_none_iff_exists'.1 (q2 (by simp))
      have qf : g24 ≠ ga := fun e => by
        have hb := (hg.fr 24 3 1 [[.int .i64 0]] g24 (by simp) h24).1.box 3 [.d (.int .i64 qn), .d (.sl (some ga) (some (78, 2)) ([.str ar, .sl (some gv) (some Tv) ([.int .i64 v0] :: rv.map cI)] :: ra.map cAtom)), .d (.sl qoid qoT (qo.map cI))] (by simp)
        simp [idsVL, V.ids, D.ids, e] at hb
      clear hg
      have f0 := F0 nm g24 qf
      have kE := KE nm g24 qf
      simp [vpre, vnext, veff, vval, isPure, St.frzs, St.frz, Vs.frz, hpLL, hpL, D.hp, h24, St.kill, b1, f0, f1, L1, kC, kO, kE, vendX, List.take_of_length_le, curD, s117_6, s117_8, s117_12, ]
      refine ⟨fun a _ => cAtom_len a, ?_⟩
      intro γ2 hs' h1' hg
      clear hg
      have := fin c3 ⟨qn, ⟨γ2 27, some (78, 2), ⟨ar, ⟨some gv, some Tv, v0 :: rv⟩⟩ :: ra ++ [⟨nm, ⟨some g24, some (3, 1), [0]⟩⟩]⟩, ⟨qoid, qoT, qo⟩⟩ o3 ⟨trivial, ⟨by simp [maxLen]; omega, fun a ha => by
        rcases List.mem_append.1 ha with h | h
        · rcases List.mem_cons.1 h with h | h
          · rw [h]; exact okA
          · exact okR a h
        · rw [List.mem_singleton.1 h]; exact ⟨by show nm.length ≤ maxLen; simp only [maxLen]; omega, by simp [maxLen], fun _ _ => trivial⟩⟩, hok2⟩ (by
          have := QA.atom okq smq hnl
          simpa [plQuery, plAtom, plS, map_plI, plI, plStr] using this)
      simpa [cQuery, cS, curD, cAtom, cStr] using this
  by_cases e2 : u = 2
  · subst e2
    have L0 : LenOk 8 1 := ⟨by omega, by simp only [maxLen]; omega⟩
    have hp0 : hpLL (qo.map cI) = false := hpLL_mapI _
    have hol' : qo.length ≤ 5 := hol
    have L1 : LenOk 8 (qo.length + 1) := ⟨by omega, by simp only [maxLen]; omega⟩
    simp [curD, s117_6, s117_8, s117_12, ]
    repeat' apply And.intro
    all_goals
      refine call_cur c2 E32 (w_spec_l1Below b c2 6 hb o2 (by omega)) (by simp) (by simp [curD]) (by simp) (by simp) fun r3 c3 hs3 hh3 hq3 hl3 o3 => ?_
      obtain ⟨x, rfl, x0, x1, _⟩ := hq3
      have x1 := x1 (by omega)
      have hwx : IntKind.i64.wrap (x - 1) = x - 1 := wrap64_of (by omega) (by omega)
      have done := fun g T => fin c3 ⟨qn, ⟨some ga, some (78, 2), ⟨ar, ⟨some gv, some Tv, v0 :: rv⟩⟩ :: ra⟩, ⟨g, T, qo ++ [x - 1]⟩⟩ o3 ⟨trivial, hok1, ⟨by simp only [List.length_append, List.length_singleton, maxLen]; omega, fun _ _ => trivial⟩⟩ (by have := QA.out (v := x - 1) okq smq; simpa only [plQuery, plS, map_plI, plI] using this)
      cases hq : qoid with
      | none =>
        have hq0 : qo = [] := by have := wh2.1.nil hq; simpa using this
        subst hq0
        cases qoT with
        | none =>
          simp [hwx, L0, vendX, curD, s117_6, s117_8, s117_12, ]
          intro γ hs' h1 hg
          clear hg
          simpa [cQuery, cS, curD, eC] using done (γ 37) (some (3, 1))
        | some T =>
          simp [hwx, L0, vendX, curD, s117_6, s117_8, s117_12, ]
          intro γ hs' h1 hg
          clear hg
          simpa [cQuery, cS, curD, eC] using done (γ 37) (some (3, 1))
      | some go =>
        obtain rfl : qoT = some (3, 1) := TI go hq
        have hgo := b3 go hq
        have k1 : ∀ j, B ≤ j ∨ kphi (some go) j = none := fun j => by
          by_cases h : j = go
          · left; omega
          · right; simp only [kphi]; rw [if_neg (by simpa using Ne.symm h)]
        have kC := hcur _ k1
        have kA : reV (kphi (some go)) (.d (.sl (some ga) (some (78, 2)) ([.str ar, .sl (some gv) (some Tv) ([.int .i64 v0] :: rv.map cI)] :: ra.map cAtom))) = .d (.sl (some ga) (some (78, 2)) ([.str ar, .sl (some gv) (some Tv) ([.int .i64 v0] :: rv.map cI)] :: ra.map cAtom)) := reV_id _ (fun j hj => by
          have hne : j ≠ go := fun e => by
            subst e
            simp [V.ids, D.ids, idsLL, idsL] at hj
            rcases hj with h | h | h
            · subst h; exact n3' hq
            · subst h; exact n5' hq
            · exact n7 j h j (by simp [hq]) rfl
          simp only [kphi]; rw [if_neg (by simpa using Ne.symm hne)]) (by simp [V.tk, D.tk, tkLL, tkL, tkLL_map])
        have kE : reLL (kphi (some go)) (qo.map cI ++ [[.int .i64 (x - 1)]]) = some (qo.map cI ++ [[.int .i64 (x - 1)]]) := by
          have e : qo.map cI ++ [[D.int .i64 (x - 1)]] = (qo ++ [x - 1]).map cI := by simp
          rw [e]
          have hid : ∀ L : List Int, idsLL (L.map cI) = [] := fun L => by simp
          exact reLL_id _ (fun j hj => by rw [hid] at hj; cases hj) (tkLL_map _ (by simp))
        have f9 : go ∉ idsLL [[D.int .i64 (x - 1)]] := by simp [idsLL, idsL, D.ids]
        simp [hwx, St.kill, hgo, L1, kC, kA, kE, f9, vendX, List.take_of_length_le, curD, s117_6, s117_8, s117_12, ]
        intro γ hs' h1 hg
        clear hg
        simpa [cQuery, cS, curD, eC] using done (γ 37) (some (3, 1))
  by_cases e3 : u = 3
  · subst e3
    have eR := re_raw (g := ga) (T := (78, 2)) (es := [.str ar, .sl (some gv) (some Tv) ([.int .i64 v0] :: rv.map cI)] :: ra.map cAtom) (es' := [.str ar, .sl none none []] :: ra.map cAtom) (by simp)
    have eC3 : ∀ d, reV (one ga d) (.d (.sl b.id b.T (b.xs.map cW))) = .d (.sl b.id b.T (b.xs.map cW)) := fun d => hcur _ fun j => by
      by_cases h : j = ga
      · left; omega
      · exact .inr (one_out h)
    have eO3 : ∀ d, reV (one ga d) (.d (.sl qoid qoT (qo.map cI))) = .d (.sl qoid qoT (qo.map cI)) := fun d => reV_id (.d (dSl cI ⟨qoid, qoT, qo⟩)) fun j hj => one_out fun e => by
      rcases mem_sl_ids.1 hj with h | h
      · subst e; exact n3' h
      · simp at h
    simp [b1, n1, n2, idsLL, idsL, D.ids, eR, eC3, eO3, vendX, curD, s117_6, s117_8, s117_12, ]
    intro γ hs' h1 hg
    clear hg
    have := fin c2 ⟨qn, ⟨some ga, some (78, 2), ⟨ar, nilS⟩ :: ra⟩, ⟨qoid, qoT, qo⟩⟩ o2 ⟨trivial, ⟨hok1.1, fun a ha => by
      rcases List.mem_cons.1 ha with h | h
      · rw [h]; exact ⟨okA.1, ok_nilS⟩
      · exact okR a h⟩, hok2⟩ (by
        have := QA.set (a' := ⟨ar, []⟩) okq smq rfl (by simp) (.inl rfl)
        simpa [plQuery, plAtom, plS, map_plI, plI, plStr, nilS] using this)
    simpa [cQuery, cS, curD, cAtom, cStr, nilS] using this
  by_cases e4 : u = 4
  · subst e4
    have eC4 : ∀ d, reV (one gv d) (.d (.sl b.id b.T (b.xs.map cW))) = .d (.sl b.id b.T (b.xs.map cW)) := fun d => hcur _ fun j => by
      by_cases h : j = gv
      · left; omega
      · exact .inr (one_out h)
    have eO4 : ∀ d, reV (one gv d) (.d (.sl qoid qoT (qo.map cI))) = .d (.sl qoid qoT (qo.map cI)) := fun d => reV_id (.d (dSl cI ⟨qoid, qoT, qo⟩)) fun j hj => one_out fun e => by
      rcases mem_sl_ids.1 hj with h | h
      · subst e; exact n5' h
      · simp at h
    have eR : ∀ x : Int, reV (one gv (.sl (some gv) (some Tv) ([.int .i64 x] :: rv.map cI))) (.d (.sl (some ga) (some (78, 2)) ([.str ar, .sl (some gv) (some Tv) ([.int .i64 v0] :: rv.map cI)] :: ra.map cAtom))) = .d (.sl (some ga) (some (78, 2)) ([.str ar, .sl (some gv) (some Tv) ([.int .i64 x] :: rv.map cI)] :: ra.map cAtom)) := fun x => by
      have h1 : reLL (one gv (.sl (some gv) (some Tv) ([.int .i64 x] :: rv.map cI))) (ra.map cAtom) = some (ra.map cAtom) := reLL_id _ (fun j hj => one_out fun e => n4 (e ▸ hj)) (tkLL_map _ (by simp))
      have h2 : one gv (.sl (some gv) (some Tv) ([.int .i64 x] :: rv.map cI)) ga = none := one_out n1
      have h3 : one gv (.sl (some gv) (some Tv) ([.int .i64 x] :: rv.map cI)) gv = some (.sl (some gv) (some Tv) ([.int .i64 x] :: rv.map cI)) := by simp [one]
      simp [reV, reD, reLL, reL, h1, h2, h3]
    simp [curD, s117_6, s117_8, s117_12, ]
    repeat' apply And.intro
    all_goals
      refine call_curK c2 E135 (w_spec_l1PickInt b c2 [-1, 5] hb o2 (by simp) (by simp)) (by simp) (by simp [curD]) (by simp) fun r3 c3 hs3 hh3 hq3 hl3 o3 => ?_
      obtain ⟨x, rfl, hx⟩ := hq3
      simp [b2, n1, n2, idsLL, idsL, D.ids, eR, eC4, eO4, vendX, curD, s117_6, s117_8, s117_12, ]
      intro γ hs' h1 hg
      clear hg
      have := fin c3 ⟨qn, ⟨some ga, some (78, 2), ⟨ar, ⟨some gv, some Tv, x :: rv⟩⟩ :: ra⟩, ⟨qoid, qoT, qo⟩⟩ o3 ⟨trivial, ⟨hok1.1, fun a ha => by
        rcases List.mem_cons.1 ha with h | h
        · rw [h]; exact ⟨okA.1, by have := okA.2.1; simpa using this, fun _ _ => trivial⟩
        · exact okR a h⟩, hok2⟩ (by
          have := QA.set (a' := ⟨ar, x :: rv⟩) okq smq rfl (by simp [plAtom, plS]) (.inr ⟨x, by simp, by simp only [List.mem_cons, List.not_mem_nil, or_false] at hx; omega⟩)
          simpa [plQuery, plAtom, plS, map_plI, plI, plStr] using this)
      simpa [cQuery, cS, curD, cAtom, cStr] using this
  simp [vendX, e0, e1, e2, e3, e4, curD, s117_6, s117_8, s117_12, ]
  intro γ hs' h1 hg
  clear hg
  have := fin c2 ⟨qn, ⟨some ga, some (78, 2), ⟨ar, ⟨some gv, some Tv, v0 :: rv⟩⟩ :: ra⟩, ⟨qoid, qoT, qo⟩⟩ o2 ⟨trivial, hok1, hok2⟩ (by have := QA.of okq smq; simpa only [plQuery, plS, map_plI, plI] using this)
  simpa [cQuery, cS, curD, eC] using this
end

end Go.Proofs.YtmgphabeodaokaaGreat


namespace Go.Proofs.YtmgphabeodaokaaGreat
open Go.Vs Go.Proofs Go
set_option maxRecDepth 100000
set_option maxHeartbeats 1000000

/-- what the draw of a database and a query leaves -/
structure QryB (b : Sl Int) (r : V) (cs : List V) : Prop where
  ex : ∃ (c' : Nat × Int) (d : Db) (y : Query), r = .tup [.agg ((cDb d).map V.d), .agg ((cQuery y).map V.d)] ∧ (bdD d ∧ okDb d) ∧ okQuery y ∧ QA (plQuery y) ∧ cs = (curD b c').map V.d ∧ curO b c'
section
attribute [local simp] pS dSl cP cI cW
theorem w_spec_l7Both (b : Sl Int) (c : Nat × Int) (hb : b.xs.length ≤ 1048576) (hc : curO b c) : VX Tryz.prog 75 [] [.ptr 1000 0 0] (some ((curD b c).map V.d)) (fun _ r cs _ => QryB b r cs) := by
  refine VX.of E s75 (by kernel_rfl) Tryz.func75 (by rfl) (by kernel_rfl) (by simp [Tryz.f75]) (by simp [Tryz.f75]) s75_ok ?_ ?_ fun B hB => ?_
  · simp
  · rintro cs h
    cases h
    simp [curD]
  simp [Tryz.f75, s75_5, s75_7, s75_8, s75_5, s75_7, s75_8, curD]
  refine call_db c E114 (w_spec_l6Db b c hb hc) (by simp) (by simp [curD]) (by simp) (by simp) fun xs g0 c0 n0 hs0 hn0 hm0 bd0 ok0 len0 hgn hgs hgx o0 => ?_
  simp [cDb, cS, curD, s75_5, s75_7, s75_8, ]
  refine call_qry c0 E115 (w_spec_l7Query b c0 hb o0) (by simp) (by simp [curD]) (by simp) (by simp) fun q c1 n1 hs1 hn1 hm1 kq Gq uq okq smq TA TI o1 => ?_
  obtain ⟨qn, ⟨qaid, qaT, qa⟩, ⟨qoid, qoT, qo⟩⟩ := q
  have hqa := QA.of okq smq
  clear Gq TA TI
  simp [cQuery, cDb, cS, curD, s75_5, s75_7, s75_8, ]
  refine call_cur c1 E32 (w_spec_l1Below b c1 24 hb o1 (by omega)) (by simp) (by simp [curD]) (by simp) (by simp) fun r2 c2 hs2 hh2 hq2 hl2 o2 => ?_
  obtain ⟨u, rfl, u0, u1, _⟩ := hq2
  have fin : ∀ (c' : Nat × Int) (d : Db) (y : Query), curO b c' → bdD d → okDb d → okQuery y → QA (plQuery y) → QryB b (.tup [.agg ((cDb d).map V.d), .agg ((cQuery y).map V.d)]) ((curD b c').map V.d) := fun c' d y h1 h2 h3 h4 h5 => ⟨⟨c', d, y, rfl, ⟨h2, h3⟩, h4, h5, rfl, h1⟩⟩
  by_cases e0 : u = 0
  · subst e0
    simp [cQuery, cDb, cS, curD, s75_5, s75_7, s75_8, ]
    repeat' apply And.intro
    all_goals
      refine call_dbA c2 E116 (w_spec_l6Any b c2 hb o2) (by simp) (by simp [curD]) (by simp) (by simp) fun z c3 hs3 hh3 bdz okz o3 => ?_
      obtain ⟨⟨zid, zT, zx⟩⟩ := z
      simp [vendX, cQuery, cDb, cS, curD, s75_5, s75_7, s75_8, ]
      intro γ hs' h1 hg
      clear hg
      simpa [cQuery, cDb, cS, curD] using fin c3 ⟨⟨zid, zT, zx⟩⟩ ⟨qn, ⟨qaid, qaT, qa⟩, ⟨qoid, qoT, qo⟩⟩ o3 bdz okz kq hqa
  by_cases e1 : u = 1
  · subst e1
    simp [cQuery, cDb, cS, curD, s75_5, s75_7, s75_8, ]
    repeat' apply And.intro
    all_goals
      refine call_cp c2 E117 (w_spec_l7Any b c2 hb o2) (by simp) (by simp [curD]) (by simp) (by simp) fun r cs hs3 hh3 hp3 => ?_
      obtain ⟨c3, ⟨yn, ⟨yaid, yaT, ya⟩, ⟨yoid, yoT, yo⟩⟩, rfl, ky, qy, rfl, o3⟩ := hp3.ex
      simp [vendX, cQuery, cDb, cS, curD, s75_5, s75_7, s75_8, ]
      intro γ hs' h1 hg
      clear hg
      simpa [cQuery, cDb, cS, curD] using fin c3 ⟨⟨some g0, some (128, 3), xs⟩⟩ ⟨yn, ⟨yaid, yaT, ya⟩, ⟨yoid, yoT, yo⟩⟩ o3 bd0 ok0 ky qy
  simp [vendX, e0, e1, cQuery, cDb, cS, curD, s75_5, s75_7, s75_8, ]
  intro γ hs' h1 hg
  clear hg
  simpa [cQuery, cDb, cS, curD] using fin c2 ⟨⟨some g0, some (128, 3), xs⟩⟩ ⟨qn, ⟨qaid, qaT, qa⟩, ⟨qoid, qoT, qo⟩⟩ o2 bd0 ok0 kq hqa
end

end Go.Proofs.YtmgphabeodaokaaGreat


namespace Go.Proofs.YtmgphabeodaokaaGreat
open Go.Vs Go.Proofs Go
set_option maxRecDepth 100000
set_option maxHeartbeats 1000000

section
attribute [local simp] plI_id plStr_id map_plI map_plStr pS cP cI
theorem e_spec_l7Copy (q : PQuery) (h1 : q.atoms.length ≤ 1000) (h2 : ∀ a ∈ q.atoms, a.vars.length ≤ 1000) (h3 : q.out.length ≤ 1000) (hst : ∀ a ∈ q.atoms, a.rel.length ≤ maxLen) : VC Tryz.prog 62 [.agg ((eQuery q).map V.d)]
   (fun n v => ∃ y : Query, v = .agg ((cQuery y).map V.d) ∧ plQuery y = q ∧ okQuery y ∧ ∀ g ∈ idsL (cQuery y), n ≤ g) := by
  obtain ⟨qn, l, qo⟩ := q
  simp only at h1 h2 h3 hst
  have hL0 : LenOk 8 qo.length := ⟨by omega, by simp only [maxLen]; omega⟩
  refine VC.of E s62 (by kernel_rfl) Tryz.func62 (by rfl) (by kernel_rfl) (by simp [Tryz.f62]) (by simp [Tryz.f62]) s62_ok fun B => ?_
  simp [Tryz.f62, s62_5, s62_5, eQuery]
  refine cutT (X := Unit) (fun _ _ => True) (fun _ => [(1, .ptr 1 0 0), (2, .ptr 2 0 0), (3, .ptr 3 0 0)])
    (fun _ => [(1, some (.box [.d (.int .i64 qn), .d (.pl (l.map eAtom)), .d (.pl (qo.map cI))])), (2, some (.box [.d (.int .i64 0), .d (.sl none none []), .d (.sl none none [])])), (3, some (.box [.d (.int .i64 qn), .d (.sl none none []), .own 7 0 qo.length])), (7, some (.row 3 1 (qo.map cI)))]) ?_ ?_
  · intro K hK
    simp [hL0, s62_1, ]
    repeat' apply And.intro
    all_goals exact hK () _ trivial rfl rfl (by simp <;> omega) (by simp) (by simp)
  rintro ⟨⟩ hs0 t m - hh0
  simp [s62_1, s62_5, ]
  refine loop_ruleL (X := Nat × List Atom) (fun p h => (p.1 ≤ l.length ∧ p.2.map plAtom = l.take p.1) ∧ (∀ y ∈ p.2, okAtom y) ∧ ∀ g ∈ idsLL (p.2.map cAtom), B ≤ g) (fun p => [(1, .ptr 1 0 0), (2, .ptr 2 0 0), (3, .ptr 3 0 0), (4, .d (.int .i64 p.1))])
    (fun p => [(1, some (.box [.d (.int .i64 qn), .d (.pl (l.map eAtom)), .d (.pl (qo.map cI))])), (2, some (.box [.d (.int .i64 0), .d (.sl none none []), .d (.sl none none [])])), (3, some (.box [.d (.int .i64 qn), .own 900 0 p.2.length, .own 7 0 qo.length])), (7, some (.row 3 1 (qo.map cI))), (900, some (.row 78 2 (p.2.map cAtom)))]) (fun p => l.length - p.1) ?_ ?_
  · refine (lead_box 3 1 900 78 2 [.d (.int .i64 qn), .d (.sl none none []), .own 7 0 qo.length] (by omega) (by omega) (by omega) (by simp) rfl).bind ?_
    rintro _ rfl
    exact Lead.of ⟨(0, []), ⟨by simp, by simp, by simp [idsLL]⟩, rfl, rfl, Nat.le_refl _, by simp, by simp⟩
  rintro ⟨i, ys⟩ hs t m ⟨⟨hi, hpl⟩, hok, hlo⟩ hh
  simp only at hi hpl hok hlo
  have hyl : ys.length = i := by
    have := congrArg List.length hpl
    simp only [List.length_map, List.length_take] at this; omega
  by_cases hlt : i < l.length
  · have hwi := wr1 (i := i) (by omega)
    have hL : LenOk 40 (ys.length + 1) := ⟨by omega, by simp only [maxLen]; omega⟩
    have hx := h2 _ (List.getElem_mem hlt)
    have hn := hst _ (List.getElem_mem hlt)
    obtain ⟨nm, vs, hT⟩ : ∃ nm vs, l[i] = ⟨nm, vs⟩ := ⟨_, _, rfl⟩
    rw [hT] at hx hn
    simp only at hx hn
    have hL2 : LenOk 8 vs.length := ⟨by omega, by simp only [maxLen]; omega⟩
    have hpI : hpLL (vs.map cI) = false := hpLL_mapI _
    refine anyQ2 fun Q => ?_
    simp [hlt, hL2, hwi, hT, List.take_of_length_le, s62_1, s62_5, eAtom, cStr]
    repeat' apply And.intro
    all_goals
      rw [w_bs1 (k' := 27) (ks := []) _ _ _ (by simp) (by simp)]
      intro γ hs4 h1 hg
      simp only at h1
      obtain ⟨q1, q2⟩ := gam_at hg (k := 27) (T := 3) (sz := 1) (es := vs.map cI) (by simp)
      clear hg
      simp [vpre, vnext, veff, vval, isPure, St.frzs, St.frz, Vs.frz, hpI, hL, hwi, List.take_of_length_le, s62_1, s62_5, ]
      have hid : ∀ L : List Int, idsLL (L.map cI) = [] := fun L => by simp
      have hy : ∀ g, g ∈ idsL (cAtom ⟨nm, ⟨γ 27, some (3, 1), vs⟩⟩) → γ 27 = some g := fun g hg => by
        rw [cAtom, idsL_app] at hg
        have hg := (List.mem_append.1 hg).resolve_left (by simp [cStr, idsL, D.ids])
        rw [idsL_cS] at hg
        rcases mem_sl_ids.1 hg with h | h
        · exact h
        · simp only at h; rw [hid] at h; cases h
      refine back2 (i + 1, ys ++ [⟨nm, ⟨γ 27, some (3, 1), vs⟩⟩]) ⟨⟨by simp only; omega, ?_⟩, ?_, ?_⟩ (by simp only; omega) rfl (by simp <;> omega) (by simp) (by simp [cAtom, cStr, cS, dSl, List.take_of_length_le])
      · simp only [List.map_append, List.map_cons, List.map_nil]
        rw [hpl, List.take_succ_eq_append_getElem hlt, hT]
        simp [plAtom, plS, plStr]
      · intro z hz
        rcases List.mem_append.1 hz with hz | hz
        · exact hok z hz
        · rw [List.mem_singleton.1 hz]
          exact ⟨hn, by show vs.length ≤ maxLen; simp only [maxLen]; omega, fun _ _ => trivial⟩
      · intro g hg
        rw [List.map_append, idsLL_append] at hg
        rcases List.mem_append.1 hg with hg | hg
        · exact hlo g hg
        · have : g ∈ idsL (cAtom ⟨nm, ⟨γ 27, some (3, 1), vs⟩⟩) := by simpa [idsLL] using hg
          exact (q1 g (hy g this)).1
  · have hn : i = l.length := by omega
    subst hn
    refine seqAny2 fun b' => ?_
    have hpA : hpLL (ys.map cAtom) = false := hpLL_map (fun a => by simp) ys
    have hpI : hpLL (qo.map cI) = false := hpLL_mapI _
    simp [List.take_of_length_le, s62_1, s62_5, ]
    intro γ hs' h1' hg
    obtain ⟨q1, q2⟩ := gam_at hg (k := 900) (T := 78) (sz := 2) (es := ys.map cAtom) (by simp)
    obtain ⟨q3, q4⟩ := gam_at hg (k := 7) (T := 3) (sz := 1) (es := qo.map cI) (by simp)
    clear hg
    try simp [hpA, hpI, List.take_of_length_le]
    refine ⟨⟨qn, ⟨γ 900, some (78, 2), ys⟩, ⟨γ 7, some (3, 1), qo⟩⟩, by simp [cQuery, cS, dSl, List.take_of_length_le], ?_, ⟨trivial, ⟨by simp only [maxLen]; show ys.length ≤ _; omega, hok⟩, ⟨by simp only [maxLen]; show qo.length ≤ _; omega, fun _ _ => trivial⟩⟩, ?_⟩
    · simp only [plQuery, plS, map_plI, plI]
      rw [hpl, List.take_of_length_le (Nat.le_refl _)]
    · intro g hg
      rw [cQuery, idsL_app, idsL_app] at hg
      rcases List.mem_append.1 hg with hg | hg
      · rcases List.mem_append.1 hg with hg | hg
        · simp [idsL, D.ids] at hg
        · rw [idsL_cS] at hg
          rcases mem_sl_ids.1 hg with h | h
          · exact (q1 g h).1
          · exact hlo g h
      · rw [idsL_cS] at hg
        rcases mem_sl_ids.1 hg with h | h
        · exact (q3 g h).1
        · have hid : ∀ L : List Int, idsLL (L.map cI) = [] := fun L => by simp
          simp only at h; rw [hid] at h; cases h
end

end Go.Proofs.YtmgphabeodaokaaGreat


namespace Go.Proofs.YtmgphabeodaokaaGreat
open Go.Vs Go.Proofs Go
set_option maxRecDepth 100000
set_option maxHeartbeats 1000000

/-- of new counted data: the counts lie in a block of their own -/
structure CntF (tI n : Nat) (y : Cnt) : Prop where
  g : ∀ g, y.cs.id = some g → n ≤ g ∧ g ∉ idsL (cS (cS cI) y.rows)
  ne : y.cs.xs ≠ [] → y.cs.id ≠ none
  T : ∀ g, y.cs.id = some g → y.cs.T = some (tI, 1)
theorem cntF_nil (tI n : Nat) : CntF tI n ⟨0, nilS, nilS⟩ := ⟨by simp [nilS], by simp [nilS], by simp [nilS]⟩
theorem CntF.le {tI n m : Nat} {y : Cnt} (h : CntF tI n y) (hm : m ≤ n) : CntF tI m y := ⟨fun g hg => ⟨Nat.le_trans hm (h.g g hg).1, (h.g g hg).2⟩, h.ne, h.T⟩
theorem sttl_map {α β : Type} (f : α → β) : ∀ (l : List α) (S : List Int), sttl (l.map f) S = (sttl l S).map fun p => (f p.1, p.2)
  | [], S => by simp [sttl]
  | a :: r, [] => by simp [sttl]
  | a :: r, c :: S => by
    have ih := sttl_map f r S
    simp only [sttl] at ih
    simp only [sttl, List.map_cons, List.zip_cons_cons, List.filter_cons, ih]
    split <;> simp
section
attribute [local simp] plI_id plStr_id map_plI map_plStr pS cP cI
theorem e_spec_l27Sum (ar : Int) (l : List (List Int)) (cs : List Int) (hr : inR ar 0 5 = true) (hm : ∀ x ∈ l, (x.length : Int) = ar ∧ valsOk x = true) (hlc : cs.length = l.length) (hb : l.length ≤ 2000000) (hc : ∀ c ∈ cs, -1000000 ≤ c ∧ c ≤ 1000000) :
   VC Tryz.prog 54 [.d (.int .i64 ar), .d (pS (cP cI) l), .d (pS cI cs)] (fun n v => ∃ y : Cnt, v = .tup [.agg ((cCnt y).map .d), .d (.bool (sumB ar l cs))] ∧ plCnt y = sumP ar l cs ∧ okCnt y ∧ CntF 3 n y) := by
  have hx5 : ∀ x ∈ l, x.length ≤ 5 := fun x hx => by
    have h1 := (hm x hx).1
    simp only [inR, Bool.and_eq_true, decide_eq_true_eq] at hr
    omega
  have hnB := newB_of hr hm
  have hRs := srtU_srt l
  have hRl := srtU_len l
  have h0 : ∀ n : Nat, plCnt ⟨0, nilS, nilS⟩ = ⟨0, [], []⟩ ∧ okCnt ⟨0, nilS, nilS⟩ ∧ CntF 3 n ⟨0, nilS, nilS⟩ := fun n => ⟨by simp [plCnt, nilS, plS], ⟨trivial, ok_nilS, ok_nilS⟩, cntF_nil _ n⟩
  refine VC.of E s54 (by kernel_rfl) Tryz.func54 (by rfl) (by kernel_rfl) (by simp [Tryz.f54]) (by simp [Tryz.f54]) s54_ok fun B => ?_
  simp [Tryz.f54, s54_8, s54_9, s54_15, s54_16, s54_8, s54_9, s54_15, s54_16, ]
  refine call_pq (e_spec_NewRelation ar l (by omega) (fun x hx => by have := hx5 x hx; omega)) (by simp) fun n1 hs1 r1 hn1 hm1 hp1 hl1 => ?_
  obtain ⟨⟨ya, ⟨yid, yT, ys⟩⟩, rfl, p1, k1, T1, G1⟩ := hp1
  simp at hn1
  by_cases h4 : (srtU l).length ≤ 4000
  case neg =>
    have hB : sumB ar l cs = false := by simp [sumB, h4]
    have hP : sumP ar l cs = ⟨0, [], []⟩ := by simp [sumP, hB]
    simp [newR, hnB, h4, hB, hP, cReln, cS, dSl, s54_8, s54_9, s54_15, s54_16, ]
    exact ⟨⟨0, nilS, nilS⟩, by simp [cCnt, cS, dSl, nilS], h0 B⟩
  have hmR : ∀ x, x ∈ l → x ∈ srtU l := fun x hx => (srtU_mem l x).2 hx
  have hRe : newR ar l = ⟨ar, srtU l⟩ := by simp [newR, hnB, h4]
  have hsum : sumsOf l cs = (srtU l).map (lkC l cs) := rfl
  have hnT : newB ar l = true := by simp [hnB, h4]
  rw [hRe] at p1
  obtain ⟨R, hRR⟩ : ∃ R, R = srtU l := ⟨_, rfl⟩
  rw [← hRR] at p1
  simp only [← hRR] at hRs hRl h4 hmR hsum
  have pya : ya = ar := congrArg PReln.ar p1
  have pys : ys.map (plS plI) = R := by
    have := congrArg PReln.rows p1
    simpa only [plReln, plS] using this
  subst pya
  have hyl : ys.length = R.length := by rw [← pys, List.length_map]
  have eY : erLL (ys.map (cS cI)) = R.map (cP cI) := by rw [← pys]; exact erLL_map (er_cS er_cI) ys
  have hL0 : LenOk 8 R.length := ⟨by omega, by simp only [maxLen]; omega⟩
  simp [hnT, hyl, hL0, cReln, cS, dSl, s54_8, s54_9, s54_15, s54_16, ]
  refine loop_rule (X := Nat) (fun i => i ≤ l.length) (fun i => [(0, .d (.int .i64 ya)), (1, .d (.pl (l.map (cP cI)))), (2, .d (.pl (cs.map cI))), (6, .ptr 6 0 0), (8, .ptr 8 0 0), (10, .own 28 0 R.length), (11, .d (.int .i64 i))])
    (fun i => [(6, some (.box [.d (.int .i64 0), .d (.sl none none []), .d (.sl none none [])])), (8, some (.box [.d (.int .i64 ya), .d (.sl yid yT (ys.map (cS cI)))])), (28, some (.row 3 1 ((sumsTo R l cs i).map cI)))]) (fun i => l.length - i) 0 (by simp) (by simp) (by simp [sumsTo_zero, cS, dSl]) ?_
  intro i hs t m hi hh
  by_cases hlt : i < l.length
  · have hwi := wr1 (i := i) (by omega)
    have hic : i < cs.length := by omega
    obtain ⟨hk, hkx⟩ := placeB_at ((placeB_iff hRs).2 (hmR _ (List.getElem_mem hlt)))
    simp [hlt, cP, cS, dSl, s54_8, s54_9, s54_15, s54_16, ]
    refine call_f (w_spec_l5Place ⟨ya, R⟩ l[i] (by simp; omega)) (by simp [eReln, eY]) rfl fun hs1 hh1 => ?_
    simp at hh1
    obtain ⟨k, hkk⟩ : ∃ k, k = placeK R l[i] := ⟨_, rfl⟩
    simp only [← hkk] at hk ⊢
    have hst := sumsTo_step (cs := cs) hRs hlt hic (hmR _ (List.getElem_mem hlt)) hkk hk
    have hbd := sumsTo_bd (l := l) (cs := cs) (i := i) hk hi hc
    have hbc := hc cs[i] (List.getElem_mem hic)
    have hw : IntKind.i64.wrap ((sumsTo R l cs i)[k]'(by simpa using hk) + cs[i]) = (sumsTo R l cs i)[k]'(by simpa using hk) + cs[i] := wrap64_of (by omega) (by omega)
    simp [hk, hic, hw, hwi, cS, dSl, s54_8, s54_9, s54_15, s54_16, ]
    exact back (i + 1) (by omega) (by omega) rfl (by simp <;> omega) (by simp) (by simp [← hst, List.map_set, cI, cS, dSl])
  have hn : i = l.length := by omega
  subst hn
  have hall : sumsTo R l cs l.length = sumsOf l cs := hRR ▸ sumsTo_all hlc
  obtain ⟨S, hS⟩ : ∃ S, S = sumsOf l cs := ⟨_, rfl⟩
  have hSl : S.length = R.length := by rw [hS, ← hall, sumsTo_length]
  rw [hall, ← hS]
  have hSt : sttl R S = (sttl ys S).map fun p => (plS plI p.1, p.2) := by rw [← pys]; exact sttl_map _ _ _
  have hsub : ∀ i, ∀ z ∈ (sttl (ys.take i) (S.take i)).map Prod.fst, z ∈ ys := fun i z hz => by
    obtain ⟨p, hp, rfl⟩ := List.mem_map.1 hz
    exact List.mem_of_mem_take (List.of_mem_zip (List.mem_filter.1 hp).1).1
  refine seqAny2 fun b' => ?_
  simp [cS, dSl, s54_8, s54_9, s54_15, s54_16, ]
  refine loop_ruleL (X := Nat) (fun i _ => i ≤ ys.length) (fun i => [(6, .ptr 6 0 0), (8, .ptr 8 0 0), (10, .own 28 0 R.length), (14, .ptr 14 0 0), (15, .d (.int .i64 i))])
    (fun i => [(6, some (.box [.d (.int .i64 0), .d (.sl none none []), .d (.sl none none [])])), (8, some (.box [.d (.int .i64 ya), .d (.sl yid yT (ys.map (cS cI)))])), (14, some (.box [.d (.int .i64 ya), .own 900 0 (sttl (ys.take i) (S.take i)).length, .own 901 0 (sttl (ys.take i) (S.take i)).length])),
      (28, some (.row 3 1 (S.map cI))), (900, some (.row 28 1 (((sttl (ys.take i) (S.take i)).map Prod.fst).map (cS cI)))), (901, some (.row 3 1 (((sttl (ys.take i) (S.take i)).map Prod.snd).map cI)))]) (fun i => ys.length - i) ?_ ?_
  · refine (lead_box 14 1 900 28 1 [.d (.int .i64 ya), .d (.sl none none []), .d (.sl none none [])] (by omega) (by omega) (by omega) (by simp) rfl).bind ?_
    rintro _ rfl
    refine (lead_box 14 2 901 3 1 [.d (.int .i64 ya), .own 900 0 0, .d (.sl none none [])] (by omega) (by omega) (by omega) (by simp) rfl).bind ?_
    rintro _ rfl
    exact Lead.of ⟨0, by simp, rfl, rfl, Nat.le_refl _, by simp, by simp [sttl]⟩
  intro i hs2 t2 m2 hi2 hh2
  by_cases hlt2 : i < ys.length
  · have hwi := wr1 (i := i) (by omega)
    have hiS : i < S.length := by omega
    have hiR : i < R.length := by omega
    obtain ⟨zid, zT, zx, hz⟩ : ∃ a b c, ys[i] = ⟨a, b, c⟩ := ⟨_, _, _, rfl⟩
    have hss := settle_step (rs := ys) (cs := S) hlt2 hiS
    have hsl : (sttl (ys.take i) (S.take i)).length ≤ i := settle_len hi2
    refine anyQ2 fun Q => ?_
    by_cases h0 : S[i] = 0
    · rw [if_pos h0, List.append_nil] at hss
      simp [hlt2, hiS, hiR, h0, hwi, show R.length ≤ S.length by omega, s54_8, s54_9, s54_15, s54_16, ]
      exact back2 (i + 1) (by omega) (by omega) rfl (by simp <;> omega) (by simp [hss]) (by simp [hss])
    · rw [if_neg h0] at hss
      have hLa : LenOk 24 ((sttl (ys.take i) (S.take i)).length + 1) := ⟨by omega, by simp only [maxLen]; omega⟩
      have hLb : LenOk 8 ((sttl (ys.take i) (S.take i)).length + 1) := ⟨by omega, by simp only [maxLen]; omega⟩
      rw [hz] at hss
      simp [hlt2, hiS, hiR, hz, h0, hwi, hLa, hLb, cS, dSl, show R.length ≤ S.length by omega, s54_8, s54_9, s54_15, s54_16, ]
      exact back2 (i + 1) (by omega) (by omega) rfl (by simp <;> omega) (by simp [hss]) (by simp [hss, cS, dSl])
  have hn : i = ys.length := by omega
  subst hn
  have hsl : (sttl ys S).length ≤ ys.length := by
    have := settle_len (rs := ys) (cs := S) (Nat.le_refl ys.length)
    rw [List.take_length, List.take_of_length_le (l := S) (by omega)] at this
    exact this
  have hso : sumOf ya l cs = ⟨ya, (sttl R S).map Prod.fst, (sttl R S).map Prod.snd⟩ := by simp only [sumOf, ← hRR, ← hS]
  refine seqAny2 fun b' => ?_
  simp [List.take_of_length_le, show S.length ≤ ys.length by omega, s54_8, s54_9, s54_15, s54_16, ]
  obtain ⟨zs, hzs⟩ : ∃ zs, zs = (sttl ys S).map Prod.fst := ⟨_, rfl⟩
  obtain ⟨us, hus⟩ : ∃ us, us = (sttl ys S).map Prod.snd := ⟨_, rfl⟩
  have hzl : zs.length = (sttl ys S).length := by rw [hzs, List.length_map]
  have hul : us.length = (sttl ys S).length := by rw [hus, List.length_map]
  have hpl : ∀ (g1 g2 : Option Nat), plCnt ⟨ya, ⟨g1, some (28, 1), zs⟩, ⟨g2, some (3, 1), us⟩⟩ = sumOf ya l cs := fun g1 g2 => by
    rw [hso, hSt, hzs, hus]
    simp [plCnt, plS, map_plI, plI_id, Function.comp_def]
  have hp1 : hpLL (zs.map (cS cI)) = false := hpLL_mapS zs
  have hp2 : hpLL (us.map cI) = false := hpLL_mapI us
  have hzy : ∀ z ∈ zs, z ∈ ys := fun z hz => by
    have := hsub ys.length z
    rw [List.take_of_length_le (Nat.le_refl _), List.take_of_length_le (l := S) (by omega), ← hzs] at this
    exact this hz
  have e1 : (sttl ys S).map (cS cI ∘ Prod.fst) = zs.map (cS cI) := by rw [hzs, List.map_map]
  have e2 : (sttl ys S).map (cI ∘ Prod.snd) = us.map cI := by rw [hus, List.map_map]
  simp only [List.map_map, e1, e2, ← hzl]
  have hzl := hul.trans hzl.symm
  refine call_own (post := fun _ r => r = .d (.bool (cntsOk (sumOf ya l cs)))) (by simp) (fun γ n hn hg => ⟨[.agg ((cCnt ⟨ya, ⟨γ 900, some (28, 1), zs⟩, ⟨γ 901, some (3, 1), us⟩⟩).map V.d)], by simp [hp1, hp2, hzl, cCnt, cS, dSl, List.take_of_length_le], ?_⟩) (by rintro _ _ rfl; simp [V.ids, D.ids, V.hp, D.hp]) fun n9 hs9 r9 hn9 hm9 hp9 hr9 => ?_
  · refine (w_spec_IsValidCounted (sumOf ya l cs)).er ?_
    simp only [rpL, rp, rpL_d, Option.map_some, er_cCnt, hpl]
  obtain rfl := hp9
  replace hn9 : hs2 ≤ n9 := hn9
  cases hv : cntsOk (sumOf ya l cs)
  · have hB : sumB ya l cs = false := by simp [sumB, hv]
    have hP : sumP ya l cs = ⟨0, [], []⟩ := by simp [sumP, hB]
    simp [hB, hP, cCnt, cS, dSl, s54_8, s54_9, s54_15, s54_16, ]
    exact ⟨⟨0, nilS, nilS⟩, by simp [cCnt, cS, dSl, nilS], h0 B⟩
  have hB : sumB ya l cs = true := by simp [sumB, hv, ← hRR, h4]
  have hP : sumP ya l cs = sumOf ya l cs := by simp [sumP, hB]
  simp [hB, hP, cCnt, cS, dSl, s54_8, s54_9, s54_15, s54_16, ]
  intro γ hs' h1 hg
  obtain ⟨q1, q2⟩ := gam_at hg (k := 901) (T := 3) (sz := 1) (es := us.map cI) (by simp)
  have q3 := gam_row2 hg (k := 901) (T := 3) (sz := 1) (es := us.map cI) (k2 := 900) (T2 := 28) (sz2 := 1) (es2 := zs.map (cS cI)) (by simp) (by simp)
  have q4 : ∀ g, γ 901 = some g → γ 900 = some g → False := fun g h1 h2 => by
    have := hg.ne 901 900 _ _ g (by simp; rfl) (by simp; rfl) h1 h2
    omega
  clear hg
  simp [hp1, hp2, hzl, List.take_of_length_le]
  refine ⟨⟨ya, ⟨γ 900, some (28, 1), zs⟩, ⟨γ 901, some (3, 1), us⟩⟩, by simp [cCnt, cS, dSl, hzl, List.take_of_length_le], hpl _ _, ⟨trivial, ⟨by simp only [maxLen]; show zs.length ≤ _; omega, fun z hz => k1.2.2 z (hzy z hz)⟩, ⟨by simp only [maxLen]; show us.length ≤ _; omega, fun _ _ => trivial⟩⟩, ⟨fun g hg => ⟨(q1 g hg).1, fun h => ?_⟩, fun h => q2 (by simpa using h), fun _ _ => rfl⟩⟩
  rw [idsL_cS] at h
  rcases mem_sl_ids.1 h with h | h
  · exact q4 g hg h
  · exact q3 g hg h
end

end Go.Proofs.YtmgphabeodaokaaGreat


namespace Go.Proofs.YtmgphabeodaokaaGreat
open Go.Vs Go.Proofs Go
set_option maxRecDepth 100000
set_option maxHeartbeats 1000000

section
attribute [local simp] plI_id plStr_id map_plI map_plStr pS
theorem e_spec_ProjectCounted (z : PCnt) (cols : List Int) (hb : cols.length ≤ 4294967296) : VC Tryz.prog 109 [.agg ((eCnt z).map .d), .d (pS cI cols)] (fun n v => ∃ y : Cnt, v = .tup [.agg ((cCnt y).map .d), .d (.bool (projB z cols))] ∧ plCnt y = projP z cols ∧ okCnt y ∧ CntF 3 n y) := by
  have h0 : ∀ n : Nat, plCnt ⟨0, nilS, nilS⟩ = ⟨0, [], []⟩ ∧ okCnt ⟨0, nilS, nilS⟩ ∧ CntF 3 n ⟨0, nilS, nilS⟩ := fun n => ⟨by simp [plCnt, nilS, plS], ⟨trivial, ok_nilS, ok_nilS⟩, cntF_nil _ n⟩
  have hP0 : projB z cols = false → projP z cols = ⟨0, [], []⟩ := fun h => by rw [projP, if_neg (by rw [h]; simp)]
  refine VC.of E s109 (by kernel_rfl) Tryz.func109 (by rfl) (by kernel_rfl) (by simp [Tryz.f109]) (by simp [Tryz.f109]) s109_ok fun B => ?_
  simp [Tryz.f109, s109_4, eCnt, s109_4, ]
  refine loop_rule (X := Nat) (fun i => i ≤ cols.length ∧ AllTo (fun c => inR c 0 (IntKind.i64.wrap (z.ar - 1))) cols i) (fun i => [(1, .d (.pl (cols.map cI))), (2, .ptr 2 0 0), (4, .ptr 4 0 0), (6, .d (.int .i64 i))])
    (fun i => [(2, some (.box [.d (.int .i64 z.ar), .d (.pl (z.rows.map (cP cI))), .d (.pl (z.cs.map cI))])), (4, some (.box [.d (.int .i64 0), .d (.sl none none []), .d (.sl none none [])]))]) (fun i => cols.length - i) 0 ⟨by simp, allTo_zero⟩ (by simp) (by simp) ?_
  intro i hs t m hi hh
  by_cases hlt : i < cols.length
  · have hwi := wr1 (i := i) (by omega)
    simp [hlt, cI, s109_4, ]
    refine call_f (w_spec_l1In cols[i] 0 (IntKind.i64.wrap (z.ar - 1))) (by simp) rfl fun hs1 hh1 => ?_
    simp at hh1
    cases hv : inR cols[i] 0 (IntKind.i64.wrap (z.ar - 1))
    · have hbad := all_bad (p := fun c => inR c 0 (IntKind.i64.wrap (z.ar - 1))) hlt hv
      have hF : projB z cols = false := by simp [projB, colsOk, hbad]
      have hP := hP0 hF
      simp [hF, hP, cCnt, cS, dSl, s109_4, ]
      exact ⟨⟨0, nilS, nilS⟩, by simp [cCnt, cS, dSl, nilS, cI], h0 B⟩
    · simp [hwi]
      exact back (i + 1) ⟨by omega, allTo_step hi.2 hlt hv⟩ (by omega) rfl (by simp <;> omega) (by simp) (by simp)
  have hd := allTo_done hi.2 (by omega)
  simp [hlt, s109_4, ]
  refine call_f (w_spec_IsValidCounted z) (by simp [eCnt]) rfl fun hs1 hh1 => ?_
  simp at hh1
  cases h1 : cntsOk z
  · have hF : projB z cols = false := by simp [projB, h1]
    have hP := hP0 hF
    simp [hF, hP, cCnt, cS, dSl, s109_4, ]
    exact ⟨⟨0, nilS, nilS⟩, by simp [cCnt, cS, dSl, nilS, cI], h0 B⟩
  by_cases h5 : cols.length ≤ 5
  case neg =>
    have h5' : (5 : Int) < cols.length := by omega
    have hF : projB z cols = false := by simp [projB, colsOk, h5]
    have hP := hP0 hF
    simp [h5', hF, hP, cCnt, cS, dSl, s109_4, ]
    exact ⟨⟨0, nilS, nilS⟩, by simp [cCnt, cS, dSl, nilS, cI], h0 B⟩
  have hr := cntsOk_rows h1
  have hrl := rowsOk_len hr
  have hcl := cntsOk_len h1
  have hco : colsOk z.ar cols = true := by simp only [colsOk, hd, h5]; rfl
  have har := rowsOk_inR hr
  simp only [inR, Bool.and_eq_true, decide_eq_true_eq] at har
  have hcs : ∀ r ∈ z.rows, ∀ c ∈ cols, 0 ≤ c ∧ c < r.length := fun r hrm c hc => by
    have h2 := (rowsOk_mem hr hrm).1
    have h3 := (List.all_eq_true.1 hd) c hc
    rw [wrap64_of (by omega) (by omega)] at h3
    simp only [inR, Bool.and_eq_true, decide_eq_true_eq] at h3
    omega
  simp [show ¬ (5 : Int) < cols.length by omega, s109_4, ]
  refine loop_rule (X := Nat) (fun i => i ≤ z.rows.length) (fun i => [(1, .d (.pl (cols.map cI))), (2, .ptr 2 0 0), (4, .ptr 4 0 0), (7, .own 36 0 i), (8, .d (.int .i64 i))])
    (fun i => [(2, some (.box [.d (.int .i64 z.ar), .d (.pl (z.rows.map (cP cI))), .d (.pl (z.cs.map cI))])), (4, some (.box [.d (.int .i64 0), .d (.sl none none []), .d (.sl none none [])])), (36, some (.row 28 1 (((z.rows.take i).map (pickR cols)).map (cP cI))))]) (fun i => z.rows.length - i) 0 (by simp) (by simp) (by simp) ?_
  intro k hs2 t2 m2 hk hh2
  by_cases hlt2 : k < z.rows.length
  · have hwi := wr1 (i := k) (by omega)
    have hL : LenOk 24 (k + 1) := ⟨by omega, by simp only [maxLen]; omega⟩
    refine anyQ fun Q => ?_
    simp [hlt2, cP, s109_4, ]
    refine call_p (w_spec_l5Cols z.rows[k] cols hb (hcs _ (List.getElem_mem hlt2))) (by simp) fun hs3 hh3 _ => ?_
    simp at hh3
    simp [hL, hwi, show min k z.rows.length = k by omega, s109_4, ]
    refine back (k + 1) (by omega) (by omega) rfl (by simp <;> omega) (by simp) ?_
    rw [List.take_succ_eq_append_getElem (by simpa using hlt2)]; simp [cP]
  · have hn : k = z.rows.length := by omega
    subst hn
    simp [s109_4, ]
    have hC := e_spec_l27Sum cols.length (z.rows.map (pickR cols)) z.cs (by simp [inR]; omega) (fun x hx => by
      obtain ⟨r, hrm, rfl⟩ := List.mem_map.1 hx
      exact ⟨by rw [pickR_len], pickR_ok (rowsOk_mem hr hrm).2 (hcs r hrm)⟩) (by simp; omega) (by simp; omega) (cntsOk_cs h1)
    refine call_pq hC (by simp [List.take_of_length_le]) fun n3 hs3 r3 hn3 hm3 hp3 hl3 => ?_
    obtain ⟨⟨ya, ⟨yid, yT, ys⟩, ⟨cid, cT, cs⟩⟩, rfl, py, ky, fy⟩ := hp3
    have hBn : B ≤ n3 := by simp at hn3; omega
    cases hB : sumB cols.length (z.rows.map (pickR cols)) z.cs
    · have hF : projB z cols = false := by simp [projB, hB]
      have hP := hP0 hF
      simp [hF, cCnt, cS, dSl, s109_4, ]
      exact ⟨⟨ya, ⟨yid, yT, ys⟩, ⟨cid, cT, cs⟩⟩, by simp [cCnt, cS, dSl, cI], by rw [py, hP]; simp [sumP, hB], ky, fy.le hBn⟩
    · have hF : projB z cols = true := by simp [projB, h1, hco, hB]
      have hP : projP z cols = sumP cols.length (z.rows.map (pickR cols)) z.cs := by rw [projP, if_pos hF, sumP, if_pos hB]
      simp [hF, cCnt, cS, dSl, s109_4, ]
      exact ⟨⟨ya, ⟨yid, yT, ys⟩, ⟨cid, cT, cs⟩⟩, by simp [cCnt, cS, dSl, cI], by rw [py, hP], ky, fy.le hBn⟩
end

end Go.Proofs.YtmgphabeodaokaaGreat


namespace Go.Proofs.YtmgphabeodaokaaGreat
open Go.Vs Go.Proofs Go
set_option maxRecDepth 100000
set_option maxHeartbeats 1000000

section
attribute [local simp] plI_id plStr_id map_plI map_plStr pS cP cI
theorem e_spec_l28Z (d : PDb) (q : PQuery) (hst : ∀ t ∈ d.tabs, t.name.length ≤ maxLen) (hsq : ∀ a ∈ q.atoms, a.rel.length ≤ maxLen) : VC Tryz.prog 64 [.agg ((eDb d).map V.d), .agg ((eQuery q).map V.d)] (fun n r => ∃ y : Cnt, r = .tup [.agg ((cCnt y).map V.d), .d (.bool (nvB d q))] ∧ plCnt y = nvR d q ∧ okCnt y ∧ CntF 3 n y) := by
  obtain ⟨dl, hdl⟩ : ∃ dl, dl = d.tabs := ⟨_, rfl⟩
  have hde : (eDb d).map V.d = [V.d (.pl (dl.map eTab))] := by rw [hdl]; simp [eDb, pS, cP]
  have hqe : (eQuery q).map V.d = [V.d (.int .i64 q.n), V.d (.pl (q.atoms.map eAtom)), V.d (.pl (q.out.map cI))] := by simp [eQuery, cI, cP, pS]
  have hab := ab_ar d q
  have h0 : ∀ n : Nat, plCnt ⟨0, nilS, nilS⟩ = ⟨0, [], []⟩ ∧ okCnt ⟨0, nilS, nilS⟩ ∧ CntF 3 n ⟨0, nilS, nilS⟩ := fun n => ⟨by simp [plCnt, nilS, plS], ⟨trivial, ok_nilS, ok_nilS⟩, cntF_nil _ n⟩
  refine VC.of E s64 (by kernel_rfl) Tryz.func64 (by rfl) (by kernel_rfl) (by simp [Tryz.f64]) (by simp [Tryz.f64]) s64_ok fun B => ?_
  simp [Tryz.f64, hde, hqe]
  refine call_p (w_spec_AllBindings d q hst hsq) (by simp [hde, hqe]) fun hs1 hh1 hl1 => ?_
  simp at hh1
  rw [ab_bd] at hab ⊢
  simp [eReln, cI, cP, pS, ]
  refine call_f (w_spec_IsQueryFor d q hst hsq) (by simp [hde, hqe]) rfl fun hs2 hh2 => ?_
  simp at hh2
  cases hqf : qryFor d q
  · have hb : bdB d q = false := by rw [← hab, hqf]; rfl
    have hn : nvB d q = false := by simp only [nvB, hb, Bool.false_and]
    simp [hn, nvR_false hn, cCnt, cS, dSl, ]
    exact ⟨⟨0, nilS, nilS⟩, by simp [cCnt, cS, dSl, nilS], h0 B⟩
  by_cases har : (bdP d q).ar = q.n
  · have hb : bdB d q = true := by rw [← hab, hqf]; simp [har]
    have hn : nvB d q = projB (cntOf (bdP d q)) q.out := by simp only [nvB, hb, Bool.true_and]
    simp [har, ]
    refine call_p (w_spec_CountedFromRelation (bdP d q)) (by simp [eReln, cI, cP, pS, har]) fun hs3 hh3 hl3 => ?_
    simp at hh3
    simp [eCnt, cI, cP, pS, ]
    refine call_pq (e_spec_ProjectCounted (cntOf (bdP d q)) q.out (by have := (qf_of hqf).out5; omega)) (by simp [eCnt, cI, cP, pS]) fun n4 hs4 r4 hn4 hm4 hp4 hl4 => ?_
    obtain ⟨⟨ya, ⟨yid, yT, ys⟩, ⟨cid, cT, cs⟩⟩, rfl, py, ky, fy⟩ := hp4
    have hBn : B ≤ n4 := by simp at hn4; omega
    simp [cCnt, cS, dSl, ]
    exact ⟨⟨ya, ⟨yid, yT, ys⟩, ⟨cid, cT, cs⟩⟩, by simp [cCnt, cS, dSl, cI, hn], by rw [py, nvR_out hb], ky, fy.le hBn⟩
  · have hb : bdB d q = false := by rw [← hab, hqf]; simp [har]
    have hn : nvB d q = false := by simp only [nvB, hb, Bool.false_and]
    simp [har, hn, nvR_false hn, cCnt, cS, dSl, ]
    exact ⟨⟨0, nilS, nilS⟩, by simp [cCnt, cS, dSl, nilS], h0 B⟩
/-- of a new view: the counts lie in a block of their own -/
def VwF (tI n : Nat) (y : View) : Prop := CntF tI n y.r ∧ ∀ g, y.r.cs.id = some g → g ∉ idsL (cQuery y.q)
theorem e_spec_NewView (d : PDb) (q : PQuery) (hst : ∀ t ∈ d.tabs, t.name.length ≤ maxLen) (hsq : ∀ a ∈ q.atoms, a.rel.length ≤ maxLen) : VC Tryz.prog 105 [.agg ((eDb d).map V.d), .agg ((eQuery q).map V.d)] (fun n r => ∃ y : View, r = .tup [.agg ((cView y).map V.d), .d (.bool (nvB d q))] ∧ plView y = nvP d q ∧ okView y ∧ VwF 3 n y) := by
  obtain ⟨dl, hdl⟩ : ∃ dl, dl = d.tabs := ⟨_, rfl⟩
  have hde : (eDb d).map V.d = [V.d (.pl (dl.map eTab))] := by rw [hdl]; simp [eDb]
  have hqe : (eQuery q).map V.d = [V.d (.int .i64 q.n), V.d (.pl (q.atoms.map eAtom)), V.d (.pl (q.out.map cI))] := by simp [eQuery]
  refine VC.of E s105 (by kernel_rfl) Tryz.func105 (by rfl) (by kernel_rfl) (by simp [Tryz.f105]) (by simp [Tryz.f105]) s105_ok fun B => ?_
  simp [Tryz.f105, s105_4, hde, hqe]
  have hZ := e_spec_l28Z d q hst hsq
  rw [hde, hqe] at hZ
  refine call_some hZ (by simp) (by simp) fun n1 hs1 r1 hn1 hm1 hp1 hr1 => ?_
  obtain ⟨⟨ya, ⟨yid, yT, ys⟩, ⟨cid, cT, cs⟩⟩, rfl, py, ky, fy⟩ := hp1
  have hBn : B ≤ n1 := by simpa using hn1
  cases hn : nvB d q
  · have hP : nvP d q = ⟨⟨0, [], []⟩, ⟨0, [], []⟩⟩ := by simp [nvP, hn]
    simp [hP, cCnt, cS, dSl, s105_4, ]
    exact ⟨⟨⟨0, nilS, nilS⟩, ⟨0, nilS, nilS⟩⟩, by simp [cView, cQuery, cCnt, cS, dSl, nilS], by simp [plView, plQuery, plCnt, plS, nilS], ⟨⟨trivial, ok_nilS, ok_nilS⟩, trivial, ok_nilS, ok_nilS⟩, cntF_nil _ B, by simp [nilS]⟩
  have f : Qf d q := qf_of (by
    cases h : qryFor d q with
    | true => rfl
    | false => simp [nvB, bdB, h] at hn)
  have hP : nvP d q = ⟨q, nvR d q⟩ := by simp [nvP, hn]
  simp [cCnt, cS, dSl, s105_4, ]
  repeat' apply And.intro
  all_goals
    refine call_pq (e_spec_l7Copy q (by have := f.a4; omega) (fun a h => by have := f.vlen a h; omega) (by have := f.out5; omega) hsq) (by simp [hqe]) fun n2 hs2 r2 hn2 hm2 hp2 hl2 => ?_
    obtain ⟨⟨qn, ⟨qaid, qaT, qa⟩, ⟨qoid, qoT, qo⟩⟩, rfl, pq, kq, lq⟩ := hp2
    simp [cQuery, cCnt, cS, dSl, s105_4, ]
    refine ⟨⟨⟨qn, ⟨qaid, qaT, qa⟩, ⟨qoid, qoT, qo⟩⟩, ⟨ya, ⟨yid, yT, ys⟩, ⟨cid, cT, cs⟩⟩⟩, by simp [cView, cQuery, cCnt, cS, dSl], by rw [hP]; simp only [plView, pq, py], ⟨kq, ky⟩, fy.le hBn, fun g hg h => ?_⟩
    have h1 := lq g h
    have h2 := hr1 g (by simp only at hg; simp [cCnt, cS, dSl, V.ids, idsVL, D.ids, hg])
    have h3 : hs1 ≤ n2 := by simpa using hn2
    omega
end

end Go.Proofs.YtmgphabeodaokaaGreat


namespace Go.Proofs.YtmgphabeodaokaaGreat
open Go.Vs Go.Proofs Go
set_option maxRecDepth 100000
set_option maxHeartbeats 1000000

/-- what the draw of a view leaves -/
structure VwA (b : Sl Int) (r : V) (cs : List V) : Prop where
  ex : ∃ (c' : Nat × Int) (y : View), r = .agg ((cView y).map V.d) ∧ okView y ∧ cs = (curD b c').map V.d ∧ curO b c'
section
attribute [local simp] pS dSl cP cI cW
theorem w_spec_l28View (b : Sl Int) (c : Nat × Int) (d : PDb) (q : PQuery) (hb : b.xs.length ≤ 1048576) (hc : curO b c) (hst : ∀ t ∈ d.tabs, t.name.length ≤ maxLen) (hsq : ∀ a ∈ q.atoms, a.rel.length ≤ maxLen) :
   VX Tryz.prog 59 [] [.ptr 1000 0 0, .agg ((eDb d).map V.d), .agg ((eQuery q).map V.d)] (some ((curD b c).map V.d)) (fun _ r cs _ => VwA b r cs) := by
  obtain ⟨dl, hdl⟩ : ∃ dl, dl = d.tabs := ⟨_, rfl⟩
  have hde : (eDb d).map V.d = [V.d (.pl (dl.map eTab))] := by rw [hdl]; simp [eDb]
  have hqe : (eQuery q).map V.d = [V.d (.int .i64 q.n), V.d (.pl (q.atoms.map eAtom)), V.d (.pl (q.out.map cI))] := by simp [eQuery]
  have hN := e_spec_NewView d q hst hsq
  rw [hde, hqe] at hN
  refine VX.of E s59 (by kernel_rfl) Tryz.func59 (by rfl) (by kernel_rfl) (by simp [Tryz.f59]) (by simp [Tryz.f59]) s59_ok ?_ ?_ fun B hB => ?_
  · simp
  · rintro cs h
    cases h
    simp [curD]
  simp [Tryz.f59, s59_3, s59_3, curD, hde, hqe]
  refine call_some hN (by simp) (by simp) fun n1 hs1 r1 hn1 hm1 hp1 hr1 => ?_
  obtain ⟨⟨⟨qn, ⟨qaid, qaT, qa⟩, ⟨qoid, qoT, qo⟩⟩, ⟨ya, ⟨yid, yT, ys⟩, ⟨cid, cT, xs⟩⟩⟩, rfl, py, ky, fy, fq⟩ := hp1
  have hB1 : B ≤ n1 := by simpa using hn1
  have hlx : xs.length ≤ maxLen := ky.2.2.2.1
  have fin : ∀ (c' : Nat × Int) (l : List Int), l.length = xs.length → curO b c' → VwA b (.agg ((cView ⟨⟨qn, ⟨qaid, qaT, qa⟩, ⟨qoid, qoT, qo⟩⟩, ⟨ya, ⟨yid, yT, ys⟩, ⟨cid, cT, l⟩⟩⟩).map V.d)) ((curD b c').map V.d) := fun c' l hl ho =>
    ⟨⟨c', ⟨⟨qn, ⟨qaid, qaT, qa⟩, ⟨qoid, qoT, qo⟩⟩, ⟨ya, ⟨yid, yT, ys⟩, ⟨cid, cT, l⟩⟩⟩, rfl, ⟨ky.1, ky.2.1, ky.2.2.1, ⟨by rw [hl]; exact hlx, fun _ _ => trivial⟩⟩, rfl, ho⟩⟩
  cases xs with
  | nil =>
    simp [vendX, cView, cQuery, cCnt, nilS, cS, curD, s59_3, ]
    intro γ hs' h1 hg
    clear hg
    have := fin c [] rfl hc
    simpa [cView, cQuery, cCnt, cS, curD] using this
  | cons x0 xr =>
    obtain ⟨g, rfl⟩ : ∃ g, cid = some g := by
      cases cid with
      | none => exact absurd rfl (fy.ne (by simp))
      | some g => exact ⟨g, rfl⟩
    obtain rfl := fy.T g rfl
    obtain ⟨hgn, hgy⟩ := fy.g g rfl
    have hgq := fq g rfl
    simp [cView, cQuery, cCnt, nilS, cS, curD, s59_3, ]
    refine call_cur c E106 (w_spec_l1Once b c 8 hb hc (by omega)) (by simp) (by simp [curD]) (by simp) (by simp) fun r2 c2 hs2 hh2 hq2 hl2 o2 => ?_
    obtain ⟨u, rfl⟩ := hq2
    cases u
    · simp [vendX, cS, curD, s59_3, ]
      intro γ hs' h1 hg
      clear hg
      have := fin c2 (x0 :: xr) rfl o2
      simpa [cView, cQuery, cCnt, cS, curD] using this
    · have hgB : B ≤ g := Nat.le_trans hB1 hgn
      have eB : ∀ d, reV (one g d) (.d (.sl b.id b.T (b.xs.map cW))) = .d (.sl b.id b.T (b.xs.map cW)) := fun d => reV_id (.d (dSl cW b)) (fun j hj => one_out fun e => by
        have := hB j (.inr (by simpa [curD] using hj))
        omega) (by simp [V.tk, D.tk, tkLL_mapW])
      have eA : ∀ d, reV (one g d) (.d (.sl qaid qaT (qa.map cAtom))) = .d (.sl qaid qaT (qa.map cAtom)) := fun d => reV_id (.d (dSl cAtom ⟨qaid, qaT, qa⟩)) fun j hj => one_out fun e => hgq (by
        subst e; simp only [cQuery, idsL_app, List.mem_append, idsL_cS]; exact .inl (.inr (by simpa [V.ids] using hj)))
      have eO : ∀ d, reV (one g d) (.d (.sl qoid qoT (qo.map cI))) = .d (.sl qoid qoT (qo.map cI)) := fun d => reV_id (.d (dSl cI ⟨qoid, qoT, qo⟩)) fun j hj => one_out fun e => hgq (by
        subst e; simp only [cQuery, idsL_app, List.mem_append, idsL_cS]; exact .inr (by simpa [V.ids] using hj))
      have eY : ∀ d, reV (one g d) (.d (.sl yid yT (ys.map (cS cI)))) = .d (.sl yid yT (ys.map (cS cI))) := fun d => reV_id (.d (dSl (cS cI) ⟨yid, yT, ys⟩)) fun j hj => one_out fun e => hgy (by
        subst e; simp only [idsL_cS]; simpa [V.ids] using hj)
      have eR := re_raw (g := g) (T := (3, 1)) (es := [.int .i64 x0] :: xr.map cI) (es' := [.int .i64 (IntKind.i64.wrap (x0 + 1))] :: xr.map cI) (by simp)
      have hn : g ∉ idsLL ([D.int .i64 x0] :: xr.map cI) := by simp [idsLL, idsL, D.ids]
      simp [eB, eA, eO, eY, eR, hgB, hn, vendX, cS, curD, s59_3, ]
      intro γ hs' h1 hg
      clear hg
      have := fin c2 (IntKind.i64.wrap (x0 + 1) :: xr) (by simp) o2
      simpa [cView, cQuery, cCnt, cS, curD] using this
end

end Go.Proofs.YtmgphabeodaokaaGreat


namespace Go.Proofs.YtmgphabeodaokaaGreat
open Go.Vs Go.Proofs Go
set_option maxRecDepth 100000
set_option maxHeartbeats 1000000

structure AbvD (v : V) : Prop where
  ex : ∃ (y : View) (d : Db) (s : Sl Delta), v = .tup [.agg ((cView y).map V.d), .agg ((cDb d).map V.d), .d (dSl cDelta s)] ∧ okView y ∧ (bdD d ∧ okDb d) ∧ s.xs.length ≤ 10 ∧ (∀ x ∈ s.xs, bdX x) ∧ okS okDelta s
section
attribute [local simp] pS dSl cP cI cW
theorem w_spec_DrawApplyBatchToView (b : Sl Int) (hb : b.xs.length ≤ 1048576) : VC Tryz.prog 23 [.d (dSl cW b)] (fun _ v => AbvD v) := by
  refine VC.of E s23 (by kernel_rfl) Tryz.func23 (by rfl) (by kernel_rfl) (by simp [Tryz.f23]) (by simp [Tryz.f23]) s23_ok fun B => ?_
  simp [Tryz.f23, s23_3, s23_3, ]
  refine call_nt (w_spec_l1New b hb) (by simp) (by simp) fun ds n0 hs0 hn0 hm0 hp0 hl0 hi0 => ?_
  obtain ⟨c0, rfl, o0⟩ := hp0
  simp [curD, s23_3, ]
  refine call_cp c0 E75 (w_spec_l7Both b c0 hb o0) (by simp) (by simp [curD]) (by simp) (by simp) fun r cs hs1 hh1 hp1 => ?_
  obtain ⟨c1, ⟨⟨did, dT, dx⟩⟩, ⟨qn, ⟨qaid, qaT, qa⟩, ⟨qoid, qoT, qo⟩⟩, rfl, ⟨bd1, ok1⟩, kq, aq, rfl, o1⟩ := hp1.ex
  simp [cQuery, cDb, cS, curD, s23_3, ]
  repeat' apply And.intro
  all_goals
    refine call_cp c1 E59 (w_spec_l28View b c1 (plDb ⟨⟨did, dT, dx⟩⟩) (plQuery ⟨qn, ⟨qaid, qaT, qa⟩, ⟨qoid, qoT, qo⟩⟩) hb o1 (okDb_st ok1) (okQuery_strs kq)) (by simp) (by simp [curD]) (by simp [eDb, eQuery, plDb, plQuery, plS, plI_id, map_plI, er_tabs, erLL_map er_cAtom, erLL_map er_cI]) (by simp) fun r cs hs2 hh2 hp2 => ?_
    obtain ⟨c2, ⟨⟨wn, ⟨waid, waT, wa⟩, ⟨woid, woT, wo⟩⟩, ⟨ya, ⟨yid, yT, ys⟩, ⟨cid, cT, xs⟩⟩⟩, rfl, kv, rfl, o2⟩ := hp2.ex
    simp [cView, cQuery, cCnt, cDb, cS, curD, s23_3, ]
    repeat' apply And.intro
    all_goals
      refine call_cp c2 E76 (w_spec_l29Batch b c2 (plDb ⟨⟨did, dT, dx⟩⟩) hb o2 (bdPd_of bd1)) (by simp) (by simp [curD]) (by simp [eDb, plDb, plS, er_tabs]) (by simp) fun r cs hs3 hh3 hp3 => ?_
      obtain ⟨c3, ⟨sid, sT, sx⟩, rfl, h1, h2, h3, rfl, o3⟩ := hp3.ex
      simp [cView, cQuery, cCnt, cDb, cS, curD, s23_3, ]
      exact ⟨⟨⟨⟨wn, ⟨waid, waT, wa⟩, ⟨woid, woT, wo⟩⟩, ⟨ya, ⟨yid, yT, ys⟩, ⟨cid, cT, xs⟩⟩⟩, ⟨⟨did, dT, dx⟩⟩, ⟨sid, sT, sx⟩, by simp [cView, cQuery, cCnt, cDb, cS], kv, ⟨bd1, ok1⟩, h1, h2, h3⟩⟩
end

end Go.Proofs.YtmgphabeodaokaaGreat


namespace Go.Proofs.YtmgphabeodaokaaGreat
open Go.Vs Go.Proofs Go
set_option maxRecDepth 100000
set_option maxHeartbeats 1000000

theorem w_spec_TouchedTables (ds : List PDelta) (hb : ds.length ≤ 4294967296) : VC Tryz.prog 28 [.d (pS eDelta ds)] (fun _ v => v = .d (pS cStr (touch ds))) := by
  refine VC.ofL EP s28 (by kernel_rfl) Tryz.func28 (by rfl) (by kernel_rfl) (by simp [Tryz.f28]) (by simp [Tryz.f28]) s28_ok fun B hl => ?_
  simp [Tryz.f28, s28_6, s28_8, s28_9]
  refine loop_ruleL (X := Nat) (fun i _ => i ≤ ds.length) (fun i => [(0, .d (.pl (ds.map eDelta))), (3, .d (.pl ((touch (ds.take i)).map cStr))), (4, .d (.int .i64 i))]) (fun _ => []) (fun i => ds.length - i) ?_ ?_
  · refine (lead_frp 7 (T := 9) (sz := 1) (es := []) (by simp)).bind ?_
    rintro _ rfl
    exact Lead.of ⟨0, by simp, rfl, rfl, Nat.le_refl _, by simp [touch], by simp⟩
  intro i hs t m hi hh
  have hst := fun h => touch_step (ds := ds) (i := i) h
  have htl := touch_len (ds.take i)
  rw [List.length_take] at htl
  by_cases hlt : i < ds.length
  case neg =>
    have hn : i = ds.length := by omega
    subst hn
    simp
  have hst := hst hlt
  generalize touch (ds.take i) = l at hst htl
  have hll : l.length ≤ 4294967296 := by omega
  have hwi := wr1 (i := i) (by omega)
  simp [hlt]
  refine loop_rule (X := Nat) (fun k => k ≤ l.length ∧ AllTo (fun y => Op.bytesLess y ds[i].name) l k) (fun k => [(0, .d (.pl (ds.map eDelta))), (3, .d (.pl (l.map cStr))), (4, .d (.int .i64 i)), (5, .d (.int .i64 k))]) (fun _ => []) (fun k => l.length - k) 0 ⟨by simp, allTo_zero⟩ (by simp) (by simp) ?_
  intro k hs2 t2 m2 hk hh2
  by_cases hkl : k < l.length
  · cases hless : Op.bytesLess l[k] ds[i].name
    · have hK : insK l ds[i].name = k := takeWhile_at hk.2 hk.1 fun _ => hless
      by_cases heq : l[k] = ds[i].name
      · have hins : insS l ds[i].name = l := by simp [insS, hK, hkl, heq]; omega
        rw [heq] at hless
        simp [hlt, hkl, show ¬ k = l.length by omega, hless, heq, hwi, eDelta, eReln, s28_6, s28_8, s28_9, ]
        exact back2 (i + 1) (by omega) (by omega) rfl (by simp <;> omega) (by simp [hst, hins]) (by simp)
      · have hne : ¬ l[k] = ds[i].name := heq
        have hins : insS l ds[i].name = l.take k ++ ds[i].name :: l.drop k := by simp [insS, hK, hkl, heq]
        simp [hlt, hkl, show ¬ k = l.length by omega, hless, hne, hwi, eDelta, eReln, ← List.map_take, ← List.map_drop, List.take_of_length_le, Nat.add_comm 1, show k ≤ l.length by omega, show min k l.length = k by omega, s28_6, s28_8, s28_9, ]
        refine ⟨⟨by omega, by simp only [maxLen]; omega⟩, ⟨by omega, by simp only [maxLen]; omega⟩, ⟨by omega, by simp only [maxLen]; omega⟩, ?_⟩
        refine Back2.lead (lead_frp 58 (T := 9) (sz := 1) (es := ((l.take k ++ ds[i].name :: l.drop k).map cStr)) (by simp)) ?_
        rintro _ rfl
        exact back2 (i + 1) (by omega) (by omega) rfl (by simp <;> omega) (by simp [hst, hins]; exact List.take_of_length_le (by simp; omega)) (by simp)
    · have hwk := wr1 (i := k) (by omega)
      simp (maxSteps := 1000000) [hlt, hkl, hless, hwk, eDelta, eReln, s28_6, s28_8, s28_9, ]
      exact back (k + 1) ⟨by omega, allTo_step hk.2 hkl hless⟩ (by omega) rfl (by simp <;> omega) (by simp) (by simp)
  · have hkn : k = l.length := by omega
    subst hkn
    have hK : insK l ds[i].name = l.length := takeWhile_at hk.2 hk.1 fun h => absurd h hkl
    have hins : insS l ds[i].name = l ++ [ds[i].name] := by simp [insS, hK]
    simp [hlt, hwi, eDelta, eReln, List.take_of_length_le, List.drop_of_length_le, s28_6, s28_8, s28_9, ]
    refine ⟨⟨by omega, by simp only [maxLen]; omega⟩, ⟨by omega, by simp only [maxLen]; omega⟩, ⟨by omega, by simp only [maxLen]; omega⟩, ?_⟩
    refine Back2.lead (lead_frp 58 (T := 9) (sz := 1) (es := ((l ++ [ds[i].name]).map cStr)) (by simp)) ?_
    rintro _ rfl
    exact back2 (i + 1) (by omega) (by omega) rfl (by simp <;> omega) (by simp [hst, hins]; exact List.take_of_length_le (by simp)) (by simp)

end Go.Proofs.YtmgphabeodaokaaGreat


namespace Go.Proofs.YtmgphabeodaokaaGreat
open Go.Vs Go.Proofs Go
set_option maxRecDepth 100000
set_option maxHeartbeats 1000000

theorem t_impl_TouchedTables (a : Sl Delta) (ha : okS okDelta a) (hb : a.xs.length ≤ 4294967296) : VC Tryz.prog 26 [.d (dSl cDelta a)]
   (fun n r => ∃ y : Sl (List UInt8), r = .d (dSl cStr y) ∧ plS plStr y = touch (plS plDelta a) ∧ okS okStr y ∧ Good (cS cStr y) (whS whStr y) n) := by
  refine VC.of E s26 (by kernel_rfl) Tryz.func26 (by rfl) (by kernel_rfl) (by simp [Tryz.f26]) (by simp [Tryz.f26]) s26_ok fun B => ?_
  have hnm : ∀ i (h : i < a.xs.length), okStr a.xs[i].name := fun i h => (ha.2 _ (List.getElem_mem h)).1
  simp [Tryz.f26, s26_6, s26_8, s26_9, dSl]
  refine loop_ruleL (X := Nat × Sl (List UInt8)) (fun p h => p.1 ≤ a.xs.length ∧ p.2.xs = touch ((plS plDelta a).take p.1) ∧ RowS (9, 1) B p.2)
    (fun p => [(3, .d (dSl cStr p.2)), (7, .d (.sl a.id a.T (a.xs.map cDelta))), (8, .d (.int .i64 a.xs.length)), (9, .d (.int .i64 p.1))]) (fun _ => []) (fun p => a.xs.length - p.1) ?_ ?_
  · exact Lead.of ⟨(0, nilS), ⟨by simp, by simp [nilS, touch], RowS.nil⟩, rfl, rfl, Nat.le_refl _, by simp [nilS, dSl], by simp⟩
  rintro ⟨i, y⟩ hs t m ⟨hi, hyl, hR⟩ hh
  simp only at hi hyl hR
  have htl := touch_len ((plS plDelta a).take i)
  rw [List.length_take, ← hyl] at htl
  have hll : y.xs.length ≤ 4294967296 := by simp [plS] at htl; omega
  by_cases hlt : i < a.xs.length
  case neg =>
    have hn : i = a.xs.length := by omega
    subst hn
    simp [dSl]
    have hz : y.xs = touch (plS plDelta a) := by rw [hyl, List.take_of_length_le (by simp [plS])]
    refine ⟨y, by simp, by simp [plS, hz], ⟨by simp only [maxLen]; omega, hR.ok⟩, hR.good⟩
  have hst := touch_step (ds := plS plDelta a) (i := i) (by simpa [plS] using hlt)
  rw [← hyl, show (plS plDelta a)[i]'(by simpa [plS] using hlt) = plDelta a.xs[i] by simp [plS]] at hst
  have hnm := hnm i hlt
  have hwi := wr1 (i := i) (by omega)
  obtain ⟨id, T, l⟩ := y
  simp only at hll hst htl hyl
  clear htl hyl
  simp [hlt, cDelta, cReln, cS, cI, cStr, dSl]
  refine loop_rule (X := Nat) (fun k => k ≤ l.length ∧ AllTo (fun z => Op.bytesLess z a.xs[i].name) l k) (fun k => [(3, .d (.sl id T (l.map cStr))), (5, .ptr 5 0 0), (6, .d (.int .i64 k)), (7, .d (.sl a.id a.T (a.xs.map cDelta))), (8, .d (.int .i64 a.xs.length)), (9, .d (.int .i64 i))])
    (fun _ => [(5, some (.box [.d (.str a.xs[i].name), .d (.int .i64 a.xs[i].ins.ar), .d (.sl a.xs[i].ins.rows.id a.xs[i].ins.rows.T (a.xs[i].ins.rows.xs.map (cS cI))), .d (.int .i64 a.xs[i].del.ar), .d (.sl a.xs[i].del.rows.id a.xs[i].del.rows.T (a.xs[i].del.rows.xs.map (cS cI)))]))]) (fun k => l.length - k) 0 ⟨by simp, allTo_zero⟩ (by simp [dSl]) (by simp [dSl]) ?_
  intro k hs2 t2 m2 hk hh2
  by_cases hkl : k < l.length
  · cases hless : Op.bytesLess l[k] a.xs[i].name
    · have hK : insK l a.xs[i].name = k := takeWhile_at hk.2 hk.1 fun _ => hless
      by_cases heq : l[k] = a.xs[i].name
      · have hins : insS l a.xs[i].name = l := by simp [insS, hK, hkl, heq]; omega
        rw [heq] at hless
        simp [hlt, hkl, show ¬ k = l.length by omega, hless, heq, hwi, cStr, s26_6, s26_8, s26_9, ]
        exact back2 (i + 1, ⟨id, T, l⟩) ⟨by omega, by simp [hst, hins], hR⟩ (by simp; omega) rfl (by simp <;> omega) (by simp [dSl]) (by simp)
      · have hne : ¬ l[k] = a.xs[i].name := heq
        have hins : insS l a.xs[i].name = l.take k ++ a.xs[i].name :: l.drop k := by simp [insS, hK, hkl, heq]
        simp [hlt, hkl, show ¬ k = l.length by omega, hless, hne, hwi, cStr, ← List.map_take, ← List.map_drop, List.take_of_length_le, Nat.add_comm 1, show k ≤ l.length by omega, show min k l.length = k by omega, s26_6, s26_8, s26_9, ]
        have hokE : ∀ s ∈ l.take k ++ a.xs[i].name :: l.drop k, okStr s := fun s hs => by
          rcases List.mem_append.1 hs with h | h
          · exact hR.ok s (List.mem_of_mem_take h)
          · rcases List.mem_cons.1 h with rfl | h
            · exact hnm
            · exact hR.ok s (List.mem_of_mem_drop h)
        have hL0 : LenOk 16 k := ⟨by omega, by simp only [maxLen]; omega⟩
        have hL1 : LenOk 16 (k + 1) := ⟨by omega, by simp only [maxLen]; omega⟩
        have hL2 : LenOk 16 (k + 1 + (l.length - k)) := ⟨by omega, by simp only [maxLen]; omega⟩
        refine ⟨⟨⟨hL0, hL1, hL2, ?_⟩, hL0, hL1, hL2, ?_⟩, hL0, hL1, hL2, ?_⟩
        all_goals
          refine Back2.lead (lead_frz 41 (T := 9) (sz := 1) (es := (l.take k ++ a.xs[i].name :: l.drop k).map cStr) (by simp [cStr])) ?_
          rintro _ ⟨γ, hs', h2, hg, rfl⟩
          obtain ⟨q1, q2⟩ := gam_at hg (k := 41) (T := 9) (sz := 1) (es := (l.take k ++ a.xs[i].name :: l.drop k).map cStr) (by simp [cStr])
          clear hg
          simp only at h2 q1
          refine back2 (i + 1, ⟨γ 41, some (9, 1), l.take k ++ a.xs[i].name :: l.drop k⟩) ⟨by omega, by simp [hst, hins], ⟨hokE, fun g hg => (q1 g hg).1, fun _ => q2 (by simp), by simp⟩⟩ (by simp; omega) rfl (by simp <;> omega) (by simp [dSl, cStr, ← List.map_take, ← List.map_drop, show min k l.length = k by omega, show k + 1 + (l.length - k) = k + (l.length - k + 1) by omega, List.take_of_length_le]) (by simp)
    · have hwk := wr1 (i := k) (by omega)
      refine anyQ fun Q => ?_
      simp [hlt, hkl, hless, hwk, cStr, s26_6, s26_8, s26_9, ]
      exact back (k + 1) ⟨by omega, allTo_step hk.2 hkl hless⟩ (by omega) rfl (by simp <;> omega) (by simp) (by simp)
  · have hkn : k = l.length := by omega
    subst hkn
    have hK : insK l a.xs[i].name = l.length := takeWhile_at hk.2 hk.1 fun h => absurd h hkl
    have hins : insS l a.xs[i].name = l ++ [a.xs[i].name] := by simp [insS, hK]
    simp [hlt, hwi, cStr, List.take_of_length_le, List.drop_of_length_le, s26_6, s26_8, s26_9, ]
    have hokE : ∀ s ∈ l ++ [a.xs[i].name], okStr s := fun s hs => by
      rcases List.mem_append.1 hs with h | h
      · exact hR.ok s h
      · rw [List.mem_singleton.1 h]; exact hnm
    have hL0 : LenOk 16 l.length := ⟨by omega, by simp only [maxLen]; omega⟩
    have hL1 : LenOk 16 (l.length + 1) := ⟨by omega, by simp only [maxLen]; omega⟩
    refine ⟨⟨⟨hL0, hL1, ?_⟩, hL0, hL1, ?_⟩, hL0, hL1, ?_⟩
    all_goals
      refine Back2.lead (lead_frz 41 (T := 9) (sz := 1) (es := (l ++ [a.xs[i].name]).map cStr) (by simp [cStr])) ?_
      rintro _ ⟨γ, hs', h2, hg, rfl⟩
      obtain ⟨q1, q2⟩ := gam_at hg (k := 41) (T := 9) (sz := 1) (es := (l ++ [a.xs[i].name]).map cStr) (by simp [cStr])
      clear hg
      simp only at h2 q1
      refine back2 (i + 1, ⟨γ 41, some (9, 1), l ++ [a.xs[i].name]⟩) ⟨by omega, by simp [hst, hins], ⟨hokE, fun g hg => (q1 g hg).1, fun _ => q2 (by simp), by simp⟩⟩ (by simp; omega) rfl (by simp <;> omega) (by simp [dSl, cStr]; exact List.take_of_length_le (by first | omega | (simp <;> omega))) (by simp)

end Go.Proofs.YtmgphabeodaokaaGreat


namespace Go.Proofs.YtmgphabeodaokaaGreat
open Go.Vs Go.Proofs Go
set_option maxRecDepth 100000
set_option maxHeartbeats 1000000

end Go.Proofs.YtmgphabeodaokaaGreat


namespace Go.Proofs.YtmgphabeodaokaaGreat
open Go.Vs Go.Proofs Go
set_option maxRecDepth 100000
set_option maxHeartbeats 1000000

section
attribute [local simp] plI_id plStr_id map_plI map_plStr
/-! ### what a maintained view holds -/
theorem neg64_ok {z : PCnt} (h : cntsOk z = true) : negW z = negP z := by
  have hc := cntsOk_cs h
  rw [negW, negP]
  congr 1
  refine List.map_congr_left fun n hn => ?_
  have := hc n hn
  rw [neg64]
  rw [wrap64_of (by omega) (by omega)]
theorem nvR_ar {d : PDb} {q : PQuery} (h : nvB d q = true) : (nvR d q).ar = q.out.length := by
  have h0 := h
  simp only [nvB, Bool.and_eq_true] at h
  rw [nvR, if_pos h0, projP, if_pos h.2]
  rfl
theorem av_new {d : PDb} {v : PView} {x : PDelta} (h : avB d v x = true) : appB d x = true ∧ nvB (appP d x) v.q = true ∧ (avP d v x).q = v.q ∧ (avP d v x).r = nvR (appP d x) v.q ∧ ivB (appP d x) (avP d v x) = true := by
  have h0 := h
  simp only [avB, avG, vdB, vdG, Bool.and_eq_true] at h
  obtain ⟨⟨hiv, ⟨⟨happ, hn1⟩, hn2⟩, ha⟩, hb⟩ := h
  have hv := ivB_nv hiv
  have k1 := nvR_ok hn1
  have k2 := nvR_ok hn2
  have hvd : vdR d v.q x = addCP (nvR (appP d x) v.q) (negW (nvR d v.q)) := by
    rw [vdR, if_pos]
    simp only [vdG, happ, hn1, hn2, Bool.and_true]
  have a1 := addC_ok ha
  have a2 := addC_ok hb
  have hP : (avP d v x) = ⟨v.q, addCP v.r (vdR d v.q x)⟩ := by rw [avP, if_pos h0]
  have hr : addCP v.r (vdR d v.q x) = nvR (appP d x) v.q := by
    have e := cz_ext (cz_ok a2.1) (cz_ok k2) fun y => by
      rw [a2.2.2.1 y, hvd, a1.2.2.1 y, neg64_ok k1]
      have : lkC (negP (nvR d v.q)).rows (negP (nvR d v.q)).cs y = - lkC (nvR d v.q).rows (nvR d v.q).cs y := look_neg y _ _
      rw [this, hv.2]
      omega
    have ear : (addCP v.r (vdR d v.q x)).ar = (nvR (appP d x) v.q).ar := by
      rw [a2.2.1, ← hv.2, nvR_ar hn1, nvR_ar hn2]
    obtain ⟨e1, e2⟩ := e
    cases hA : addCP v.r (vdR d v.q x)
    cases hB : nvR (appP d x) v.q
    rw [hA, hB] at ear e1 e2
    simp only at ear e1 e2
    rw [ear, e1, e2]
  refine ⟨happ, hn2, by rw [hP], by rw [hP]; exact hr, ?_⟩
  rw [hP]
  simp only [ivB, hn2, hr, decide_true, Bool.and_true]
theorem abS_new : ∀ (xs : List PDelta) (d : PDb) (v w : PView) (k : Nat), ivB d v = true → abS xs d v = some w → ∃ e j, runB d xs k = (some e, j) ∧ ivB e w = true
  | [], d, v, w, k, hv, h => by
    simp only [abS, Option.some.injEq] at h
    subst h
    exact ⟨d, k, rfl, hv⟩
  | x :: r, d, v, w, k, hv, h => by
    rw [abS] at h
    split at h
    · rename_i hb
      have hn := av_new hb
      obtain ⟨e, j, h1, h2⟩ := abS_new r (appP d x) (avP d v x) w (k + 1) hn.2.2.2.2 h
      refine ⟨e, j, ?_, h2⟩
      rw [runB, if_pos hn.1]; exact h1
    · cases h
theorem abv_new {d : PDb} {v : PView} {xs : List PDelta} (h : abvB v d xs = true) : batB d xs = true ∧ ivB (batP d xs) (abvP v d xs) = true := by
  rw [abvB, abV] at h
  split at h
  · rename_i hc
    have hab : abV v d xs = abS xs d v := by rw [abV, if_pos hc]
    simp only [Bool.and_eq_true] at hc
    obtain ⟨w, hw⟩ := Option.isSome_iff_exists.1 h
    obtain ⟨e, j, h1, h2⟩ := abS_new xs d v w 0 hc.2 hw
    have hg := (batB_run hc.1).1
    have hT := bat_done hg h1
    refine ⟨hc.1, ?_⟩
    rw [batP, hT, abvP, hab, hw]
    exact h2
  · simp at h
theorem w_laws_sameTexts (a b : List (List UInt8)) (hb : a.length ≤ 4294967296) : VC Tryz.prog 27 [.d (pS cStr a), .d (pS cStr b)] (fun _ r => r = .d (.bool (decide (a = b)))) := by
  refine VC.ofL EP s27 (by kernel_rfl) Tryz.func27 (by rfl) (by kernel_rfl) (by simp [Tryz.f27]) (by simp [Tryz.f27]) s27_ok fun B hl => ?_
  simp [Tryz.f27, s27_6, pS, s27_6, ]
  by_cases hl : a.length = b.length
  case neg =>
    have : a ≠ b := fun e => hl (by rw [e])
    have h2 : ¬ (a.length : Int) = b.length := by omega
    simp [h2, hl, this, s27_6, ]
  simp [hl, s27_6, ]
  refine loop_rule (X := Nat) (fun i => i ≤ a.length ∧ a.take i = b.take i) (fun i => [(0, .d (.pl (a.map cStr))), (1, .d (.pl (b.map cStr))), (5, .d (.int .i64 i))])
    (fun i => []) (fun i => a.length - i) 0 ⟨by simp, by simp⟩ (by simp) (by simp) ?_
  intro i hs t m hi hh
  by_cases hlt : i < a.length
  · have hwi := wr1 (i := i) (by omega)
    have hlb : i < b.length := by omega
    by_cases e : a[i] = b[i]
    · simp [hlt, hlb, e, hwi, cStr, s27_6, ]
      refine back (i + 1) ⟨by omega, ?_⟩ (by omega) rfl (by simp <;> omega) (by simp) (by simp)
      rw [List.take_succ_eq_append_getElem hlt, List.take_succ_eq_append_getElem hlb, hi.2, e]
    · have : a ≠ b := fun h => e (by subst h; rfl)
      simp [hlt, hlb, e, this, cStr, s27_6, ]
  · have hn : i = a.length := by omega
    have : a = b := by
      have := hi.2
      rwa [hn, List.take_length, hl, List.take_length] at this
    simp [show ¬ i < b.length by omega, this, s27_6, ]
section
attribute [local simp] pS cP cI
end
end

end Go.Proofs.YtmgphabeodaokaaGreat


namespace Go.Proofs.YtmgphabeodaokaaGreat
open Go.Vs Go.Proofs Go
set_option maxRecDepth 100000
set_option maxHeartbeats 1000000

section
attribute [local simp] plI_id plStr_id map_plI map_plStr pS cP cI cW dSl
theorem er_atomsL (l : List Atom) : erLL (l.map cAtom) = (l.map plAtom).map eAtom := erLL_map er_cAtom l
theorem er_rowsL (l : List Ints) : erLL (l.map (cS cI)) = (l.map (plS plI)).map (cP cI) := erLL_map (er_cS er_cI) l
theorem er_intsL (l : List Int) : erLL (l.map cI) = (l.map plI).map cI := erLL_map er_cI l
theorem rp_view (m : Nat → Option Blk) (v : View) : rp m (.agg ((cView v).map V.d)) = some (.agg ((eView (plView v)).map V.d)) := by
  simp [cView, cQuery, cCnt, cS, eView, eQuery, eCnt, plView, plQuery, plCnt, plS, er_atomsL, er_rowsL, er_intsL, rp, rpL]
theorem rp_db (m : Nat → Option Blk) (v : Db) : rp m (.agg ((cDb v).map V.d)) = some (.agg ((eDb (plDb v)).map V.d)) := by
  simp [cDb, cS, eDb, plDb, plS, er_tabs, rp, rpL]
theorem rp_e (m : Nat → Option Blk) (l : List D) (h : erL l = l) : rp m (.agg (l.map V.d)) = some (.agg (l.map V.d)) := by
  have : ∀ l : List D, rpL m (l.map V.d) = some ((erL l).map V.d) := fun l => by
    induction l with
    | nil => rfl
    | cons x r ih => simp only [List.map_cons, rpL, rp, ih, erL]
  simp only [rp, this, h, Option.map_some]
theorem rpL_cons {m : Nat → Option Blk} {v v' : V} {l l' : List V} (h : rp m v = some v') (h' : rpL m l = some l') : rpL m (v :: l) = some (v' :: l') := by simp only [rpL, h, h']
theorem xView (v : View) : (cView v).map V.d = [.d (.int .i64 v.q.n), .d (.sl v.q.atoms.id v.q.atoms.T (v.q.atoms.xs.map cAtom)), .d (.sl v.q.out.id v.q.out.T (v.q.out.xs.map cI)), .d (.int .i64 v.r.ar), .d (.sl v.r.rows.id v.r.rows.T (v.r.rows.xs.map (cS cI))), .d (.sl v.r.cs.id v.r.cs.T (v.r.cs.xs.map cI))] := by simp [cView, cQuery, cCnt, cS]
theorem xDb (d : Db) : (cDb d).map V.d = [.d (.sl d.tabs.id d.tabs.T (d.tabs.xs.map cTab))] := by simp [cDb, cS]
theorem yView (v : PView) : (eView v).map V.d = [.d (.int .i64 v.q.n), .d (.pl (v.q.atoms.map eAtom)), .d (.pl (v.q.out.map cI)), .d (.int .i64 v.r.ar), .d (.pl (v.r.rows.map (cP cI))), .d (.pl (v.r.cs.map cI))] := by simp [eView, eQuery, eCnt]
theorem yDb (d : PDb) : (eDb d).map V.d = [.d (.pl (d.tabs.map eTab))] := by simp [eDb]
end

end Go.Proofs.YtmgphabeodaokaaGreat


namespace Go.Proofs.YtmgphabeodaokaaGreat
open Go.Vs Go.Proofs Go
set_option maxRecDepth 100000
set_option maxHeartbeats 1000000

section
attribute [local simp] plI_id plStr_id map_plI map_plStr pS cP cI cW dSl
theorem rp_slE {α β : Type} {c : α → List D} {e : β → List D} {pl : α → β} (h : ∀ a, erL (c a) = e (pl a)) (m : Nat → Option Blk) (s : Sl α) : rp m (.d (dSl c s)) = some (.d (pS e (plS pl s))) := by
  simp [rp, dSl, D.er, pS, plS, erLL_map h]
theorem szDb_bat {d : PDb} {xs : List PDelta} (h : szDb d) : szDb (batP d xs) := by
  cases hB : batB d xs
  · unfold batB at hB
    unfold batP batT
    split
    · rename_i hg
      split
      · rename_i c k e
        simp only [batG, Bool.and_eq_true] at hg
        exact szDb_ok (run_ok xs d 0 c k hg.2 e)
      · exact h
    · exact h
  · obtain ⟨hg, c, k, hr⟩ := batB_run hB
    have hT := bat_done hg hr
    have hP : batP d xs = c := by rw [batP, hT]
    simp only [batG, Bool.and_eq_true] at hg
    rw [hP]
    exact szDb_ok (run_ok xs d 0 c k hg.2 hr)
theorem w_laws_FnBatchViews (b : Sl Int) :
   VC Tryz.prog 5 [.d (dSl cW b)] (fun _ r => r = .d (.bool true)) := by
  refine VC.of E s5 (by kernel_rfl) Tryz.func5 (by rfl) (by kernel_rfl) (by simp [Tryz.f5]) (by simp [Tryz.f5]) s5_ok fun B => ?_
  simp [Tryz.f5, ]
  refine call_pure (w_laws_big b) rfl (by simp) rfl fun hz zz => ?_
  simp at zz
  by_cases hb : (1048576 : Int) < b.xs.length
  · simp [hb]
  simp [hb, ]
  refine call_some (w_spec_DrawApplyBatchToView b (by omega)) rfl (by simp) fun n1 hs1 r1 hn1 hm1 hp1 hr1 => ?_
  obtain ⟨v, d, s, rfl, kv, ⟨bd, kd⟩, hl10, bx, ks⟩ := hp1.ex
  have zD : szDb (plDb d) := szDb_bd bd
  have sD := okDb_st kd
  have sV := okView_strs kv
  have sX := okDeltas_st ks
  have rVDX : ∀ m, rpL m [.agg ((cView v).map V.d), .agg ((cDb d).map V.d), .d (dSl cDelta s)] = some [.agg ((eView (plView v)).map V.d), .agg ((eDb (plDb d)).map V.d), .d (pS eDelta (plS plDelta s))] := fun m => rpL_cons (rp_view m v) (rpL_cons (rp_db m d) (rpL_cons (rp_slE er_cDelta m s) rfl))
  have rDX : ∀ m, rpL m [.agg ((cDb d).map V.d), .d (dSl cDelta s)] = some [.agg ((eDb (plDb d)).map V.d), .d (pS eDelta (plS plDelta s))] := fun m => rpL_cons (rp_db m d) (rpL_cons (rp_slE er_cDelta m s) rfl)
  have rX : ∀ m, rpL m [.d (dSl cDelta s)] = some [.d (pS eDelta (plS plDelta s))] := fun m => rpL_cons (rp_slE er_cDelta m s) rfl
  simp only [xView, xDb, dSl] at rVDX rDX rX
  have hA := t_impl_ApplyBatchToView v d s kv kd ks zD
  have hT := t_impl_TouchedTables s ks (by omega)
  have hXl : (plS plDelta s).length = s.xs.length := by simp [plS]
  obtain ⟨D0, hD⟩ : ∃ D, D = plDb d := ⟨_, rfl⟩
  obtain ⟨V0, hV⟩ : ∃ V, V = plView v := ⟨_, rfl⟩
  obtain ⟨X0, hX⟩ : ∃ X, X = plS plDelta s := ⟨_, rfl⟩
  rw [← hD, ← hV, ← hX] at rVDX
  rw [← hD, ← hX] at rDX
  rw [← hX] at rX hT hXl
  rw [← hD, ← hV, ← hX] at hA
  rw [← hD] at zD sD
  rw [← hV] at sV
  rw [← hX] at sX
  simp [xView, xDb, ]
  refine call_some hA (by simp [xView, xDb]) (by simp [xView, xDb]) fun n2 hs2 r2 hn2 hm2 hp2 hr2 => ?_
  obtain ⟨w, rfl, pw, kw, _⟩ := hp2
  have rEW : ∀ m E, rpL m [.agg ((eDb E).map V.d), .agg ((cView w).map V.d)] = some [.agg ((eDb E).map V.d), .agg ((eView (plView w)).map V.d)] := fun m E => rpL_cons (rp_e m _ (by simp [eDb, erL, D.er])) (rpL_cons (rp_view m w) rfl)
  simp only [xView, pw, yDb] at rEW
  simp [xView, xDb, ]
  refine call_p (w_spec_ApplyBatchToView V0 D0 X0 zD sD sV sX) (by simpa only [pS] using rVDX _) fun hs3 hh3 hl3 => ?_
  simp at hh3
  simp [xView, xDb, yView, ]
  refine call_some hT (by simp) (by simp) fun n4 hs4 r4 hn4 hm4 hp4 hr4 => ?_
  obtain ⟨y, rfl, py, ky, _⟩ := hp4
  simp at hn4
  have rYT : ∀ m, rpL m [.d (dSl cStr y), .d (pS cStr (touch X0))] = some [.d (pS cStr (touch X0)), .d (pS cStr (touch X0))] := fun m => rpL_cons (by rw [rp_slE er_cStr, py]) (rpL_cons (by simp [rp, D.er, pS, erLL_map er_cStr]) rfl)
  have hyl : y.xs.length = (touch X0).length := by rw [← py]; simp [plS]
  simp [xView, xDb, yView, ]
  refine call_p (w_spec_TouchedTables X0 (by omega)) (by simpa only [pS] using rX _) fun hs5 hh5 hl5 => ?_
  simp at hh5
  simp [xView, xDb, yView, ]
  have htl := touch_len X0
  refine call_f (VC.to (w_laws_sameTexts (touch X0) (touch X0) (by omega)) (show _ = V.d (.bool true) by simp)) (by simpa only [pS, dSl] using rYT _) rfl fun hs6 hh6 => ?_
  simp at hh6
  have hle : ¬ (s.xs.length : Int) < (touch X0).length := by omega
  cases hB : abvB V0 D0 X0
  · simp [hyl, hle, xView, xDb, yView, ]
  obtain ⟨hbat, hiv⟩ := abv_new hB
  have zE := szDb_bat (xs := X0) zD
  have sE : ∀ t ∈ (batP D0 X0).tabs, t.name.length ≤ maxLen := by
    obtain ⟨hg, c, k, hr⟩ := batB_run hbat
    have hT := bat_done hg hr
    have hP : batP D0 X0 = c := by rw [batP, hT]
    rw [hP]
    simp only [batG, Bool.and_eq_true] at hg
    exact dbOk_st (run_ok X0 D0 0 c k hg.2 hr)
  have hq : (abvP V0 D0 X0).q = V0.q := by
    rw [abvB] at hB
    obtain ⟨w', hw'⟩ := Option.isSome_iff_exists.1 hB
    have h2 := hw'
    rw [abV] at h2
    split at h2
    · rename_i hc
      simp only [Bool.and_eq_true] at hc
      have := abS_ok X0 D0 V0 w' (by rw [← (ivB_nv hc.2).2]; exact nvR_ok (ivB_nv hc.2).1) h2
      rw [abvP, hw']; exact this.1
    · cases h2
  have iv1 := w_impl_IsValidView (batP D0 X0) (abvP V0 D0 X0) (by rw [hq]; exact sV)
  have iv2 := w_spec_IsValidView (batP D0 X0) (abvP V0 D0 X0) sE (by rw [hq]; exact sV)
  rw [hiv] at iv1 iv2
  have hAB := w_spec_ApplyBatch D0 X0 zD sD sX
  obtain ⟨E0, hE0⟩ : ∃ E, E = batP D0 X0 := ⟨_, rfl⟩
  rw [← hE0] at iv1 iv2 hAB
  simp [hyl, hle, xView, xDb, yView, ]
  refine call_p hAB (by simpa only [pS, dSl] using rDX _) fun hs7 hh7 hl7 => ?_
  simp at hh7
  simp [xView, xDb, yView, yDb, ]
  refine call_f iv1 (by simpa only [yDb] using rEW _ _) rfl fun hs8 hh8 => ?_
  simp at hh8
  simp [xView, xDb, yView, yDb, ]
  refine call_f iv2 (by simpa only [yDb] using rEW _ _) rfl fun hs9 hh9 => ?_
  simp []
end

end Go.Proofs.YtmgphabeodaokaaGreat

