/-
  B3B2: a part of a proof of this seat: the value-level semantics of Go code without maps, its walk rules, the frame of a row, facts of types, schedules, walks, plain lemmas (K13 K14 K15 K16 K17 K18 K20 K19 LK3 LK4 LK5). It holds of every program and state that its hypotheses name.
-/
import Derived.Test.YtninbnbgaeailaaB3B1
set_option linter.unusedSimpArgs false
set_option linter.unusedVariables false
set_option linter.unnecessarySimpa false
namespace Go.Proofs.Ytninbnbgaeailaa
open Go.Vs Go.Proofs Go
set_option maxRecDepth 100000
set_option maxHeartbeats 1000000

/-- what the draw of a row leaves -/
structure RowC (b : Sl Int) (k : Int) (n : Nat) (r : V) (cs : List V) : Prop where
  ex : ∃ (c' : Nat × Int) (s : Sl Int), r = .d (dSl cI s) ∧ (s.xs.length : Int) ≤ max k 0 ∧ (∀ g, s.id = some g → n ≤ g) ∧ cs = (curD b c').map V.d ∧ curO b c'
theorem call_row {P : Program} {E : Md} {args : List Operand} {f : FuncId} {rest As : List V} {k : Nat} {dst : Option Tmp} {K : St → Prop} {σ : St} {b : Sl Int} {m : Int} (c : Nat × Int) (hE : E f = true)
    (hc : VX P f [] (.ptr 1000 0 0 :: As) (some ((curD b c).map V.d)) (fun n r cs _ => RowC b m n r cs)) (hvs : args.map σ.ev = .ptr k 0 0 :: rest) (hm : σ.m k = some (.box ((curD b c).map V.d)))
    (hr : rpL σ.m rest = some As) (hk : keysVL rest = [])
    (hK : ∀ (s : Sl Int) c' n hs', σ.hs ≤ n → n ≤ hs' → (s.xs.length : Int) ≤ max m 0 → (∀ g, s.id = some g → n ≤ g ∧ g < hs') → curO b c' → K ({ σ with hs := hs', m := upd σ.m k (some (.box ((curD b c').map V.d))) }.put dst (.d (dSl cI s)))) : vcallA P E f args (.ptr k 0 0 :: rest) dst K σ := by
  refine call_xi hE hvs hm hr (by simp [curD, dSl]) hc fun r cs' ws n hs' h1 h2 h3 h4 h5 h9 => ?_
  obtain ⟨c', s, rfl, h6, h7, rfl, ho⟩ := h3.ex
  have : keysVL rest ++ keysVL ((curD b c).map V.d) = [] := by rw [hk]; simp [curD]
  rw [this]
  exact hK s c' n hs' h1 h2 h6 (fun g hg => ⟨h7 g hg, h9 g (mem_sl_ids.2 (.inl hg))⟩) ho
/-- a row is put into a relation where it belongs -/
def insOk (r : PReln) (row : List Int) : Bool := rowsOk r.ar r.rows && decide ((row.length : Int) = r.ar) && valsOk row && !placeB r.rows row && !decide (r.rows.length = 4000)
def insP (r : PReln) (row : List Int) : PReln := if insOk r row then ⟨r.ar, r.rows.take (placeK r.rows row) ++ row :: r.rows.drop (placeK r.rows row)⟩ else r
section
attribute [local simp] pS dSl cP cI cW
theorem t_spec_l4Row (b : Sl Int) (c : Nat × Int) (n most : Int) (hb : b.xs.length ≤ 1048576) (hc : curO b c) (hn : n ≤ 1000) (hm : most ≤ 1000000000) : VX Try.prog 82 [] [.ptr 1000 0 0, .d (.int .i64 n), .d (.int .i64 most)] (some ((curD b c).map V.d)) (fun m r cs _ => RowC b n m r cs) := by
  refine VX.of E s82 (by kernel_rfl) Try.func82 (by rfl) (by kernel_rfl) (by simp [Try.f82]) (by simp [Try.f82]) s82_ok ?_ ?_ fun B hB => ?_
  · simp
  · rintro cs h
    cases h
    simp [curD]
  simp [Try.f82, curD]
  refine loop_rule (X := (Nat × Int) × List Int) (fun p => curO b p.1 ∧ (p.2.length : Int) ≤ max n 0) (fun p => [(0, .ptr 1000 0 0), (1, .d (.int .i64 n)), (2, .d (.int .i64 most)), (7, .own 8 0 p.2.length)]) (fun p => [(1000, some (.box ((curD b p.1).map V.d))), (8, some (.row 3 1 (p.2.map cI)))]) (fun p => 1000 - p.2.length) (c, []) ⟨hc, by simp; omega⟩ (by simp) (by simp [curD]) ?_
  rintro ⟨c1, l⟩ hs t m ⟨ho, hl⟩ hh
  simp only at ho hl
  by_cases hlt : (l.length : Int) < n
  · have hL : LenOk 8 (l.length + 1) := ⟨by omega, by simp only [maxLen]; omega⟩
    simp [hlt, curD, ]
    refine call_cur c1 E56 (w_spec_l1Below b c1 most hb ho hm) (by simp) (by simp [curD]) (by simp) (by simp) fun r1 c2 hs1 hh1 hq1 hl1 o1 => ?_
    obtain ⟨x, rfl, _⟩ := hq1
    simp [hlt, hL, curD, ]
    exact back (c2, l ++ [x]) ⟨o1, by simp; omega⟩ (by simp; omega) rfl (by simp <;> omega) (by simp) (by simp [curD])
  · simp [hlt, curD, vendX, ]
    intro γ hs' h1 hg
    obtain ⟨q1, q2⟩ := gam_at hg (k := 8) (T := 3) (sz := 1) (es := l.map cI) (by simp)
    clear hg
    exact ⟨⟨c1, ⟨γ 8, some (3, 1), l⟩, by simp [List.take_of_length_le], hl, fun g hg => (q1 g hg).1, by simp [curD], ho⟩⟩
theorem w_spec_InsertRow (r : PReln) (row : List Int) (hb : r.rows.length ≤ 4294967296) (hb2 : ∀ x ∈ r.rows, x.length ≤ 4294967296) (hb3 : row.length ≤ 4294967296) : VC Try.prog 71 [.agg ((eReln r).map V.d), .d (pS cI row)] (fun _ v => v = .tup [.agg ((eReln (insP r row)).map V.d), .d (.bool (insOk r row))]) := by
  obtain ⟨ar, l⟩ := r
  simp only at hb hb2
  refine VC.ofL EP s71 (by kernel_rfl) Try.func71 (by rfl) (by kernel_rfl) (by simp [Try.f71]) (by simp [Try.f71]) s71_ok fun B hl => ?_
  simp [Try.f71, s71_7, s71_7, eReln]
  refine call_p (w_spec_l5Copy ⟨ar, l⟩ hb hb2) (by simp [eReln]) fun hs1 hh1 hl1 => ?_
  simp at hh1
  simp [eReln, s71_7, ]
  refine call_f (w_spec_IsValidRelation ⟨ar, l⟩) (by simp [eReln]) rfl fun hs2 hh2 => ?_
  simp at hh2
  have hno : insOk ⟨ar, l⟩ row = false → insP ⟨ar, l⟩ row = ⟨ar, l⟩ := fun h => by rw [insP, h]; rfl
  cases h1 : rowsOk ar l
  · have h0 : insOk ⟨ar, l⟩ row = false := by simp [insOk, h1]
    simp [hno h0, h0, eReln, s71_7, ]
  by_cases h2 : (row.length : Int) = ar
  case neg =>
    have h0 : insOk ⟨ar, l⟩ row = false := by simp [insOk, h2]
    simp [hno h0, h0, h2, eReln, s71_7, ]
  simp [h2, eReln, s71_7, ]
  refine call_f (w_spec_AreValidValues row) (by simp) rfl fun hs3 hh3 => ?_
  simp at hh3
  cases h3 : valsOk row
  · have h0 : insOk ⟨ar, l⟩ row = false := by simp [insOk, h3]
    simp [hno h0, h0, h2, eReln, s71_7, ]
  simp [h2, eReln, s71_7, ]
  refine call_f (w_spec_l5Place ⟨ar, l⟩ row hb) (by simp [eReln]) rfl fun hs4 hh4 => ?_
  simp at hh4
  have hll := rowsOk_len h1
  have hk := placeK_le l row
  cases h4 : placeB l row
  case true =>
    have h0 : insOk ⟨ar, l⟩ row = false := by simp [insOk, h4]
    simp [hno h0, h0, eReln, s71_7, ]
  by_cases h5 : l.length = 4000
  · have h0 : insOk ⟨ar, l⟩ row = false := by simp [insOk, h5]
    simp [hno h0, h0, h5, eReln, s71_7, ]
  have h5' : ¬ (l.length : Int) = 4000 := by omega
  have h0 : insOk ⟨ar, l⟩ row = true := by simp [insOk, h1, h2, h3, h4, h5]
  obtain ⟨k, hkk⟩ : ∃ k, k = placeK l row := ⟨_, rfl⟩
  rw [← hkk] at hk
  have L0 : LenOk 8 row.length := ⟨by omega, by simp only [maxLen]; omega⟩
  have L1 : LenOk 24 (1 + (l.length - k)) := ⟨by omega, by simp only [maxLen]; omega⟩
  have L2 : LenOk 24 k := ⟨by omega, by simp only [maxLen]; omega⟩
  have L3 : LenOk 24 (k + (1 + (l.length - k))) := ⟨by omega, by simp only [maxLen]; omega⟩
  have hmn : min k l.length = k := by omega
  have a2 : 1 + (l.length - k) = l.length - k + 1 := by omega
  have hP : insP ⟨ar, l⟩ row = ⟨ar, l.take k ++ row :: l.drop k⟩ := by rw [insP, if_pos h0, ← hkk]
  rw [a2] at L1 L3
  simp [h5', a2, hP, h0, ← hkk, hk, L0, L1, L2, L3, hmn, eReln, ← List.map_take, ← List.map_drop, List.take_of_length_le, s71_7, ]
end

end Go.Proofs.Ytninbnbgaeailaa

namespace Go.Proofs.Ytninbnbgaeailaa
open Go.Vs Go.Proofs Go
set_option maxRecDepth 100000
set_option maxHeartbeats 1000000

/-- bounds of a drawn relation -/
def bdR (y : Reln) : Prop := y.rows.xs.length ≤ 5000 ∧ (∀ r ∈ y.rows.xs, r.xs.length ≤ 2000) ∧ y.ar ≤ 1001
/-- what the draw of a relation leaves that need not be right -/
structure RelA (b : Sl Int) (n : Nat) (r : V) (cs : List V) : Prop where
  ex : ∃ (c' : Nat × Int) (y : Reln), r = .agg ((cReln y).map V.d) ∧ (bdR y ∧ ∀ g ∈ idsL (cReln y), n ≤ g) ∧ okReln y ∧ cs = (curD b c').map V.d ∧ curO b c'
theorem call_relA {P : Program} {E : Md} {args : List Operand} {f : FuncId} {rest As : List V} {k : Nat} {dst : Option Tmp} {K : St → Prop} {σ : St} {b : Sl Int} (c : Nat × Int) (hE : E f = true)
    (hc : VX P f [] (.ptr 1000 0 0 :: As) (some ((curD b c).map V.d)) (fun n r cs _ => RelA b n r cs)) (hvs : args.map σ.ev = .ptr k 0 0 :: rest) (hm : σ.m k = some (.box ((curD b c).map V.d)))
    (hr : rpL σ.m rest = some As) (hk : keysVL rest = [])
    (hK : ∀ (y : Reln) c' n hs', σ.hs ≤ n → n ≤ hs' → bdR y → (∀ g ∈ idsL (cReln y), n ≤ g) → okReln y → curO b c' → K ({ σ with hs := hs', m := upd σ.m k (some (.box ((curD b c').map V.d))) }.put dst (.agg ((cReln y).map V.d)))) : vcallA P E f args (.ptr k 0 0 :: rest) dst K σ := by
  refine call_xt hE hvs hm hr (by simp [curD, dSl]) hc fun r cs' ws n hs' h1 h2 h3 h4 h5 => ?_
  obtain ⟨c', y, rfl, h6, h7, rfl, ho⟩ := h3.ex
  have : keysVL rest ++ keysVL ((curD b c).map V.d) = [] := by rw [hk]; simp [curD]
  rw [this]
  exact hK y c' n hs' h1 h2 h6.1 h6.2 h7 ho
theorem ids_rel {y : Reln} {g : Nat} : g ∈ idsL (cReln y) ↔ y.rows.id = some g ∨ g ∈ idsLL (y.rows.xs.map (cS cI)) := by
  rw [cReln, idsL_app, List.mem_append, idsL_cS, mem_sl_ids]
  constructor
  · rintro (h | h)
    · simp [cI, idsL, D.ids] at h
    · exact h
  · exact .inr
section
attribute [local simp] pS dSl cP cI cW
theorem w_spec_l5Any (b : Sl Int) (c : Nat × Int) (hb : b.xs.length ≤ 1048576) (hc : curO b c) : VX Try.prog 70 [] [.ptr 1000 0 0] (some ((curD b c).map V.d)) (fun n r cs _ => RelA b n r cs) := by
  refine VX.of E s70 (by kernel_rfl) Try.func70 (by rfl) (by kernel_rfl) (by simp [Try.f70]) (by simp [Try.f70]) s70_ok ?_ ?_ fun B hB => ?_
  · simp
  · rintro cs h
    cases h
    simp [curD]
  simp [Try.f70, s70_6, s70_9, s70_6, s70_9, curD]
  refine call_cur c E56 (w_spec_l1Below b c 4 hb hc (by omega)) (by simp) (by simp [curD]) (by simp) (by simp) fun r0 c0 hs0 hh0 hq0 hl0 o0 => ?_
  obtain ⟨x, rfl, x0, x1, _⟩ := hq0
  have x1 := x1 (by omega)
  simp [s70_6, s70_9, curD]
  refine call_rel c0 E69 (w_spec_l5Rel b c0 x 6 4 hb o0 (by omega) (by omega) (by omega)) (by simp) (by simp [curD]) (by simp) (by simp) fun y c1 n1 hs1 hn1 hm1 hy1 ly1 ky1 Ty1 Gy1 Iy1 o1 => ?_
  obtain ⟨ya, ⟨rid, rT, rx⟩⟩ := y
  have hB1 : B ≤ n1 := by simp at hn1 hh0; omega
  have hrow := rowsOk_row hy1
  have hmem := fun (r : Ints) (hr : r ∈ rx) => rowsOk_mem hy1 (x := plS plI r) (by simp only [plReln, plS]; exact List.mem_map.2 ⟨r, hr, rfl⟩)
  have har : 0 ≤ ya ∧ ya ≤ 5 := by
    have := rowsOk_inR hy1
    simp only [inR, Bool.and_eq_true, decide_eq_true_eq] at this
    exact this
  have hr5 : ∀ r ∈ rx, (r.xs.length : Int) = ya := fun r hr => by
    have := (hmem r hr).1
    simpa [plReln, plS] using this
  simp only at ly1
  refine forgetG [(0, .ptr 1000 0 0), (2, .ptr 2 0 0), (7, .agg ((cReln ⟨ya, ⟨rid, rT, rx⟩⟩).map V.d))] [(1000, some (.box ((curD b c1).map V.d))), (2, some (.box [.d (.int .i64 0), .d (.sl none none [])]))] (by simp) (by simp [curD]) fun t m => ?_
  simp [cReln, curD, cS, s70_6, s70_9, ]
  refine call_cur c1 E56 (w_spec_l1Below b c1 14 hb o1 (by omega)) (by simp) (by simp [curD]) (by simp) (by simp) fun r2 c2 hs2 hh2 hq2 hl2 o2 => ?_
  obtain ⟨u, rfl, u0, u1, _⟩ := hq2
  have hB2 : n1 ≤ hs2 := by simp at hh2; omega
  refine forgetG [(0, .ptr 1000 0 0), (2, .ptr 2 0 0), (3, .ptr 3 0 0), (9, .d (.int .i64 u))] [(1000, some (.box ((curD b c2).map V.d))), (2, some (.box [.d (.int .i64 0), .d (.sl none none [])])), (3, some (.box ((cReln ⟨ya, ⟨rid, rT, rx⟩⟩).map V.d)))] (by simp) (by simp [curD, cReln, cS]) fun t m => ?_
  have fin : bdR ⟨ya, ⟨rid, rT, rx⟩⟩ := ⟨by simp only; omega, fun r hr => by have := hr5 r hr; omega, by simp only; omega⟩
  have hlo : ∀ (v : Int), ∀ g ∈ idsL (cReln ⟨v, ⟨rid, rT, rx⟩⟩), B ≤ g := fun v g hg => by
    have := Gy1.lo g (ids_rel.2 (ids_rel.1 hg : rid = some g ∨ g ∈ idsLL (rx.map (cS cI))))
    omega
  by_cases e0 : u = 0
  · subst e0
    have hw : IntKind.i64.wrap (ya + 1) = ya + 1 := wrap64_of (by omega) (by omega)
    simp [cReln, curD, cS, hw, s70_6, s70_9, ]
    refine call_curK c2 E68 (w_spec_l1PickInt b c2 [-1, 6, ya + 1] hb o2 (by simp) (by simp)) (by simp) (by simp [curD]) (by simp) fun r3 c3 hs3 hh3 hq3 hl3 o3 => ?_
    obtain ⟨v, rfl, hv⟩ := hq3
    simp only [List.mem_cons, List.not_mem_nil, or_false] at hv
    simp [cReln, curD, cS, vendX, s70_6, s70_9, ]
    intro γ hs' h1 hg
    clear hg
    exact ⟨⟨c3, ⟨v, ⟨rid, rT, rx⟩⟩, by simp [cReln, cS], ⟨⟨fin.1, fin.2.1, by simp only; omega⟩, hlo v⟩, ⟨trivial, ky1.2⟩, by simp [curD], o3⟩⟩
  by_cases e1 : u = 1
  · subst e1
    have hmx : (if 0 < ya then ya else 0) = ya := by split <;> omega
    simp [cReln, curD, cS, hmx, s70_6, s70_9, ]
    repeat' apply And.intro
    all_goals
      refine call_row c2 E82 (t_spec_l4Row b c2 ya 4 hb o2 (by omega) (by omega)) (by simp) (by simp [curD]) (by simp) (by simp) fun row c3 n3 hs3 hn3 hm3 hrow hrid o3 => ?_
      have hn3 : hs2 ≤ n3 := hn3
      obtain ⟨wid, wT, wx⟩ := row
      simp only at hrow hrid
      have L0 : LenOk 24 1 := ⟨by omega, by simp only [maxLen]; omega⟩
      cases rid with
      | none =>
        have h0 : rx = [] := Gy1.wh.2.1.nil rfl
        subst h0
        cases rT
        all_goals
          simp [cReln, curD, cS, L0, vendX, s70_6, s70_9, ]
          intro γ hs' h1 hg
          obtain ⟨q1, q2⟩ := gam_at hg (k := 29) (T := 69) (sz := 1) (es := [[D.sl wid wT (wx.map cI)]]) (by simp)
          clear hg
          exact ⟨⟨c3, ⟨ya, ⟨γ 29, some (69, 1), [(⟨wid, wT, wx⟩ : Sl Int)]⟩⟩, by simp [cReln, cS], ⟨⟨by simp, fun r hr => by rw [List.mem_singleton.1 hr]; simp only; omega, by simp only; omega⟩, fun g hg => by
            rcases ids_rel.1 hg with h | h
            · exact (q1 g h).1
            · rcases mem_sl_ids.1 (show g ∈ (dSl cI (⟨wid, wT, wx⟩ : Sl Int)).ids by simpa [idsLL, idsL_cS] using h) with h | h
              · have := (hrid g h).1; omega
              · simp at h⟩, ⟨trivial, ⟨by simp [maxLen], fun r hr => by rw [List.mem_singleton.1 hr]; exact ⟨by simp only [maxLen]; omega, fun _ _ => trivial⟩⟩⟩, by simp [curD], o3⟩⟩
      | some gr =>
        obtain rfl : rT = some (69, 1) := Ty1 gr rfl
        have G0 := Gy1.nd
        simp only [cReln, idsL_app, idsL_cS] at G0
        have hrB : B ≤ gr := by
          have := Gy1.lo gr (by simp only [cReln, idsL_app, idsL_cS, List.mem_append]; exact .inr (mem_slids (s := (⟨some gr, some (69, 1), rx⟩ : Sl Ints)) rfl))
          omega
        have hrs : gr < hs1 := Iy1 gr (by simp only [cReln, idsL_app, idsL_cS, List.mem_append]; exact .inr (mem_slids (s := (⟨some gr, some (69, 1), rx⟩ : Sl Ints)) rfl))
        have hs12 : hs1 ≤ hs2 := by simpa using hh2
        have f1 : gr ∉ idsLL (rx.map (cS cI)) := by
          have := (List.nodup_append.1 G0).2.1
          simp only [dSl, D.ids, Option.toList] at this
          exact (List.nodup_cons.1 this).1
        have hw0 : gr ∉ (D.sl wid wT (wx.map cI)).ids := fun h => by
          rcases mem_sl_ids.1 (show gr ∈ (dSl cI (⟨wid, wT, wx⟩ : Sl Int)).ids from h) with h | h
          · have := (hrid gr h).1; omega
          · simp at h
        have f0 : gr ∉ idsLL [[D.sl wid wT (wx.map cI)]] := fun h => hw0 (by simpa [idsLL, idsL] using h)
        have kr : ∀ i, i ≠ gr → kphi (some gr) i = none := fun i hi => by simp only [kphi]; rw [if_neg (by simpa using Ne.symm hi)]
        have c1' : reV (kphi (some gr)) (.d (.sl b.id b.T (b.xs.map cW))) = .d (.sl b.id b.T (b.xs.map cW)) := reV_id _ (fun j hj => kr j fun e => by
          have := hB j (.inr (by simpa [curD] using hj))
          omega) (by simp [tkLL_mapW])
        have eR : reLL (kphi (some gr)) (rx.map (cS cI) ++ [[D.sl wid wT (wx.map cI)]]) = some (rx.map (cS cI) ++ [[D.sl wid wT (wx.map cI)]]) := by
          have e : rx.map (cS cI) ++ [[D.sl wid wT (wx.map cI)]] = (rx ++ [(⟨wid, wT, wx⟩ : Sl Int)]).map (cS cI) := by simp [cS, dSl]
          rw [e]
          refine reLL_id _ (ht := tkLL_map _ (by simp)) fun k hk => kr k fun e => ?_
          rw [List.map_append, idsLL_append] at hk
          rcases List.mem_append.1 hk with h | h
          · exact f1 (e ▸ h)
          · exact f0 (e ▸ h)
        have L1 : LenOk 24 (rx.length + 1) := ⟨by omega, by simp only [maxLen]; omega⟩
        simp [cReln, curD, cS, St.kill, hrB, f0, f1, L1, eR, c1', vendX, List.take_of_length_le, s70_6, s70_9, ]
        intro γ hs' h1 hg
        obtain ⟨q1, q2⟩ := gam_at hg (k := 29) (T := 69) (sz := 1) (es := rx.map (cS cI) ++ [[D.sl wid wT (wx.map cI)]]) (by simp)
        clear hg
        exact ⟨⟨c3, ⟨ya, ⟨γ 29, some (69, 1), rx ++ [(⟨wid, wT, wx⟩ : Sl Int)]⟩⟩, by simp [cReln, cS, List.take_of_length_le], ⟨⟨by simp; omega, fun r hr => by
          rcases List.mem_append.1 hr with hr | hr
          · have := hr5 r hr; omega
          · rw [List.mem_singleton.1 hr]; simp only; omega, by simp only; omega⟩, fun g hg => by
          rcases ids_rel.1 hg with h | h
          · exact (q1 g h).1
          · simp only [List.map_append, idsLL_append] at h
            rcases List.mem_append.1 h with h | h
            · exact hlo ya g (ids_rel.2 (.inr h))
            · rcases mem_sl_ids.1 (show g ∈ (dSl cI (⟨wid, wT, wx⟩ : Sl Int)).ids by simpa [idsLL, idsL_cS] using h) with h | h
              · have := (hrid g h).1; omega
              · simp at h⟩, ⟨trivial, ⟨by simp only [maxLen, List.length_append, List.length_cons, List.length_nil]; omega, fun r hr => by
          rcases List.mem_append.1 hr with hr | hr
          · exact ky1.2.2 r hr
          · rw [List.mem_singleton.1 hr]; exact ⟨by simp only [maxLen]; omega, fun _ _ => trivial⟩⟩⟩, by simp [curD], o3⟩⟩
  by_cases e2 : u = 2
  · subst e2
    by_cases hrx : rx = []
    · subst hrx
      simp [cReln, curD, cS, vendX, s70_6, s70_9, ]
      intro γ hs' h1 hg
      clear hg
      exact ⟨⟨c2, ⟨ya, ⟨rid, rT, []⟩⟩, by simp [cReln, cS], ⟨fin, hlo ya⟩, ky1, by simp [curD], o2⟩⟩
    obtain ⟨w0, rx', rfl⟩ := List.exists_cons_of_ne_nil hrx
    by_cases hya : 0 < ya
    · obtain ⟨wid, wT, wx⟩ := w0
      have hwl : (wx.length : Int) = ya := hr5 (⟨wid, wT, wx⟩ : Sl Int) (by simp)
      have hw0 : 0 < wx.length := by omega
      obtain ⟨g0, hg0, T', hT'⟩ := (Sl.wh.id (s := (⟨wid, wT, wx⟩ : Sl Int)) (Gy1.wh.2.2 (⟨wid, wT, wx⟩ : Sl Int) (by simp)).1 hw0)
      simp only at hg0 hT'
      subst hg0 hT'
      have G0 := Gy1.nd
      simp only [cReln, idsL_app, idsL_cS] at G0
      have hin : g0 ∈ idsLL (((⟨some g0, some T', wx⟩ : Sl Int) :: rx').map (cS cI)) := by
        simp only [List.map_cons, idsLL, idsL_cS, List.mem_append]
        exact .inl (mem_slids (s := (⟨some g0, some T', wx⟩ : Sl Int)) rfl)
      have hgB : B ≤ g0 := by
        have := Gy1.lo g0 (by simp only [cReln, idsL_app, idsL_cS, dSl, D.ids, List.mem_append]; exact .inr (.inr hin))
        omega
      have G1 := (List.nodup_append.1 G0).2.1
      simp only [dSl, D.ids] at G1
      have hout : ∀ g, rid = some g → g ≠ g0 := fun g h e => by
        subst h e
        exact (List.nodup_cons.1 G1).1 hin
      have G2 := (List.nodup_append.1 G1).2.1
      have hrest : g0 ∉ idsLL (rx'.map (cS cI)) := fun h => by
        simp only [List.map_cons, idsLL, idsL_cS] at G2
        exact (List.nodup_append.1 G2).2.2 g0 (mem_slids (s := (⟨some g0, some T', wx⟩ : Sl Int)) rfl) g0 h rfl
      have e3 : ∀ d, reV (one g0 d) (.d (.sl b.id b.T (b.xs.map cW))) = .d (.sl b.id b.T (b.xs.map cW)) := fun d => reV_id _ (fun j hj => one_out fun e => by
        have := hB j (.inr (by simpa [curD] using hj))
        omega) (by simp [tkLL_mapW])
      have eLL : ∀ d, reLL (one g0 d) (rx'.map (cS cI)) = some (rx'.map (cS cI)) := fun d => reLL_id _ (ht := tkLL_map _ (by simp)) fun j hj => one_out fun e => hrest (e ▸ hj)
      have e4 : ∀ v, reV (one g0 (.sl (some g0) (some T') ((wx.map cI).set 0 [.int .i64 v]))) (.d (.sl rid rT ([.sl (some g0) (some T') (wx.map cI)] :: rx'.map (cS cI)))) = .d (.sl rid rT ([.sl (some g0) (some T') ((wx.map cI).set 0 [.int .i64 v])] :: rx'.map (cS cI))) := fun v => by
        have h1 : reD (one g0 (.sl (some g0) (some T') ((wx.map cI).set 0 [.int .i64 v]))) (.sl (some g0) (some T') (wx.map cI)) = some (.sl (some g0) (some T') ((wx.map cI).set 0 [.int .i64 v])) := by
          simp only [reD, one, if_true]
          rw [if_pos]
          refine ⟨trivial, rfl, trivial, ?_⟩
          refine List.ext_getElem (by simp) fun n h1 h2 => ?_
          simp only [List.getElem_map]
          by_cases hn : 0 = n
          · subst hn; simp
          · rw [List.getElem_set_ne hn, List.getElem_map]
        have h2 : reLL (one g0 (.sl (some g0) (some T') ((wx.map cI).set 0 [.int .i64 v]))) ([.sl (some g0) (some T') (wx.map cI)] :: rx'.map (cS cI)) = some ([.sl (some g0) (some T') ((wx.map cI).set 0 [.int .i64 v])] :: rx'.map (cS cI)) := by
          simp only [reLL, reL, h1, eLL]
        cases rid with
        | none => simp only [reV, reD, h2, Option.map_some]
        | some gr => simp only [reV, reD, one_out (hout gr rfl), h2, Option.map_some]
      simp [cReln, curD, cS, hya, s70_6, s70_9, ]
      repeat' apply And.intro
      all_goals
        refine call_curK c2 E68 (w_spec_l1PickInt b c2 [-1, 100, 99] hb o2 (by simp) (by simp)) (by simp) (by simp [curD]) (by simp) fun r3 c3 hs3 hh3 hq3 hl3 o3 => ?_
        obtain ⟨v, rfl, hv⟩ := hq3
        simp [cReln, curD, cS, hya, hw0, s70_6, s70_9, ]
        refine ⟨hgB, ?_⟩
        simp [-List.map_set, cS, e3, e4, vendX]
        intro γ hs' h1 hg
        clear hg
        have hidI : ∀ L : List Int, idsLL (L.map cI) = [] := fun L => by simp
        have e5 : (List.map cI wx).set 0 [D.int .i64 v] = List.map cI (wx.set 0 v) := by rw [← set_map]; rfl
        exact ⟨⟨c3, ⟨ya, ⟨rid, rT, (⟨some g0, some T', wx.set 0 v⟩ : Sl Int) :: rx'⟩⟩, by rw [e5]; simp [cReln, cS], ⟨⟨fin.1, fun r hr => by
          rcases List.mem_cons.1 hr with hr | hr
          · rw [hr]; simp; omega
          · exact fin.2.1 r (List.mem_cons_of_mem _ hr), fin.2.2⟩, fun g hg => hlo ya g (by
          refine ids_rel.2 ?_
          have h := ids_rel.1 hg
          simp only [List.map_cons, idsLL, idsL_cS, List.mem_append, mem_sl_ids] at h ⊢
          rcases h with h | (h | h) | h
          · exact .inl h
          · exact .inr (.inl (.inl h))
          · rw [hidI] at h; simp at h
          · exact .inr (.inr h))⟩, ⟨trivial, ⟨ky1.2.1, fun r hr => by
          rcases List.mem_cons.1 hr with hr | hr
          · rw [hr]; exact ⟨by simp [maxLen]; omega, fun _ _ => trivial⟩
          · exact ky1.2.2 r (List.mem_cons_of_mem _ hr)⟩⟩, by simp [curD], o3⟩⟩
    · simp [cReln, curD, cS, hya, vendX, s70_6, s70_9, ]
      intro γ hs' h1 hg
      clear hg
      exact ⟨⟨c2, ⟨ya, ⟨rid, rT, w0 :: rx'⟩⟩, by simp [cReln, cS], ⟨fin, hlo ya⟩, ky1, by simp [curD], o2⟩⟩
  simp [cReln, curD, cS, vendX, e0, e1, e2, s70_6, s70_9, ]
  intro γ hs' h1 hg
  clear hg
  exact ⟨⟨c2, ⟨ya, ⟨rid, rT, rx⟩⟩, by simp [cReln, cS], ⟨fin, hlo ya⟩, ky1, by simp [curD], o2⟩⟩
end

end Go.Proofs.Ytninbnbgaeailaa

namespace Go.Proofs.Ytninbnbgaeailaa
open Go.Vs Go.Proofs Go
set_option maxRecDepth 100000
set_option maxHeartbeats 1000000

/-- bounds of drawn tables and databases -/
def bdT (y : Tab) : Prop := y.name.length ≤ 10 ∧ bdR y.rel
def bdD (z : Db) : Prop := z.tabs.xs.length ≤ 10 ∧ ∀ t ∈ z.tabs.xs, bdT t
/-- what the draw of a database leaves -/
structure DbC (t1 : Nat) (b : Sl Int) (n : Nat) (r : V) (cs : List V) : Prop where
  ex : ∃ (c' : Nat × Int) (z : Db), r = .agg ((cDb z).map V.d) ∧ bdD z ∧ okDb z ∧ (z.tabs.xs.length = 5 ∧ ∃ g, z.tabs.id = some g ∧ n ≤ g ∧ z.tabs.T = some (t1, 3) ∧ g ∉ idsLL (z.tabs.xs.map cTab)) ∧ cs = (curD b c').map V.d ∧ curO b c'
theorem call_db {P : Program} {t1 : Nat} {E : Md} {args : List Operand} {f : FuncId} {rest As : List V} {k : Nat} {dst : Option Tmp} {K : St → Prop} {σ : St} {b : Sl Int} (c : Nat × Int) (hE : E f = true)
    (hc : VX P f [] (.ptr 1000 0 0 :: As) (some ((curD b c).map V.d)) (fun n r cs _ => DbC t1 b n r cs)) (hvs : args.map σ.ev = .ptr k 0 0 :: rest) (hm : σ.m k = some (.box ((curD b c).map V.d)))
    (hr : rpL σ.m rest = some As) (hk : keysVL rest = [])
    (hK : ∀ (xs : List Tab) (g : Nat) c' n hs', σ.hs ≤ n → n ≤ hs' → bdD ⟨⟨some g, some (t1, 3), xs⟩⟩ → okDb ⟨⟨some g, some (t1, 3), xs⟩⟩ → xs.length = 5 → n ≤ g → g < hs' → g ∉ idsLL (xs.map cTab) → curO b c' → K ({ σ with hs := hs', m := upd σ.m k (some (.box ((curD b c').map V.d))) }.put dst (.agg ((cDb ⟨⟨some g, some (t1, 3), xs⟩⟩).map V.d)))) : vcallA P E f args (.ptr k 0 0 :: rest) dst K σ := by
  refine call_xi hE hvs hm hr (by simp [curD, dSl]) hc fun r cs' ws n hs' h1 h2 h3 h4 h5 h9 => ?_
  obtain ⟨c', ⟨⟨id, T, xs⟩⟩, rfl, h6, h7, ⟨hl, g, rfl, hg1, rfl, hg2⟩, rfl, ho⟩ := h3.ex
  have : keysVL rest ++ keysVL ((curD b c).map V.d) = [] := by rw [hk]; simp [curD]
  rw [this]
  exact hK xs g c' n hs' h1 h2 h6 h7 hl hg1 (h9 g (by rw [ids_agg, cDb, idsL_cS]; exact mem_slids (s := (⟨some g, some (t1, 3), xs⟩ : Sl Tab)) rfl)) hg2 ho
/-- the names of drawn tables -/
def nms : List (List UInt8) := [[114], [115], [116], [117], [118]]
theorem nms_len : nms.length = 5 := rfl
theorem nms_one : ∀ s ∈ nms, s.length ≤ 10 := by decide
section
attribute [local simp] pS dSl cP cI cW
theorem w_spec_l6Db (b : Sl Int) (c : Nat × Int) (hb : b.xs.length ≤ 1048576) (hc : curO b c) : VX Try.prog 52 [] [.ptr 1000 0 0] (some ((curD b c).map V.d)) (fun n r cs _ => DbC 66 b n r cs) := by
  refine VX.of E s52 (by kernel_rfl) Try.func52 (by rfl) (by kernel_rfl) (by simp [Try.f52]) (by simp [Try.f52]) s52_ok ?_ ?_ fun B hB => ?_
  · simp
  · rintro cs h
    cases h
    simp [curD]
  simp [Try.f52, s52_13, s52_13, curD]
  refine call_curK c E68 (w_spec_l1PickInt b c [2, 3, 4, 6] hb hc (by simp) (by simp)) (by simp) (by simp [curD]) (by simp) fun r0 c0 hs0 hh0 hq0 hl0 o0 => ?_
  obtain ⟨vv, rfl, hvv⟩ := hq0
  simp only [List.mem_cons, List.not_mem_nil, or_false] at hvv
  simp [s52_13, curD]
  refine loop_ruleL (X := Nat × (Nat × Int) × List Tab) (fun p _ => p.1 ≤ 5 ∧ p.2.2.length = p.1 ∧ curO b p.2.1 ∧ ∀ y ∈ p.2.2, okTab y ∧ bdT y) (fun p => [(0, .ptr 1000 0 0), (2, .ptr 2 0 0), (3, .d (.int .i64 vv)), (4, .ptr 4 0 0), (13, .own 13 0 5), (14, .d (.int .i64 5)), (15, .d (.int .i64 p.1))])
    (fun p => [(1000, some (.box ((curD b p.2.1).map V.d))), (2, some (.box [.d (.sl none none [])])), (4, some (.box [.own 34 0 p.2.2.length])), (13, some (.row 9 1 (nms.map cStr))), (34, some (.row 66 3 (p.2.2.map cTab)))]) (fun p => 5 - p.1) ?_ ?_
  · refine (lead_box 4 0 34 66 3 [.d (.sl none none [])] (by omega) (by omega) (by omega) (by simp) rfl).bind ?_
    rintro _ rfl
    exact Lead.of ⟨(0, c0, []), ⟨by omega, rfl, o0, by simp⟩, rfl, rfl, Nat.le_refl _, by simp, by simp [curD, nms, cStr]⟩
  rintro ⟨i, c1, ys⟩ hs t m ⟨hi, hyl, ho, hy⟩ hh
  simp only at hi hyl ho hy
  by_cases hlt : i < 5
  · have hwi := wr1 (i := i) (by omega)
    have hin : i < nms.length := by rw [nms_len]; exact hlt
    obtain ⟨nm, hnm⟩ : ∃ nm, nm = nms[i] := ⟨_, rfl⟩
    have hnl := nms_one _ (List.getElem_mem hin)
    rw [← hnm] at hnl
    have hL : LenOk 48 (ys.length + 1) := ⟨by omega, by simp only [maxLen]; omega⟩
    refine anyQ2 fun Q => ?_
    have hlz : (i : Int) < 5 := by omega
    by_cases hv : nm = [118]
    · simp [hlt, hlz, hin, ← hnm, hv, curD, cStr, nms_len, s52_13, ]
      refine call_curK c1 E68 (w_spec_l1PickInt b c1 [3, 6, 9] hb ho (by simp) (by simp)) (by simp) (by simp [curD]) (by simp) fun r1 c2 hs1 hh1 hq1 hl1 o1 => ?_
      obtain ⟨w, rfl, hw⟩ := hq1
      simp only [List.mem_cons, List.not_mem_nil, or_false] at hw
      have hh1' : hs ≤ hs1 := hh1
      simp [curD, cStr, s52_13, ]
      refine call_rel c2 E69 (w_spec_l5Rel b c2 3 w vv hb o1 (by omega) (by omega) (by omega)) (by simp) (by simp [curD]) (by simp) (by simp) fun y c3 n3 hs3 hn3 hm3 hy3 ly3 ky3 Ty3 Gy3 Iy3 o3 => ?_
      obtain ⟨ya, ⟨rid, rT, rx⟩⟩ := y
      have hn3' : hs1 ≤ n3 := hn3
      have hrow := rowsOk_row hy3
      have hr5 : ∀ r ∈ rx, r.xs.length ≤ 2000 := fun r hr => by
        have := hrow (plS plI r) (by simp only [plReln, plS]; exact List.mem_map.2 ⟨r, hr, rfl⟩)
        simp only [plS, List.length_map] at this; omega
      simp only at ly3
      have fin : bdR ⟨ya, ⟨rid, rT, rx⟩⟩ := ⟨by simp only; omega, hr5, by simp only; omega⟩
      simp [hL, hwi, cReln, cTab, cS, curD, cStr, List.take_of_length_le, s52_13, ]
      refine back2 (i + 1, c3, ys ++ [(⟨nm, ⟨ya, ⟨rid, rT, rx⟩⟩⟩ : Tab)]) ⟨by simp only; omega, by simp [hyl], o3, fun z hz => ?_⟩ (by simp only; omega) rfl (by simp <;> omega) (by simp) (by simp [curD, cTab, cStr, cReln, cS, hv])
      rcases List.mem_append.1 hz with hz | hz
      · exact hy z hz
      · rw [List.mem_singleton.1 hz]
        exact ⟨⟨show nm.length ≤ maxLen by simp only [maxLen]; omega, ky3⟩, hnl, fin⟩
    · simp [hlt, hlz, hin, ← hnm, hv, curD, cStr, nms_len, s52_13, ]
      refine call_curK c1 E68 (w_spec_l1PickInt b c1 [3, 6, 9] hb ho (by simp) (by simp)) (by simp) (by simp [curD]) (by simp) fun r1 c2 hs1 hh1 hq1 hl1 o1 => ?_
      obtain ⟨w, rfl, hw⟩ := hq1
      simp only [List.mem_cons, List.not_mem_nil, or_false] at hw
      have hh1' : hs ≤ hs1 := hh1
      simp [curD, cStr, s52_13, ]
      refine call_rel c2 E69 (w_spec_l5Rel b c2 2 w vv hb o1 (by omega) (by omega) (by omega)) (by simp) (by simp [curD]) (by simp) (by simp) fun y c3 n3 hs3 hn3 hm3 hy3 ly3 ky3 Ty3 Gy3 Iy3 o3 => ?_
      obtain ⟨ya, ⟨rid, rT, rx⟩⟩ := y
      have hn3' : hs1 ≤ n3 := hn3
      have hrow := rowsOk_row hy3
      have hr5 : ∀ r ∈ rx, r.xs.length ≤ 2000 := fun r hr => by
        have := hrow (plS plI r) (by simp only [plReln, plS]; exact List.mem_map.2 ⟨r, hr, rfl⟩)
        simp only [plS, List.length_map] at this; omega
      simp only at ly3
      have fin : bdR ⟨ya, ⟨rid, rT, rx⟩⟩ := ⟨by simp only; omega, hr5, by simp only; omega⟩
      simp [hL, hwi, cReln, cTab, cS, curD, cStr, List.take_of_length_le, s52_13, ]
      refine back2 (i + 1, c3, ys ++ [(⟨nm, ⟨ya, ⟨rid, rT, rx⟩⟩⟩ : Tab)]) ⟨by simp only; omega, by simp [hyl], o3, fun z hz => ?_⟩ (by simp only; omega) rfl (by simp <;> omega) (by simp) (by simp [curD, cTab, cStr, cReln, cS, hv])
      rcases List.mem_append.1 hz with hz | hz
      · exact hy z hz
      · rw [List.mem_singleton.1 hz]
        exact ⟨⟨show nm.length ≤ maxLen by simp only [maxLen]; omega, ky3⟩, hnl, fin⟩
  · have hlz : ¬ (i : Int) < 5 := by omega
    have hlz' : (5 : Int) ≤ i := by omega
    simp [hlt, hlz, hlz', curD, s52_13, ]
    refine call_cur c1 E53 (w_spec_l1Once b c1 8 hb ho (by omega)) (by simp) (by simp [curD]) (by simp) (by simp) fun r4 c4 hs4 hh4 hq4 hl4 o4 => ?_
    obtain ⟨u, rfl⟩ := hq4
    have hp : hpLL (ys.map cTab) = false := hpLL_map (fun a => by simp) ys
    have hy5 : ys.length = 5 := by omega
    have hyn : ys ≠ [] := fun h => by rw [h] at hy5; simp at hy5
    cases u
    · simp [curD, vendX, hp, List.take_of_length_le, s52_13, ]
      intro γ hs' h1 hg
      obtain ⟨q1, q2⟩ := gam_at hg (k := 34) (T := 66) (sz := 3) (es := ys.map cTab) (by simp)
      have q3 := gam_row hg (k := 34) (T := 66) (sz := 3) (es := ys.map cTab) (by simp)
      clear hg
      obtain ⟨g, hg⟩ := Option.ne_none_iff_exists'.1 (q2 (by simpa using hyn))
      exact ⟨⟨c4, ⟨⟨γ 34, some (66, 3), ys⟩⟩, by simp [cDb, cS, List.take_of_length_le], ⟨by simp only; omega, fun t ht => (hy t ht).2⟩, ⟨by simp only [maxLen]; show ys.length ≤ _; omega, fun t ht => (hy t ht).1⟩, ⟨hy5, g, hg, (q1 g hg).1, rfl, q3 g hg⟩, by simp [curD], o4⟩⟩
    · simp [curD, s52_13, ]
      repeat' apply And.intro
      all_goals
        refine call_cur c4 E56 (w_spec_l1Below b c4 5 hb o4 (by omega)) (by simp) (by simp [curD]) (by simp) (by simp) fun r5 c5 hs5 hh5 hq5 hl5 o5 => ?_
        obtain ⟨x, rfl, x0, x1, _⟩ := hq5
        have x1 := x1 (by omega)
        obtain ⟨k, rfl⟩ : ∃ k : Nat, x = k := ⟨x.toNat, by omega⟩
        have hk : k < ys.length := by omega
        obtain ⟨tk, htk⟩ : ∃ tk, tk = ys[k] := ⟨_, rfl⟩
        obtain ⟨nm, ⟨ta, tr⟩⟩ := tk
        have hl3 : (cTab ys[k]).length = 3 := by rw [← htk]; simp [cTab, cStr, cReln, cS]
        have eSet : (ys.map cTab).set k ((cTab ys[k]).take 2 ++ D.sl none none [] :: (cTab ys[k]).drop 3) = (ys.set k (⟨nm, ⟨ta, nilS⟩⟩ : Tab)).map cTab := by
          rw [List.map_set]
          congr 1
          rw [← htk]
          simp [cTab, cStr, cReln, cS, nilS]
        obtain ⟨zs, hzs⟩ : ∃ zs, zs = ys.set k (⟨nm, ⟨ta, nilS⟩⟩ : Tab) := ⟨_, rfl⟩
        rw [← hzs] at eSet
        have hp' : hpLL (zs.map cTab) = false := hpLL_map (fun a => by simp) zs
        have hz5 : zs.length = ys.length := by rw [hzs]; simp
        have hzn : zs ≠ [] := fun h => by rw [h] at hz5; simp at hz5; omega
        have hyk := hy ys[k] (List.getElem_mem hk)
        have hz : ∀ z ∈ zs, okTab z ∧ bdT z := fun z hz => by
          rw [hzs] at hz
          rcases List.mem_or_eq_of_mem_set hz with hz | hz
          · exact hy z hz
          · rw [hz]
            rw [← htk] at hyk
            exact ⟨⟨hyk.1.1, ⟨trivial, ok_nilS⟩⟩, hyk.2.1, ⟨by simp [nilS], by simp [nilS], hyk.2.2.2.2⟩⟩
        simp [-List.map_set, curD, hk, hl3, eSet, hp', hz5, vendX, List.take_of_length_le, s52_13, ]
        intro γ hs' h1 hg
        obtain ⟨q1, q2⟩ := gam_at hg (k := 34) (T := 66) (sz := 3) (es := zs.map cTab) (by simp)
        have q3 := gam_row hg (k := 34) (T := 66) (sz := 3) (es := zs.map cTab) (by simp)
        clear hg
        obtain ⟨g, hg⟩ := Option.ne_none_iff_exists'.1 (q2 (by simpa using hzn))
        exact ⟨⟨c5, ⟨⟨γ 34, some (66, 3), zs⟩⟩, by simp [cDb, cS, List.take_of_length_le, hz5], ⟨by simp only; omega, fun t ht => (hz t ht).2⟩, ⟨by simp only [maxLen]; show zs.length ≤ _; omega, fun t ht => (hz t ht).1⟩, ⟨by simp only; omega, g, hg, (q1 g hg).1, rfl, q3 g hg⟩, by simp [curD], o5⟩⟩
end

end Go.Proofs.Ytninbnbgaeailaa

namespace Go.Proofs.Ytninbnbgaeailaa
open Go.Vs Go.Proofs Go
set_option maxRecDepth 100000
set_option maxHeartbeats 1000000

/-- what the draw of a database leaves that need not be right -/
structure DbA (b : Sl Int) (r : V) (cs : List V) : Prop where
  ex : ∃ (c' : Nat × Int) (z : Db), r = .agg ((cDb z).map V.d) ∧ bdD z ∧ okDb z ∧ cs = (curD b c').map V.d ∧ curO b c'
theorem call_dbA {P : Program} {E : Md} {args : List Operand} {f : FuncId} {rest As : List V} {k : Nat} {dst : Option Tmp} {K : St → Prop} {σ : St} {b : Sl Int} (c : Nat × Int) (hE : E f = true)
    (hc : VX P f [] (.ptr 1000 0 0 :: As) (some ((curD b c).map V.d)) (fun _ r cs _ => DbA b r cs)) (hvs : args.map σ.ev = .ptr k 0 0 :: rest) (hm : σ.m k = some (.box ((curD b c).map V.d)))
    (hr : rpL σ.m rest = some As) (hk : keysVL rest = [])
    (hK : ∀ (z : Db) c' hs', σ.hs ≤ hs' → bdD z → okDb z → curO b c' → K ({ σ with hs := hs', m := upd σ.m k (some (.box ((curD b c').map V.d))) }.put dst (.agg ((cDb z).map V.d)))) : vcallA P E f args (.ptr k 0 0 :: rest) dst K σ := by
  refine call_xt hE hvs hm hr (by simp [curD, dSl]) hc fun r cs' ws n hs' h1 h2 h3 h4 h5 => ?_
  obtain ⟨c', y, rfl, h6, h7, rfl, ho⟩ := h3.ex
  have : keysVL rest ++ keysVL ((curD b c).map V.d) = [] := by rw [hk]; simp [curD]
  rw [this]
  exact hK y c' hs' (Nat.le_trans h1 h2) h6 h7 ho
theorem cTab_len (t : Tab) : (cTab t).length = 3 := by simp [cTab, cStr, cReln, cS, cI]
theorem re_tabs {g : Nat} {T : TypeId × Nat} {xs ys : List Tab} (h : ys.length = xs.length) : reV (one g (.sl (some g) (some T) (ys.map cTab))) (.d (.sl (some g) (some T) (xs.map cTab))) = .d (.sl (some g) (some T) (ys.map cTab)) := by
  have h1 : reD (one g (.sl (some g) (some T) (ys.map cTab))) (.sl (some g) (some T) (xs.map cTab)) = some (.sl (some g) (some T) (ys.map cTab)) := by
    simp only [reD, one, if_true]
    rw [if_pos]
    refine ⟨trivial, rfl, trivial, ?_⟩
    refine List.ext_getElem (by simp [h]) fun n h1 h2 => ?_
    simp only [List.getElem_map, cTab_len]
  simp only [reV, h1]
section
attribute [local simp] pS dSl cP cI cW
theorem w_spec_l6Any (b : Sl Int) (c : Nat × Int) (hb : b.xs.length ≤ 1048576) (hc : curO b c) : VX Try.prog 54 [] [.ptr 1000 0 0] (some ((curD b c).map V.d)) (fun _ r cs _ => DbA b r cs) := by
  refine VX.of E s54 (by kernel_rfl) Try.func54 (by rfl) (by kernel_rfl) (by simp [Try.f54]) (by simp [Try.f54]) s54_ok ?_ ?_ fun B hB => ?_
  · simp
  · rintro cs h
    cases h
    simp [curD]
  simp [Try.f54, s54_5, s54_7, s54_9, s54_5, s54_7, s54_9, curD]
  refine call_db c E52 (w_spec_l6Db b c hb hc) (by simp) (by simp [curD]) (by simp) (by simp) fun xs g c0 n0 hs0 hn0 hm0 bd0 ok0 len0 hgn hgs hgx o0 => ?_
  have hgB : B ≤ g := by simp at hn0; omega
  have e3 : ∀ d, reV (one g d) (.d (.sl b.id b.T (b.xs.map cW))) = .d (.sl b.id b.T (b.xs.map cW)) := fun d => reV_id _ (fun j hj => one_out fun e => by
    have := hB j (.inr (by simpa [curD] using hj))
    omega) (by simp [tkLL_mapW])
  have c1' : reV (kphi (some g)) (.d (.sl b.id b.T (b.xs.map cW))) = .d (.sl b.id b.T (b.xs.map cW)) := reV_id _ (fun j hj => by
    have := hB j (.inr (by simpa [curD] using hj))
    simp only [kphi]; rw [if_neg (by simp; omega)]) (by simp [tkLL_mapW])
  simp [cDb, cS, curD, s54_5, s54_7, s54_9, ]
  refine call_cur c0 E56 (w_spec_l1Below b c0 5 hb o0 (by omega)) (by simp) (by simp [curD]) (by simp) (by simp) fun r1 c1 hs1 hh1 hq1 hl1 o1 => ?_
  obtain ⟨x, rfl, x0, x1, _⟩ := hq1
  have x1 := x1 (by omega)
  obtain ⟨k, rfl⟩ : ∃ k : Nat, x = k := ⟨x.toNat, by omega⟩
  have hk : k < xs.length := by omega
  simp [cDb, cS, curD, s54_5, s54_7, s54_9, ]
  refine call_cur c1 E56 (w_spec_l1Below b c1 14 hb o1 (by omega)) (by simp) (by simp [curD]) (by simp) (by simp) fun r2 c2 hs2 hh2 hq2 hl2 o2 => ?_
  obtain ⟨u, rfl, u0, u1, _⟩ := hq2
  refine forgetG [(0, .ptr 1000 0 0), (2, .ptr 2 0 0), (3, .ptr 3 0 0), (4, .d (.int .i64 k)), (10, .d (.int .i64 u))] [(1000, some (.box ((curD b c2).map V.d))), (2, some (.box [.d (.sl none none [])])), (3, some (.box ((cDb ⟨⟨some g, some (66, 3), xs⟩⟩).map V.d)))] (by simp) (by simp [curD, cDb, cS]) fun t m => ?_
  obtain ⟨tk, htk⟩ : ∃ tk, tk = xs[k] := ⟨_, rfl⟩
  obtain ⟨nm, ⟨ta, tr⟩⟩ := tk
  have hc3 : (cTab xs[k]).length = 3 := by rw [← htk]; simp [cTab, cStr, cReln, cS]
  have bdk := bd0.2 xs[k] (List.getElem_mem hk)
  have okk := ok0.2 xs[k] (List.getElem_mem hk)
  rw [← htk] at bdk okk
  have wit : ∀ (t' : Tab), (cTab t').length = 3 := fun t' => by simp [cTab, cStr, cReln, cS]
  have fin : ∀ (t' : Tab) , okTab t' → bdT t' → bdD ⟨⟨some g, some (66, 3), xs.set k t'⟩⟩ ∧ okDb ⟨⟨some g, some (66, 3), xs.set k t'⟩⟩ := fun t' h1 h2 => by
    refine ⟨⟨by simp only [List.length_set]; omega, fun t ht => ?_⟩, ⟨by simp only [List.length_set, maxLen]; omega, fun t ht => ?_⟩⟩
    · rcases List.mem_or_eq_of_mem_set ht with ht | ht
      · exact bd0.2 t ht
      · rw [ht]; exact h2
    · rcases List.mem_or_eq_of_mem_set ht with ht | ht
      · exact ok0.2 t ht
      · rw [ht]; exact h1
  have eS : ∀ t' : Tab, (xs.map cTab).set k (cTab t') = (xs.set k t').map cTab := fun t' => by rw [List.map_set]
  by_cases e0 : u = 0
  · subst e0
    simp [cDb, cS, curD, hk, s54_5, s54_7, s54_9, ]
    repeat' apply And.intro
    all_goals
      refine call_curK c2 E30 (w_spec_l1Pick b c2 [[], [82], [97, 98, 99, 100, 101], [97], [122]] hb o2 (by simp) (by simp)) (by simp) (by simp [curD]) (by simp [cStr]) fun r3 c3 hs3 hh3 hq3 hl3 o3 => ?_
      obtain ⟨v, rfl, hv⟩ := hq3
      have hvl : v.length ≤ 10 := by
        have : ∀ x ∈ ([[], [82], [97, 98, 99, 100, 101], [97], [122]] : List (List UInt8)), x.length ≤ 10 := by decide
        exact this v hv
      have eT : D.str v :: (cTab xs[k]).tail = cTab ⟨v, ⟨ta, tr⟩⟩ := by rw [← htk]; simp [cTab, cStr]
      have eR := re_tabs (g := g) (T := (66, 3)) (xs := xs) (ys := xs.set k ⟨v, ⟨ta, tr⟩⟩) (by simp)
      simp [-List.map_set, cDb, cS, curD, hk, hc3, hgB, hgx, eT, eS, eR, e3, vendX, s54_5, s54_7, s54_9, ]
      intro γ hs' h1 hg
      clear hg
      have hf := fin ⟨v, ⟨ta, tr⟩⟩ ⟨show v.length ≤ maxLen by simp only [maxLen]; omega, okk.2⟩ ⟨hvl, bdk.2⟩
      exact ⟨⟨c3, ⟨⟨some g, some (66, 3), xs.set k ⟨v, ⟨ta, tr⟩⟩⟩⟩, by simp [-List.map_set, cDb, cS], hf.1, hf.2, by simp [curD], o3⟩⟩
  by_cases e1 : u = 1
  · subst e1
    simp [cDb, cS, curD, hk, s54_5, s54_7, s54_9, ]
    repeat' apply And.intro
    all_goals
      refine call_relA c2 E70 (w_spec_l5Any b c2 hb o2) (by simp) (by simp [curD]) (by simp) (by simp) fun y c3 n3 hs3 hn3 hm3 bdy idy oky o3 => ?_
      obtain ⟨ya, yr⟩ := y
      have hsn : hs2 ≤ n3 := hn3
      have hgs2 : g < n3 := by
        have h1 : hs0 ≤ hs1 := by simpa using hh1
        have h2 : hs1 ≤ hs2 := by simpa using hh2
        omega
      have hgy1 : ¬ yr.id = some g := fun h => by have := idy g (ids_rel.2 (.inl h)); omega
      have hgy2 : g ∉ idsLL (yr.xs.map (cS cI)) := fun h => by have := idy g (ids_rel.2 (.inr h)); omega
      have eT : (cTab xs[k]).take 1 ++ D.int .i64 ya :: D.sl yr.id yr.T (yr.xs.map (cS cI)) :: (cTab xs[k]).drop 3 = cTab ⟨nm, ⟨ya, yr⟩⟩ := by rw [← htk]; simp [cTab, cStr, cReln, cS]
      have eR := re_tabs (g := g) (T := (66, 3)) (xs := xs) (ys := xs.set k ⟨nm, ⟨ya, yr⟩⟩) (by simp)
      simp [-List.map_set, cReln, cDb, cS, curD, hk, hc3, hgB, hgx, hgy1, hgy2, eT, eS, eR, e3, vendX, s54_5, s54_7, s54_9, ]
      intro γ hs' h1 hg
      clear hg
      have hf := fin ⟨nm, ⟨ya, yr⟩⟩ ⟨okk.1, oky⟩ ⟨bdk.1, bdy⟩
      exact ⟨⟨c3, ⟨⟨some g, some (66, 3), xs.set k ⟨nm, ⟨ya, yr⟩⟩⟩⟩, by simp [-List.map_set, cDb, cS], hf.1, hf.2, by simp [curD], o3⟩⟩
  by_cases e2 : u = 2
  · subst e2
    have L1 : LenOk 48 (xs.length + 1) := ⟨by omega, by simp only [maxLen]; omega⟩
    have hxk : xs[k] = ⟨nm, ⟨ta, tr⟩⟩ := htk.symm
    have hsub : ∀ j, j ∈ idsL (cTab xs[k]) → j ∈ idsLL (xs.map cTab) := fun j hj => by
      have e : xs = xs.take k ++ xs[k] :: xs.drop (k + 1) := by rw [← List.drop_eq_getElem_cons hk, List.take_append_drop]
      rw [e, List.map_append, idsLL_append, List.map_cons]
      simp only [idsLL, List.mem_append]
      exact .inr (.inl hj)
    have f0 : g ∉ idsLL [cTab xs[k]] := fun h => hgx (hsub g (by simpa only [idsLL, List.append_nil] using h))
    rw [hxk] at f0
    have hp0 : hpLL (xs.map cTab) = false := hpLL_map (fun a => by simp) xs
    have eR : reLL (kphi (some g)) (xs.map cTab ++ [cTab ⟨nm, ⟨ta, tr⟩⟩]) = some (xs.map cTab ++ [cTab ⟨nm, ⟨ta, tr⟩⟩]) := by
      have e : xs.map cTab ++ [cTab ⟨nm, ⟨ta, tr⟩⟩] = (xs ++ [(⟨nm, ⟨ta, tr⟩⟩ : Tab)]).map cTab := by simp
      rw [e]
      refine reLL_id _ (ht := tkLL_map _ (by simp)) fun j hj => ?_
      have hne : j ≠ g := fun e => by
        rw [List.map_append, idsLL_append] at hj
        rcases List.mem_append.1 hj with h | h
        · exact hgx (e ▸ h)
        · exact f0 (e ▸ h)
      simp only [kphi]; rw [if_neg (by simpa using Ne.symm hne)]
    have hcT : cTab ⟨nm, ⟨ta, tr⟩⟩ = [.str nm, .int .i64 ta, .sl tr.id tr.T (tr.xs.map (cS cI))] := by simp [cTab, cStr, cReln, cS]
    rw [hcT] at f0 eR
    simp [cDb, cS, curD, hk, hxk, hcT, St.kill, hgB, hgx, f0, L1, eR, c1', vendX, List.take_of_length_le, s54_5, s54_7, s54_9, ]
    refine ⟨fun a _ => cTab_len a, fun γ hs' h1 hg => ?_⟩
    clear hg
    exact ⟨⟨c2, ⟨⟨γ 40, some (66, 3), xs ++ [(⟨nm, ⟨ta, tr⟩⟩ : Tab)]⟩⟩, by simp [cDb, cS, hcT], ⟨by simp; omega, fun t ht => by
      rcases List.mem_append.1 ht with ht | ht
      · exact bd0.2 t ht
      · rw [List.mem_singleton.1 ht]; exact bdk⟩, ⟨by simp [maxLen]; omega, fun t ht => by
      rcases List.mem_append.1 ht with ht | ht
      · exact ok0.2 t ht
      · rw [List.mem_singleton.1 ht]; exact okk⟩, by simp [curD], o2⟩⟩
  by_cases e3' : u = 3
  · subst e3'
    simp [cDb, cS, curD, hk, vendX, s54_5, s54_7, s54_9, ]
    refine ⟨⟨by omega, fun a _ => cTab_len a⟩, fun γ hs' h1 hg => ?_⟩
    clear hg
    exact ⟨⟨c2, ⟨⟨some g, none, xs.take k⟩⟩, by simp [cDb, cS, List.map_take], ⟨by simp; omega, fun t ht => bd0.2 t (List.mem_of_mem_take ht)⟩, ⟨by simp [maxLen]; omega, fun t ht => ok0.2 t (List.mem_of_mem_take ht)⟩, by simp [curD], o2⟩⟩
  simp [cDb, curD, cS, vendX, e0, e1, e2, e3', s54_5, s54_7, s54_9, ]
  intro γ hs' h1 hg
  clear hg
  exact ⟨⟨c2, ⟨⟨some g, some (66, 3), xs⟩⟩, by simp [cDb, cS], bd0, ok0, by simp [curD], o2⟩⟩
end

end Go.Proofs.Ytninbnbgaeailaa

namespace Go.Proofs.Ytninbnbgaeailaa
open Go.Vs Go.Proofs Go
set_option maxRecDepth 100000
set_option maxHeartbeats 1000000

/-- bounds of drawn deltas, and of databases known by elements -/
def bdX (x : Delta) : Prop := x.name.length ≤ 10 ∧ bdR x.ins ∧ bdR x.del
def bdP (d : PDb) : Prop := d.tabs.length ≤ 10 ∧ ∀ t ∈ d.tabs, t.name.length ≤ 10 ∧ t.rel.rows.length ≤ 5000 ∧ (∀ r ∈ t.rel.rows, r.length ≤ 2000) ∧ t.rel.ar ≤ 1001
theorem bdP_of {z : Db} (h : bdD z) : bdP (plDb z) := by
  refine ⟨by simpa [plDb, plS] using h.1, fun t ht => ?_⟩
  simp only [plDb, plS] at ht
  obtain ⟨u, hu, rfl⟩ := List.mem_map.1 ht
  have hb := h.2 u hu
  refine ⟨hb.1, by simpa [plTab, plReln, plS] using hb.2.1, fun r hr => ?_, hb.2.2.2⟩
  simp only [plTab, plReln, plS] at hr
  obtain ⟨v, hv, rfl⟩ := List.mem_map.1 hr
  have := hb.2.2.1 v hv
  have e : (plS plI v).length = v.xs.length := by simp only [plS, List.length_map]
  omega
theorem ok_of_pl {y : Reln} {P : PReln} (h : plReln y = P) (h1 : P.rows.length ≤ 5000) (h2 : ∀ x ∈ P.rows, x.length ≤ 2000) (h3 : P.ar ≤ 1001) : bdR y ∧ okReln y := by
  subst h
  have e1 : y.rows.xs.length ≤ 5000 := by simpa [plReln, plS] using h1
  have e2 : ∀ r ∈ y.rows.xs, r.xs.length ≤ 2000 := fun r hr => by
    have := h2 (plS plI r) (by simp only [plReln, plS]; exact List.mem_map.2 ⟨r, hr, rfl⟩)
    have e : (plS plI r).length = r.xs.length := by simp only [plS, List.length_map]
    omega
  exact ⟨⟨e1, e2, h3⟩, trivial, by simp only [maxLen]; omega, fun r hr => ⟨by have := e2 r hr; simp only [maxLen]; omega, fun _ _ => trivial⟩⟩
theorem insP_bd {r : PReln} {row : List Int} (h1 : r.rows.length ≤ 5000) (h2 : ∀ x ∈ r.rows, x.length ≤ 2000) (h3 : row.length ≤ 2000) : (insP r row).rows.length ≤ 5000 ∧ (∀ x ∈ (insP r row).rows, x.length ≤ 2000) ∧ (insP r row).ar = r.ar := by
  rw [insP]
  split
  · rename_i h
    simp only [insOk, Bool.and_eq_true, Bool.not_eq_true', decide_eq_false_iff_not, decide_eq_true_eq] at h
    have hl := rowsOk_len h.1.1.1.1
    have hne := h.2
    refine ⟨?_, fun x hx => ?_, rfl⟩
    · simp only [List.length_append, List.length_take, List.length_cons, List.length_drop]; omega
    · rcases List.mem_append.1 hx with hx | hx
      · exact h2 x (List.mem_of_mem_take hx)
      · rcases List.mem_cons.1 hx with hx | hx
        · rw [hx]; exact h3
        · exact h2 x (List.mem_of_mem_drop hx)
  · exact ⟨h1, h2, rfl⟩
/-- what the draw of a delta leaves -/
structure DelA (b : Sl Int) (r : V) (cs : List V) : Prop where
  ex : ∃ (c' : Nat × Int) (z : Delta), r = .agg ((cDelta z).map V.d) ∧ bdX z ∧ okDelta z ∧ cs = (curD b c').map V.d ∧ curO b c'
theorem call_del {P : Program} {E : Md} {args : List Operand} {f : FuncId} {rest As : List V} {k : Nat} {dst : Option Tmp} {K : St → Prop} {σ : St} {b : Sl Int} (c : Nat × Int) (hE : E f = true)
    (hc : VX P f [] (.ptr 1000 0 0 :: As) (some ((curD b c).map V.d)) (fun _ r cs _ => DelA b r cs)) (hvs : args.map σ.ev = .ptr k 0 0 :: rest) (hm : σ.m k = some (.box ((curD b c).map V.d)))
    (hr : rpL σ.m rest = some As) (hk : keysVL rest = [])
    (hK : ∀ (z : Delta) c' hs', σ.hs ≤ hs' → bdX z → okDelta z → curO b c' → K ({ σ with hs := hs', m := upd σ.m k (some (.box ((curD b c').map V.d))) }.put dst (.agg ((cDelta z).map V.d)))) : vcallA P E f args (.ptr k 0 0 :: rest) dst K σ := by
  refine call_xt hE hvs hm hr (by simp [curD, dSl]) hc fun r cs' ws n hs' h1 h2 h3 h4 h5 => ?_
  obtain ⟨c', y, rfl, h6, h7, rfl, ho⟩ := h3.ex
  have : keysVL rest ++ keysVL ((curD b c).map V.d) = [] := by rw [hk]; simp [curD]
  rw [this]
  exact hK y c' hs' (Nat.le_trans h1 h2) h6 h7 ho
section
attribute [local simp] pS dSl cP cI cW
theorem w_spec_l26Delta (b : Sl Int) (c : Nat × Int) (d : PDb) (hb : b.xs.length ≤ 1048576) (hc : curO b c) (hd : bdP d) : VX Try.prog 55 [] [.ptr 1000 0 0, .agg ((eDb d).map V.d)] (some ((curD b c).map V.d)) (fun _ r cs _ => DelA b r cs) := by
  obtain ⟨l⟩ := d
  obtain ⟨hd1, hd2⟩ := hd
  simp only at hd1 hd2
  refine VX.of E s55 (by kernel_rfl) Try.func55 (by rfl) (by kernel_rfl) (by simp [Try.f55]) (by simp [Try.f55]) s55_ok ?_ ?_ fun B hB => ?_
  · simp
  · rintro cs h
    cases h
    simp [curD]
  by_cases hl0 : l = []
  · subst hl0
    simp [Try.f55, s55_3, s55_5, s55_10, s55_3, s55_5, s55_10, curD, eDb, vendX]
    intro γ hs' h1 hg
    clear hg
    exact ⟨⟨c, ⟨[114], ⟨0, nilS⟩, ⟨0, nilS⟩⟩, by simp [cDelta, cStr, cReln, cS, nilS], ⟨by simp, ⟨by simp [nilS], by simp [nilS], by simp⟩, ⟨by simp [nilS], by simp [nilS], by simp⟩⟩, ⟨by simp [okStr, maxLen], ⟨trivial, ok_nilS⟩, ⟨trivial, ok_nilS⟩⟩, by simp [curD], hc⟩⟩
  have hlp : 0 < l.length := List.length_pos_iff.2 hl0
  have hl0' : ¬ (l.length : Int) = 0 := by omega
  simp [Try.f55, s55_10, s55_10, curD, eDb, hl0, hl0']
  refine cutT (X := (Nat × Int) × PTab) (fun p _ => curO b p.1 ∧ p.2 ∈ l) (fun p => [(0, .ptr 1000 0 0), (4, .ptr 4 0 0), (5, .ptr 5 0 0)]) (fun p => [(1000, some (.box ((curD b p.1).map V.d))), (4, some (.box [.d (.str []), .d (.int .i64 0), .d (.sl none none []), .d (.int .i64 0), .d (.sl none none [])])), (5, some (.box ((eTab p.2).map V.d)))]) ?_ ?_
  · intro K hK
    simp [curD, eDb, s55_3, ]
    repeat' apply And.intro
    all_goals
      refine call_cur c E56 (w_spec_l1Below b c l.length hb hc (by omega)) (by simp) (by simp [curD]) (by simp) (by simp) fun r1 c1 hs1 hh1 hq1 hl1 o1 => ?_
      obtain ⟨x, rfl, x0, x1, _⟩ := hq1
      have x1 := x1 (by omega)
      obtain ⟨k, rfl⟩ : ∃ k : Nat, x = k := ⟨x.toNat, by omega⟩
      have hk : k < l.length := by omega
      have hm := List.getElem_mem hk
      obtain ⟨tn, ta, tr, hT⟩ : ∃ tn ta tr, l[k] = ⟨tn, ⟨ta, tr⟩⟩ := ⟨_, _, _, rfl⟩
      rw [hT] at hm
      simp [curD, eDb, hk, hT, eTab, eReln, cStr, s55_3, ]
      repeat' apply And.intro
      all_goals exact hK (c1, ⟨tn, ⟨ta, tr⟩⟩) _ ⟨o1, hm⟩ rfl rfl (by simpa using hh1) (by simp) (by simp [curD, eTab, eReln, cStr])
  rintro ⟨c1, ⟨tn, ⟨ta, tr⟩⟩⟩ hs1 t m ⟨o1, hm⟩ hh1
  obtain ⟨tb1, tb2, tb3, tb4⟩ := hd2 _ hm
  simp only at o1 tb1 tb2 tb3 tb4
  obtain ⟨N, hN⟩ : ∃ N : Int, N = (if 0 < if ta < 5 then ta else 5 then if ta < 5 then ta else 5 else 0) := ⟨_, rfl⟩
  have hN5 : N ≤ 5 := by rw [hN]; (repeat' split) <;> omega
  simp [curD, eTab, eReln, cStr, ← hN, s55_10, ]
  refine cutT (X := (Nat × Int) × Reln × Reln) (fun p _ => curO b p.1 ∧ (bdR p.2.1 ∧ okReln p.2.1) ∧ bdR p.2.2 ∧ okReln p.2.2) (fun p => [(0, .ptr 1000 0 0), (4, .ptr 4 0 0), (5, .ptr 5 0 0), (6, .d (.int .i64 N)), (7, .ptr 7 0 0)]) (fun p => [(1000, some (.box ((curD b p.1).map V.d))), (4, some (.box [.d (.str []), .d (.int .i64 0), .d (.sl none none []), .d (.int .i64 0), .d (.sl none none [])])), (5, some (.box ((eTab ⟨tn, ⟨ta, tr⟩⟩).map V.d))), (7, some (.box ((cDelta ⟨tn, p.2.1, p.2.2⟩).map V.d)))]) ?_ ?_
  · intro K hK
    have bdc : ∀ (y : Reln), rowsOk (plReln y).ar (plReln y).rows = true → (y.rows.xs.length ≤ 1000 ∧ y.ar ≤ 1000) → bdR y := fun y h1 h2 => by
      have hrow := rowsOk_row h1
      refine ⟨by omega, fun r hr => ?_, by omega⟩
      have := hrow (plS plI r) (by simp only [plReln, plS]; exact List.mem_map.2 ⟨r, hr, rfl⟩)
      simp only [plS, List.length_map] at this; omega
    simp [curD, eTab, eReln, cStr, s55_5, ]
    repeat' apply And.intro
    all_goals
      refine call_rel c1 E69 (w_spec_l5Rel b c1 N 3 4 hb o1 (by omega) (by omega) (by omega)) (by simp) (by simp [curD]) (by simp) (by simp) fun y c2 n2 hs2 hn2 hm2 hy2 ly2 ky2 Ty2 Gy2 Iy2 o2 => ?_
      have by2 := bdc y hy2 ly2
      have hn2' : hs1 ≤ n2 := hn2
      obtain ⟨ya, yr⟩ := y
      simp [cReln, cS, curD, eTab, eReln, cStr, s55_5, ]
      repeat' apply And.intro
      all_goals
        refine call_rel c2 E69 (w_spec_l5Rel b c2 N 2 4 hb o2 (by omega) (by omega) (by omega)) (by simp) (by simp [curD]) (by simp) (by simp) fun z c3 n3 hs3 hn3 hm3 hy3 ly3 ky3 Ty3 Gy3 Iy3 o3 => ?_
        have by3 := bdc z hy3 ly3
        have hn3' : hs2 ≤ n3 := hn3
        obtain ⟨za, zr⟩ := z
        simp [cReln, cS, curD, eTab, eReln, cStr, s55_5, ]
        repeat' apply And.intro
        all_goals exact hK (c3, ⟨ya, yr⟩, ⟨za, zr⟩) _ ⟨o3, ⟨by2, ky2⟩, by3, ky3⟩ rfl rfl (by simp <;> omega) (by simp) (by simp [curD, eTab, eReln, cStr, cDelta, cReln, cS])
  rintro ⟨c2, ⟨ya, yr⟩, ⟨za, zr⟩⟩ hs2 t m ⟨o2, ⟨by2, ky2⟩, by3, ky3⟩ hh2
  simp only at o2 by2 ky2 by3 ky3
  simp [curD, eTab, eReln, cStr, cDelta, cReln, cS, s55_10, ]
  refine loop_rule (X := Nat × (Nat × Int) × Reln) (fun p => p.1 ≤ tr.length ∧ curO b p.2.1 ∧ bdR p.2.2 ∧ okReln p.2.2) (fun p => [(0, .ptr 1000 0 0), (4, .ptr 4 0 0), (5, .ptr 5 0 0), (6, .d (.int .i64 N)), (7, .ptr 7 0 0), (8, .d (.int .i64 p.1))]) (fun p => [(1000, some (.box ((curD b p.2.1).map V.d))), (4, some (.box [.d (.str []), .d (.int .i64 0), .d (.sl none none []), .d (.int .i64 0), .d (.sl none none [])])), (5, some (.box ((eTab ⟨tn, ⟨ta, tr⟩⟩).map V.d))), (7, some (.box ((cDelta ⟨tn, ⟨ya, yr⟩, p.2.2⟩).map V.d)))]) (fun p => tr.length - p.1) (0, c2, ⟨za, zr⟩) ⟨by simp, o2, by3, ky3⟩ (by simp) (by simp [curD, eTab, eReln, cStr, cDelta, cReln, cS]) ?_
  rintro ⟨i, c3, ⟨za, zr⟩⟩ hs t m ⟨hi, o3, bz, kz⟩ hh
  simp only at hi o3 bz kz
  by_cases hlt : i < tr.length
  · have hwi := wr1 (i := i) (by omega)
    have hri := tb3 _ (List.getElem_mem hlt)
    refine anyQ fun Q => ?_
    simp [hlt, curD, eTab, eReln, cStr, cDelta, cReln, cS, s55_10, ]
    refine call_cur c3 E53 (w_spec_l1Once b c3 3 hb o3 (by omega)) (by simp) (by simp [curD]) (by simp) (by simp) fun r4 c4 hs4 hh4 hq4 hl4 o4 => ?_
    obtain ⟨u, rfl⟩ := hq4
    have hh4' : hs ≤ hs4 := hh4
    have fin : ∀ (hs' : Nat) (t : Nat → V) (m : Nat → Option Blk), True := fun _ _ _ => trivial
    cases u
    · simp [hlt, hwi, curD, s55_10, ]
      exact back (i + 1, c4, ⟨za, zr⟩) ⟨by simp only; omega, o4, bz, kz⟩ (by simp only; omega) rfl (by simp <;> omega) (by simp) (by simp [curD, eTab, eReln, cStr, cDelta, cReln, cS])
    by_cases hrn : (tr[i].length : Int) = N
    case neg =>
      simp [hlt, hrn, hwi, curD, s55_10, ]
      exact back (i + 1, c4, ⟨za, zr⟩) ⟨by simp only; omega, o4, bz, kz⟩ (by simp only; omega) rfl (by simp <;> omega) (by simp) (by simp [curD, eTab, eReln, cStr, cDelta, cReln, cS])
    simp [hlt, hrn, hwi, curD, s55_10, ]
    have bP1 : (plReln ⟨za, zr⟩).rows.length ≤ 5000 := by
      have e : (plReln ⟨za, zr⟩).rows.length = zr.xs.length := by simp only [plReln, plS, List.length_map]
      have := bz.1; simp only at this; omega
    have bP2 : ∀ x ∈ (plReln ⟨za, zr⟩).rows, x.length ≤ 2000 := fun x hx => by
      simp only [plReln, plS] at hx
      obtain ⟨v, hv, rfl⟩ := List.mem_map.1 hx
      have := bz.2.1 v hv
      have e : (plS plI v).length = v.xs.length := by simp only [plS, List.length_map]
      have e' : (List.map plI v.xs).length = v.xs.length := List.length_map ..
      first | omega | (simp only [plS] at *; omega)
    have hib := insP_bd bP1 bP2 hri
    refine call_some (VC.track (w_spec_InsertRow (plReln ⟨za, zr⟩) tr[i] (by omega) (fun x hx => by have := bP2 x hx; omega) (by omega)) (by simp [eReln, plReln, plS, plI_id, map_plI, erLL_map (er_cS er_cI)]) (by simp [V.pn, pnVL, eReln])) (by simp) (by simp) fun n5 hs5 r5 hn5 hm5 hp5 hr5 => ?_
    obtain ⟨hq5, ht5⟩ := hp5
    obtain ⟨w0, w1, rfl, q0, q1, t0, t1⟩ := rp_tup2 hq5 ht5
    obtain ⟨y5, rfl, py5⟩ := rp_agg tk_Reln q0 t0
    obtain rfl := rp_flat q1 rfl
    obtain ⟨by5, ky5⟩ := ok_of_pl py5 hib.1 hib.2.1 (by rw [hib.2.2]; exact bz.2.2)
    obtain ⟨wa, wr⟩ := y5
    have hn5' : hs4 ≤ n5 := hn5
    simp [hlt, hwi, cReln, cS, curD, s55_10, ]
    exact back (i + 1, c4, ⟨wa, wr⟩) ⟨by simp only; omega, o4, by5, ky5⟩ (by simp only; omega) rfl (by simp <;> omega) (by simp) (by simp [curD, eTab, eReln, cStr, cDelta, cReln, cS])
  · simp [hlt, curD, eTab, eReln, cStr, cDelta, cReln, cS, s55_10, ]
    refine call_cur c3 E56 (w_spec_l1Below b c3 14 hb o3 (by omega)) (by simp) (by simp [curD]) (by simp) (by simp) fun r4 c4 hs4 hh4 hq4 hl4 o4 => ?_
    obtain ⟨u, rfl, u0, u1, _⟩ := hq4
    refine forgetG [(0, .ptr 1000 0 0), (4, .ptr 4 0 0), (7, .ptr 7 0 0), (72, .d (.int .i64 u))] [(1000, some (.box ((curD b c4).map V.d))), (4, some (.box [.d (.str []), .d (.int .i64 0), .d (.sl none none []), .d (.int .i64 0), .d (.sl none none [])])), (7, some (.box ((cDelta ⟨tn, ⟨ya, yr⟩, ⟨za, zr⟩⟩).map V.d)))] (by simp) (by simp [curD, cDelta, cReln, cS, cStr]) fun t m => ?_
    have okn : ∀ s : List UInt8, s.length ≤ 10 → okStr s := fun s hs => by show s.length ≤ maxLen; simp only [maxLen]; omega
    by_cases e0 : u = 0
    · subst e0
      simp [curD, cDelta, cReln, cS, cStr, s55_10, ]
      refine call_curK c4 E30 (w_spec_l1Pick b c4 [[], [119], [115]] hb o4 (by simp) (by simp)) (by simp) (by simp [curD]) (by simp [cStr]) fun r5 c5 hs5 hh5 hq5 hl5 o5 => ?_
      obtain ⟨v, rfl, hv⟩ := hq5
      have hvl : v.length ≤ 10 := by
        have : ∀ x ∈ ([[], [119], [115]] : List (List UInt8)), x.length ≤ 10 := by decide
        exact this v hv
      simp [curD, cDelta, cReln, cS, cStr, vendX, s55_10, ]
      intro γ hs' h1 hg
      clear hg
      exact ⟨⟨c5, ⟨v, ⟨ya, yr⟩, ⟨za, zr⟩⟩, by simp [cDelta, cReln, cS, cStr], ⟨hvl, by2, bz⟩, ⟨okn v hvl, ky2, kz⟩, by simp [curD], o5⟩⟩
    by_cases e1 : u = 1
    · subst e1
      simp [curD, cDelta, cReln, cS, cStr, s55_10, ]
      refine call_relA c4 E70 (w_spec_l5Any b c4 hb o4) (by simp) (by simp [curD]) (by simp) (by simp) fun y c5 n5 hs5 hn5 hm5 bdy idy oky o5 => ?_
      obtain ⟨wa, wr⟩ := y
      simp [curD, cDelta, cReln, cS, cStr, vendX, s55_10, ]
      intro γ hs' h1 hg
      clear hg
      exact ⟨⟨c5, ⟨tn, ⟨wa, wr⟩, ⟨za, zr⟩⟩, by simp [cDelta, cReln, cS, cStr], ⟨tb1, bdy, bz⟩, ⟨okn tn tb1, oky, kz⟩, by simp [curD], o5⟩⟩
    simp [curD, cDelta, cReln, cS, cStr, vendX, e0, e1, s55_10, ]
    intro γ hs' h1 hg
    clear hg
    exact ⟨⟨c4, ⟨tn, ⟨ya, yr⟩, ⟨za, zr⟩⟩, by simp [cDelta, cReln, cS, cStr], ⟨tb1, by2, bz⟩, ⟨okn tn tb1, ky2, kz⟩, by simp [curD], o4⟩⟩
end

end Go.Proofs.Ytninbnbgaeailaa

namespace Go.Proofs.Ytninbnbgaeailaa
open Go.Vs Go.Proofs Go
set_option maxRecDepth 100000
set_option maxHeartbeats 1000000

/-- what the draw of a database and a delta leaves -/
structure BothA (b : Sl Int) (r : V) (cs : List V) : Prop where
  ex : ∃ (c' : Nat × Int) (z : Db) (x : Delta), r = .tup [.agg ((cDb z).map V.d), .agg ((cDelta x).map V.d)] ∧ bdD z ∧ okDb z ∧ bdX x ∧ okDelta x ∧ cs = (curD b c').map V.d ∧ curO b c'
/-- what the draw of a batch leaves -/
structure BatA (b : Sl Int) (r : V) (cs : List V) : Prop where
  ex : ∃ (c' : Nat × Int) (s : Sl Delta), r = .d (dSl cDelta s) ∧ s.xs.length ≤ 10 ∧ (∀ x ∈ s.xs, bdX x) ∧ okS okDelta s ∧ cs = (curD b c').map V.d ∧ curO b c'
section
attribute [local simp] pS dSl cP cI cW
theorem er_tabs (l : List Tab) : erLL (l.map cTab) = (l.map plTab).map eTab := erLL_map er_cTab l
theorem w_spec_l26Both (b : Sl Int) (c : Nat × Int) (hb : b.xs.length ≤ 1048576) (hc : curO b c) : VX Try.prog 29 [] [.ptr 1000 0 0] (some ((curD b c).map V.d)) (fun _ r cs _ => BothA b r cs) := by
  refine VX.of E s29 (by kernel_rfl) Try.func29 (by rfl) (by kernel_rfl) (by simp [Try.f29]) (by simp [Try.f29]) s29_ok ?_ ?_ fun B hB => ?_
  · simp
  · rintro cs h
    cases h
    simp [curD]
  simp [Try.f29, s29_4, s29_4, curD]
  refine call_db c E52 (w_spec_l6Db b c hb hc) (by simp) (by simp [curD]) (by simp) (by simp) fun xs g c0 n0 hs0 hn0 hm0 bd0 ok0 len0 hgn hgs hgx o0 => ?_
  simp [cDb, cS, curD, s29_4, ]
  refine call_cur c0 E53 (w_spec_l1Once b c0 14 hb o0 (by omega)) (by simp) (by simp [curD]) (by simp) (by simp) fun r1 c1 hs1 hh1 hq1 hl1 o1 => ?_
  obtain ⟨u, rfl⟩ := hq1
  cases u
  · simp [cDb, cS, curD, s29_4, ]
    repeat' apply And.intro
    all_goals
      refine call_del c1 E55 (w_spec_l26Delta b c1 (plDb ⟨⟨some g, some (66, 3), xs⟩⟩) hb o1 (bdP_of bd0)) (by simp) (by simp [curD]) (by simp [eDb, plDb, plS, er_tabs]) (by simp) fun x c2 hs2 hh2 bdx okx o2 => ?_
      obtain ⟨xn, ⟨xi, xir⟩, ⟨xd, xdr⟩⟩ := x
      simp [cDelta, cStr, cReln, cDb, cS, curD, vendX, s29_4, ]
      intro γ hs' h1 hg
      clear hg
      exact ⟨⟨c2, ⟨⟨some g, some (66, 3), xs⟩⟩, ⟨xn, ⟨xi, xir⟩, ⟨xd, xdr⟩⟩, by simp [cDelta, cStr, cReln, cDb, cS], bd0, ok0, bdx, okx, by simp [curD], o2⟩⟩
  · simp [cDb, cS, curD, s29_4, ]
    refine call_dbA c1 E54 (w_spec_l6Any b c1 hb o1) (by simp) (by simp [curD]) (by simp) (by simp) fun z c2 hs2 hh2 bdz okz o2 => ?_
    obtain ⟨⟨zid, zT, zx⟩⟩ := z
    simp [cDb, cS, curD, s29_4, ]
    repeat' apply And.intro
    all_goals
      refine call_del c2 E55 (w_spec_l26Delta b c2 (plDb ⟨⟨zid, zT, zx⟩⟩) hb o2 (bdP_of bdz)) (by simp) (by simp [curD]) (by simp [eDb, plDb, plS, er_tabs]) (by simp) fun x c3 hs3 hh3 bdx okx o3 => ?_
      obtain ⟨xn, ⟨xi, xir⟩, ⟨xd, xdr⟩⟩ := x
      simp [cDelta, cStr, cReln, cDb, cS, curD, vendX, s29_4, ]
      intro γ hs' h1 hg
      clear hg
      exact ⟨⟨c3, ⟨⟨zid, zT, zx⟩⟩, ⟨xn, ⟨xi, xir⟩, ⟨xd, xdr⟩⟩, by simp [cDelta, cStr, cReln, cDb, cS], bdz, okz, bdx, okx, by simp [curD], o3⟩⟩
theorem w_spec_l29Batch (b : Sl Int) (c : Nat × Int) (d : PDb) (hb : b.xs.length ≤ 1048576) (hc : curO b c) (hd : bdP d) : VX Try.prog 65 [] [.ptr 1000 0 0, .agg ((eDb d).map V.d)] (some ((curD b c).map V.d)) (fun _ r cs _ => BatA b r cs) := by
  refine VX.of E s65 (by kernel_rfl) Try.func65 (by rfl) (by kernel_rfl) (by simp [Try.f65]) (by simp [Try.f65]) s65_ok ?_ ?_ fun B hB => ?_
  · simp
  · rintro cs h
    cases h
    simp [curD]
  obtain ⟨dl, hdl⟩ : ∃ dl, dl = d.tabs := ⟨_, rfl⟩
  have hde : (eDb d).map V.d = [V.d (.pl (dl.map eTab))] := by rw [hdl]; simp [eDb]
  simp [Try.f65, curD, hde]
  refine call_cur c E56 (w_spec_l1Below b c 4 hb hc (by omega)) (by simp) (by simp [curD]) (by simp) (by simp) fun r0 c0 hs0 hh0 hq0 hl0 o0 => ?_
  obtain ⟨u, rfl, u0, u1, _⟩ := hq0
  have u1 := u1 (by omega)
  obtain ⟨N, rfl⟩ : ∃ N : Nat, u = N := ⟨u.toNat, by omega⟩
  simp [curD, ]
  refine loop_rule (X := (Nat × Int) × List Delta × Nat) (fun p => curO b p.1 ∧ p.2.1.length + p.2.2 ≤ 4 ∧ ∀ x ∈ p.2.1, bdX x ∧ okDelta x) (fun p => [(0, .ptr 1000 0 0), (3, .ptr 3 0 0), (5, .own 7 0 p.2.1.length), (6, .d (.int .i64 p.2.2))]) (fun p => [(1000, some (.box ((curD b p.1).map V.d))), (3, some (.box [V.d (.pl (dl.map eTab))])), (7, some (.row 33 5 (p.2.1.map cDelta)))]) (fun p => p.2.2) (c0, [], N) ⟨o0, by simp; omega, by simp⟩ (by simp) (by simp [curD]) ?_
  rintro ⟨c1, l, k⟩ hs t m ⟨o1, hl, hx⟩ hh
  simp only at o1 hl hx
  cases k with
  | succ k =>
    obtain ⟨u, hu⟩ : ∃ u : Nat, u = k + 1 := ⟨_, rfl⟩
    have hup : 0 < u := by omega
    have hwm : IntKind.i64.wrap ((u : Int) - 1) = k := by rw [wrap64_of (by omega) (by omega)]; omega
    have hL : LenOk 80 (l.length + 1) := ⟨by omega, by simp only [maxLen]; omega⟩
    rw [← hu] at hl ⊢
    refine anyQ fun Q => ?_
    simp [hup, curD, ]
    refine call_del c1 E55 (w_spec_l26Delta b c1 d hb o1 hd) (by simp) (by simp [curD]) (by simp [hde]) (by simp) fun x c2 hs2 hh2 bdx okx o2 => ?_
    obtain ⟨xn, ⟨xi, xir⟩, ⟨xd, xdr⟩⟩ := x
    simp [hup, hL, hwm, cDelta, cStr, cReln, cS, curD, List.take_of_length_le, ]
    refine back (c2, l ++ [(⟨xn, ⟨xi, xir⟩, ⟨xd, xdr⟩⟩ : Delta)], k) ⟨o2, by simp; omega, fun y hy => ?_⟩ (by simp only; omega) rfl (by simpa using hh2) (by simp) (by simp [curD, cDelta, cStr, cReln, cS])
    rcases List.mem_append.1 hy with hy | hy
    · exact hx y hy
    · rw [List.mem_singleton.1 hy]; exact ⟨bdx, okx⟩
  | zero =>
    have done : ∀ (c' : Nat × Int) (l : List Delta) (g : Option Nat), l.length ≤ 10 → (∀ x ∈ l, bdX x ∧ okDelta x) → curO b c' → BatA b (.d (.sl g (some (33, 5)) (l.map cDelta))) [V.d (.sl b.id b.T (b.xs.map cW)), .d (.int .i64 c'.1), .d (.int .i64 c'.2)] := fun c' l g hl hx ho =>
      ⟨⟨c', ⟨g, some (33, 5), l⟩, by simp, hl, fun x h => (hx x h).1, ⟨by simp only [maxLen]; omega, fun x h => (hx x h).2⟩, by simp [curD], ho⟩⟩
    have hp : ∀ l : List Delta, hpLL (l.map cDelta) = false := fun l => hpLL_map (fun a => by simp) l
    by_cases hl0 : l = []
    · subst hl0
      simp [curD, vendX, ]
      intro γ hs' h1 hg
      clear hg
      have := done c1 [] (γ 7) (by simp) (by simp) o1
      simpa using this
    have hlp : 0 < l.length := List.length_pos_iff.2 hl0
    simp [hlp, curD, ]
    refine call_cur c1 E53 (w_spec_l1Once b c1 16 hb o1 (by omega)) (by simp) (by simp [curD]) (by simp) (by simp) fun r2 c2 hs2 hh2 hq2 hl2 o2 => ?_
    obtain ⟨u, rfl⟩ := hq2
    cases u
    · simp [hp, curD, vendX, List.take_of_length_le, ]
      intro γ hs' h1 hg
      clear hg
      exact done c2 l (γ 7) (by omega) hx o2
    simp [curD, ]
    refine loop_rule (X := (Nat × Int) × List Delta) (fun p => curO b p.1 ∧ (0 < p.2.length ∧ p.2.length ≤ 7) ∧ ∀ x ∈ p.2, bdX x ∧ okDelta x) (fun p => [(0, .ptr 1000 0 0), (5, .own 7 0 p.2.length)]) (fun p => [(1000, some (.box ((curD b p.1).map V.d))), (7, some (.row 33 5 (p.2.map cDelta)))]) (fun p => 10 - p.2.length) (c2, l) ⟨o2, ⟨hlp, by simp only; omega⟩, hx⟩ (by simp) (by simp [curD]) ?_
    rintro ⟨c3, l⟩ hs t m ⟨o3, ⟨hl1, hl7⟩, hx⟩ hh
    simp only at o3 hl1 hl7 hx
    simp [curD, ]
    refine call_cur c3 E56 (w_spec_l1Below b c3 2 hb o3 (by omega)) (by simp) (by simp [curD]) (by simp) (by simp) fun r4 c4 hs4 hh4 hq4 hl4 o4 => ?_
    obtain ⟨x, rfl, x0, x1, _⟩ := hq4
    have x1 := x1 (by omega)
    have hw : IntKind.i64.wrap (5 + x) = 5 + x := wrap64_of (by omega) (by omega)
    have hh4' : hs ≤ hs4 := hh4
    by_cases hlt : (l.length : Int) < 5 + x
    · have hL : LenOk 80 (l.length + 1) := ⟨by omega, by simp only [maxLen]; omega⟩
      obtain ⟨⟨xn, ⟨xi, xir⟩, ⟨xd, xdr⟩⟩, l', rfl⟩ : ∃ x l', l = x :: l' := List.exists_cons_of_ne_nil (List.ne_nil_of_length_pos hl1)
      simp only [List.length_cons] at hlt hL hl7 hl1 hx
      have hlt' : (l'.length : Int) + 1 < 5 + x := by omega
      simp [hlt', hL, hw, curD, cDelta, cStr, cReln, cS, List.take_of_length_le, ]
      refine back (c4, (⟨xn, ⟨xi, xir⟩, ⟨xd, xdr⟩⟩ : Delta) :: l' ++ [(⟨xn, ⟨xi, xir⟩, ⟨xd, xdr⟩⟩ : Delta)]) ⟨o4, ⟨by simp, by simp; omega⟩, fun y hy => ?_⟩ (by simp; omega) rfl (by simpa using hh4') (by simp) (by simp [curD, cDelta, cStr, cReln, cS])
      rcases List.mem_append.1 hy with hy | hy
      · exact hx y hy
      · rw [List.mem_singleton.1 hy]; exact hx _ (by simp)
    · simp [hlt, hw, hp, curD, vendX, List.take_of_length_le, ]
      intro γ hs' h1 hg
      clear hg
      exact done c4 l (γ 7) (by omega) hx o4
end

end Go.Proofs.Ytninbnbgaeailaa

namespace Go.Proofs.Ytninbnbgaeailaa
open Go.Vs Go.Proofs Go
set_option maxRecDepth 100000
set_option maxHeartbeats 1000000

section
attribute [local simp] pS cP cI
theorem w_impl_Difference (a b : PReln) : VC Try.prog 31 [.agg ((eReln a).map V.d), .agg ((eReln b).map V.d)] (fun _ v => v = .tup [.agg ((eReln (difR a b)).map V.d), .d (.bool (difB a b))]) := by
  refine VC.ofL EP s31 (by kernel_rfl) Try.func31 (by rfl) (by kernel_rfl) (by simp [Try.f31]) (by simp [Try.f31]) s31_ok fun B hl => ?_
  obtain ⟨aa, al⟩ := a
  obtain ⟨ba, bl⟩ := b
  simp [Try.f31, s31_8, eReln]
  refine call_f (w_impl_IsValidRelation ⟨aa, al⟩) (by simp [eReln]) rfl fun hs1 hh1 => ?_
  simp at hh1
  cases h1 : rowsOk aa al
  · simp [difR, difB, h1, eReln]
  simp
  refine call_f (w_impl_IsValidRelation ⟨ba, bl⟩) (by simp [eReln]) rfl fun hs2 hh2 => ?_
  simp at hh2
  cases h2 : rowsOk ba bl
  · simp [difR, difB, h1, h2, eReln]
  by_cases h3 : aa = ba
  case neg => simp [difR, difB, h1, h2, h3, eReln]
  subst h3
  have hdb : difB ⟨aa, al⟩ ⟨aa, bl⟩ = true := by simp [difB, h1, h2]
  have hdr : difR ⟨aa, al⟩ ⟨aa, bl⟩ = ⟨aa, difL al bl⟩ := by simp only [difR, hdb, if_true]
  rw [hdb, hdr]
  have hal := rowsOk_len h1
  have hbl := rowsOk_len h2
  have hrow := rowsOk_row h1
  simp
  refine loop_ruleL (X := Nat) (fun i _ => i ≤ al.length) (fun i => [(3, .ptr 3 0 0), (4, .ptr 4 0 0), (6, .ptr 6 0 0), (29, .d (.pl (al.map (cP cI)))), (30, .d (.int .i64 al.length)), (31, .d (.int .i64 i))])
    (fun i => [(3, some (.box [.d (.int .i64 aa), .d (.pl (bl.map (cP cI)))])), (4, some (.box [.d (.int .i64 0), .d (.sl none none [])])), (6, some (.box [.d (.int .i64 aa), .own 44 0 (difL (al.take i) bl).length])), (44, some (.row 69 1 ((difL (al.take i) bl).map (cP cI))))]) (fun i => al.length - i) ?_ ?_
  · refine (lead_box 6 1 44 69 1 [.d (.int .i64 aa), .d (.sl none none [])] (by omega) (by omega) (by omega) (by simp) rfl).bind ?_
    rintro _ rfl
    exact Lead.of ⟨0, by omega, rfl, rfl, Nat.le_refl _, by simp, by simp [difL]⟩
  intro i hs t m hi hh
  by_cases hlt : i < al.length
  · have hwi := wr1 (i := i) (by omega)
    have hst := difL_step (b := bl) hlt
    have hdl := difL_len (al.take i) bl
    rw [List.length_take] at hdl
    have hri := hrow _ (List.getElem_mem hlt)
    have hL2 : LenOk 24 ((difL (al.take i) bl).length + 1) := ⟨by omega, by simp only [maxLen]; omega⟩
    have hR : hasR ⟨aa, bl⟩ al[i] = placeB bl al[i] := by simp [hasR, h2]
    refine anyQ2 fun Q => ?_
    simp [hlt, s31_8, ]
    refine call_f (VC.to (w_impl_ContainsRow ⟨aa, bl⟩ al[i] (by show bl.length ≤ _; omega)) (show _ = V.d (.bool (placeB bl al[i])) by rw [hR])) (by simp [eReln]) rfl fun hs3 hh3 => ?_
    simp at hh3
    cases h4 : placeB bl al[i]
    · rw [h4] at hst
      simp only [Bool.false_eq_true, if_false] at hst
      simp [hlt, hwi, s31_8, ]
      repeat' apply And.intro
      all_goals
        refine call_p (q_impl_copyInts al[i] (by omega)) (by simp) fun hs4 hh4 hl4 => ?_
        simp at hh4
        simp [hlt, hwi, hL2, List.take_of_length_le, s31_8, ]
        exact back2 (i + 1) (by omega) (by omega) rfl (by simp <;> omega) (by simp) (by simp [hst])
    · rw [h4] at hst
      simp only [if_true, List.append_nil] at hst
      simp [hwi, s31_8, ]
      exact back2 (i + 1) (by omega) (by omega) rfl (by simp <;> omega) (by simp) (by simp [hst])
  · have hn : i = al.length := by omega
    subst hn
    simp [List.take_of_length_le]
theorem w_spec_ContainsRow (r : PReln) (row : List Int) : VC Try.prog 50 [.agg ((eReln r).map V.d), .d (pS cI row)] (fun _ v => v = .d (.bool (hasR r row))) := by
  refine VC.ofL EP s50 (by kernel_rfl) Try.func50 (by rfl) (by kernel_rfl) (by simp [Try.f50]) (by simp [Try.f50]) s50_ok fun B hl => ?_
  simp [Try.f50, eReln]
  refine call_f (w_spec_IsValidRelation r) (by simp [eReln]) rfl fun hs1 hh1 => ?_
  simp at hh1
  cases h : rowsOk r.ar r.rows
  · simp [hasR, h, ]
  have hl := rowsOk_len h
  simp []
  refine call_f (w_spec_l5Place r row (by omega)) (by simp [eReln]) rfl fun hs2 hh2 => ?_
  simp at hh2
  simp [hasR, h, ]
theorem w_impl_DiffDatabases (a b : PDb) (n : List UInt8) : VC Try.prog 8 [.agg ((eDb a).map V.d), .agg ((eDb b).map V.d), .d (.str n)] (fun _ v => v = .tup [.agg ((eDelta (dfP a b n)).map V.d), .d (.bool (dfB a b n))]) := by
  refine VC.ofL EP s8 (by kernel_rfl) Try.func8 (by rfl) (by kernel_rfl) (by simp [Try.f8]) (by simp [Try.f8]) s8_ok fun B hl => ?_
  simp [Try.f8, eDb]
  refine call_p (w_impl_LookupRelation a n) (by simp [eDb]) fun hs1 hh1 hl1 => ?_
  simp at hh1
  obtain ⟨X, hX⟩ : ∃ X, X = lkR a n := ⟨_, rfl⟩
  obtain ⟨Y, hY⟩ : ∃ Y, Y = lkR b n := ⟨_, rfl⟩
  rw [← hX]
  obtain ⟨xa, xr⟩ := X
  simp [eReln, ]
  refine call_p (w_impl_LookupRelation b n) (by simp [eDb]) fun hs2 hh2 hl2 => ?_
  simp at hh2
  rw [← hY]
  obtain ⟨ya, yr⟩ := Y
  cases h1 : lkB a n
  · simp [dfP, dfB, h1, eDelta, eReln, eTab, cStr, ]
  cases h2 : lkB b n
  · simp [dfP, dfB, h1, h2, eDelta, eReln, eTab, cStr, ]
  by_cases h3 : xa = ya
  case neg =>
    have h3' : ¬ (lkR a n).ar = (lkR b n).ar := by rw [← hX, ← hY]; exact h3
    simp [dfP, dfB, h1, h2, h3, h3', eDelta, eReln, eTab, cStr, ]
  subst h3
  have hdb : dfB a b n = true := by simp [dfB, h1, h2, ← hX, ← hY]
  have hdr : dfP a b n = ⟨n, difR ⟨xa, yr⟩ ⟨xa, xr⟩, difR ⟨xa, xr⟩ ⟨xa, yr⟩⟩ := by rw [dfP, if_pos hdb, hX, hY]
  rw [hdb, hdr]
  simp [eReln, ]
  refine call_p (w_impl_Difference ⟨xa, yr⟩ ⟨xa, xr⟩) (by simp [eReln]) fun hs3 hh3 hl3 => ?_
  simp at hh3
  obtain ⟨U, hU⟩ : ∃ U, U = difR ⟨xa, yr⟩ ⟨xa, xr⟩ := ⟨_, rfl⟩
  rw [← hU]
  obtain ⟨ua, ur⟩ := U
  simp [eReln, ]
  refine call_p (w_impl_Difference ⟨xa, xr⟩ ⟨xa, yr⟩) (by simp [eReln]) fun hs4 hh4 hl4 => ?_
  simp at hh4
  obtain ⟨W, hW⟩ : ∃ W, W = difR ⟨xa, xr⟩ ⟨xa, yr⟩ := ⟨_, rfl⟩
  rw [← hW]
  obtain ⟨wa, wr⟩ := W
  simp [eReln, eDelta, eTab, cStr, ]
theorem w_spec_DiffDatabases (a b : PDb) (n : List UInt8) (ha : ∀ t ∈ a.tabs, t.name.length ≤ maxLen) (hb : ∀ t ∈ b.tabs, t.name.length ≤ maxLen) : VC Try.prog 9 [.agg ((eDb a).map V.d), .agg ((eDb b).map V.d), .d (.str n)] (fun _ v => v = .tup [.agg ((eDelta (dfP a b n)).map V.d), .d (.bool (dfB a b n))]) := by
  refine VC.ofL EP s9 (by kernel_rfl) Try.func9 (by rfl) (by kernel_rfl) (by simp [Try.f9]) (by simp [Try.f9]) s9_ok fun B hl => ?_
  simp [Try.f9, eDb]
  refine call_p (w_spec_LookupRelation a n ha) (by simp [eDb]) fun hs1 hh1 hl1 => ?_
  simp at hh1
  obtain ⟨X, hX⟩ : ∃ X, X = lkR a n := ⟨_, rfl⟩
  obtain ⟨Y, hY⟩ : ∃ Y, Y = lkR b n := ⟨_, rfl⟩
  rw [← hX]
  obtain ⟨xa, xr⟩ := X
  simp [eReln, ]
  refine call_p (w_spec_LookupRelation b n hb) (by simp [eDb]) fun hs2 hh2 hl2 => ?_
  simp at hh2
  rw [← hY]
  obtain ⟨ya, yr⟩ := Y
  cases h1 : lkB a n
  · simp [dfP, dfB, h1, eDelta, eReln, eTab, cStr, ]
  cases h2 : lkB b n
  · simp [dfP, dfB, h1, h2, eDelta, eReln, eTab, cStr, ]
  by_cases h3 : xa = ya
  case neg =>
    have h3' : ¬ (lkR a n).ar = (lkR b n).ar := by rw [← hX, ← hY]; exact h3
    simp [dfP, dfB, h1, h2, h3, h3', eDelta, eReln, eTab, cStr, ]
  subst h3
  have hdb : dfB a b n = true := by simp [dfB, h1, h2, ← hX, ← hY]
  have hdr : dfP a b n = ⟨n, difR ⟨xa, yr⟩ ⟨xa, xr⟩, difR ⟨xa, xr⟩ ⟨xa, yr⟩⟩ := by rw [dfP, if_pos hdb, hX, hY]
  rw [hdb, hdr]
  simp [eReln, ]
  refine call_p (w_spec_Difference ⟨xa, yr⟩ ⟨xa, xr⟩) (by simp [eReln]) fun hs3 hh3 hl3 => ?_
  simp at hh3
  obtain ⟨U, hU⟩ : ∃ U, U = difR ⟨xa, yr⟩ ⟨xa, xr⟩ := ⟨_, rfl⟩
  rw [← hU]
  obtain ⟨ua, ur⟩ := U
  simp [eReln, ]
  refine call_p (w_spec_Difference ⟨xa, xr⟩ ⟨xa, yr⟩) (by simp [eReln]) fun hs4 hh4 hl4 => ?_
  simp at hh4
  obtain ⟨W, hW⟩ : ∃ W, W = difR ⟨xa, xr⟩ ⟨xa, yr⟩ := ⟨_, rfl⟩
  rw [← hW]
  obtain ⟨wa, wr⟩ := W
  simp [eReln, eDelta, eTab, cStr, ]
theorem w_impl_EqualDeltas (a b : PDelta) : VC Try.prog 27 [.agg ((eDelta a).map V.d), .agg ((eDelta b).map V.d)] (fun _ r => r = .d (.bool (decide (a = b)))) := by
  refine VC.ofL EP s27 (by kernel_rfl) Try.func27 (by rfl) (by kernel_rfl) (by simp [Try.f27]) (by simp [Try.f27]) s27_ok fun B hl => ?_
  obtain ⟨an, ai, ad⟩ := a
  obtain ⟨bn, bi, bd⟩ := b
  by_cases h : an = bn
  case neg => simp [Try.f27, eDelta, eReln, cStr, h, PDelta.eq_iff]
  subst h
  simp [Try.f27, eDelta, eReln, cStr]
  refine call_f (w_impl_EqualRelations ai bi) (by simp [eReln]) rfl fun hs1 hh1 => ?_
  simp at hh1
  by_cases h2 : ai = bi
  case neg => simp [h2, PDelta.eq_iff]
  subst h2
  simp
  refine call_f (w_impl_EqualRelations ad bd) (by simp [eReln]) rfl fun hs2 hh2 => ?_
  simp [PDelta.eq_iff]
theorem w_spec_EqualDeltas (a b : PDelta) : VC Try.prog 10 [.agg ((eDelta a).map V.d), .agg ((eDelta b).map V.d)] (fun _ r => r = .d (.bool (decide (a = b)))) := by
  refine VC.ofL EP s10 (by kernel_rfl) Try.func10 (by rfl) (by kernel_rfl) (by simp [Try.f10]) (by simp [Try.f10]) s10_ok fun B hl => ?_
  obtain ⟨an, ai, ad⟩ := a
  obtain ⟨bn, bi, bd⟩ := b
  by_cases h : an = bn
  case neg => simp [Try.f10, eDelta, eReln, cStr, h, PDelta.eq_iff]
  subst h
  simp [Try.f10, eDelta, eReln, cStr]
  refine call_f (w_spec_EqualRelations ai bi) (by simp [eReln]) rfl fun hs1 hh1 => ?_
  simp at hh1
  by_cases h2 : ai = bi
  case neg => simp [h2, PDelta.eq_iff]
  subst h2
  simp
  refine call_f (w_spec_EqualRelations ad bd) (by simp [eReln]) rfl fun hs2 hh2 => ?_
  simp [PDelta.eq_iff]
theorem w_impl_IsValidDelta (d : PDb) (x : PDelta) : VC Try.prog 16 [.agg ((eDb d).map V.d), .agg ((eDelta x).map V.d)] (fun _ v => v = .d (.bool (valB d x))) := by
  refine VC.ofL EP s16 (by kernel_rfl) Try.func16 (by rfl) (by kernel_rfl) (by simp [Try.f16]) (by simp [Try.f16]) s16_ok fun B hl => ?_
  obtain ⟨xn, ⟨ia, il⟩, ⟨da, dl⟩⟩ := x
  simp [Try.f16, eDb, eDelta, eReln, cStr]
  refine call_p (w_impl_applicable d ⟨xn, ⟨ia, il⟩, ⟨da, dl⟩⟩) (by simp [eDb, eDelta, eReln, cStr]) fun hs1 hh1 hl1 => ?_
  simp at hh1
  obtain ⟨x, hxe⟩ : ∃ x : PDelta, x = ⟨xn, ⟨ia, il⟩, ⟨da, dl⟩⟩ := ⟨_, rfl⟩
  rw [← hxe] at hl1 ⊢
  cases hf : fitB d x
  · have hv0 : valB d x = false := by rw [valB, hf]; rfl
    rw [hv0]
    generalize lkR d x.name = R at *
    obtain ⟨ra, rl⟩ := R
    simp [eReln, ]
  have f := fit_of.1 hf
  have hr := lk_ok f.lk
  have hrl := rowsOk_len hr
  have hil := rowsOk_len f.ins
  have hdl := rowsOk_len f.del
  obtain ⟨R, hR⟩ : ∃ R, R = lkR d x.name := ⟨_, rfl⟩
  rw [← hR] at hr hrl
  have hv : valB d x = ((x.ins.rows.all fun y => !hasR R y) && x.del.rows.all fun y => hasR R y) := by rw [valB, hf, ← hR, Bool.true_and]
  have hxn : xn = x.name := by rw [hxe]
  rw [hv]
  simp only [hxn, ← hR]
  clear hv hl1 f hf hR hxn
  subst hxe
  obtain ⟨ra, rl⟩ := R
  simp only at hil hdl hrl
  simp [eReln, eDelta, cStr, ]
  refine loop_rule (X := Nat) (fun i => i ≤ il.length ∧ AllTo (fun y => !hasR ⟨ra, rl⟩ y) il i) (fun i => [(3, .ptr 3 0 0), (5, .ptr 5 0 0), (21, .d (.pl (il.map (cP cI)))), (22, .d (.int .i64 il.length)), (23, .d (.int .i64 i))])
    (fun _ => [(3, some (.box [.d (.str xn), .d (.int .i64 ia), .d (.pl (il.map (cP cI))), .d (.int .i64 da), .d (.pl (dl.map (cP cI)))])), (5, some (.box [.d (.int .i64 ra), .d (.pl (rl.map (cP cI)))]))]) (fun i => il.length - i) 0 ⟨by simp, allTo_zero⟩ (by simp) (by simp) ?_
  rintro i hs t m ⟨hi, hal⟩ hh
  by_cases hlt : i < il.length
  · have hwi := wr1 (i := i) (by omega)
    simp [hlt, ]
    refine call_f (w_impl_ContainsRow ⟨ra, rl⟩ il[i] (by simp only; omega)) (by simp [eReln]) rfl fun hs2 hh2 => ?_
    simp at hh2
    cases h2 : hasR ⟨ra, rl⟩ il[i]
    · simp [hwi, ]
      exact back (i + 1) ⟨by omega, allTo_step hal hlt (by simp [h2])⟩ (by omega) rfl (by simp <;> omega) (by simp) (by simp)
    · have hbad := all_bad (p := fun y => !hasR ⟨ra, rl⟩ y) hlt (by simp [h2])
      simp [hbad, ]
  have hd := allTo_done hal (by omega)
  rw [hd, Bool.true_and]
  simp [hlt, ]
  refine loop_rule (X := Nat) (fun i => i ≤ dl.length ∧ AllTo (fun y => hasR ⟨ra, rl⟩ y) dl i) (fun i => [(5, .ptr 5 0 0), (33, .d (.pl (dl.map (cP cI)))), (34, .d (.int .i64 dl.length)), (35, .d (.int .i64 i))])
    (fun _ => [(5, some (.box [.d (.int .i64 ra), .d (.pl (rl.map (cP cI)))]))]) (fun i => dl.length - i) 0 ⟨by simp, allTo_zero⟩ (by simp) (by simp) ?_
  rintro i hs t m ⟨hi, hal⟩ hh
  by_cases hlt : i < dl.length
  · have hwi := wr1 (i := i) (by omega)
    simp [hlt, ]
    refine call_f (w_impl_ContainsRow ⟨ra, rl⟩ dl[i] (by simp only; omega)) (by simp [eReln]) rfl fun hs2 hh2 => ?_
    simp at hh2
    cases h2 : hasR ⟨ra, rl⟩ dl[i]
    · have hbad := all_bad (p := fun y => hasR ⟨ra, rl⟩ y) hlt h2
      simp [hbad, ]
    · simp [hwi, ]
      exact back (i + 1) ⟨by omega, allTo_step hal hlt h2⟩ (by omega) rfl (by simp <;> omega) (by simp) (by simp)
  have hd := allTo_done hal (by omega)
  simp [hlt, hd, ]
theorem w_spec_IsValidDelta (d : PDb) (x : PDelta) (hst : ∀ t ∈ d.tabs, t.name.length ≤ maxLen) : VC Try.prog 26 [.agg ((eDb d).map V.d), .agg ((eDelta x).map V.d)] (fun _ v => v = .d (.bool (valB d x))) := by
  refine VC.ofL EP s26 (by kernel_rfl) Try.func26 (by rfl) (by kernel_rfl) (by simp [Try.f26]) (by simp [Try.f26]) s26_ok fun B hl => ?_
  obtain ⟨xn, ⟨ia, il⟩, ⟨da, dl⟩⟩ := x
  simp [Try.f26, s26_7, s26_12, s26_7, s26_12, eDb, eDelta, eReln, cStr]
  refine call_f (w_spec_l26Fits d ⟨xn, ⟨ia, il⟩, ⟨da, dl⟩⟩ hst) (by simp [eDb, eDelta, eReln, cStr]) rfl fun hs0 hh0 => ?_
  simp at hh0
  obtain ⟨x, hxe⟩ : ∃ x : PDelta, x = ⟨xn, ⟨ia, il⟩, ⟨da, dl⟩⟩ := ⟨_, rfl⟩
  rw [← hxe]
  cases hf : fitB d x
  · simp [valB, hf, s26_7, s26_12, ]
  have f := fit_of.1 hf
  have hr := lk_ok f.lk
  have hrl := rowsOk_len hr
  have hil := rowsOk_len f.ins
  have hdl := rowsOk_len f.del
  have hv : valB d x = ((x.ins.rows.all fun y => !hasR (lkR d x.name) y) && x.del.rows.all fun y => hasR (lkR d x.name) y) := by rw [valB, hf, Bool.true_and]
  rw [hv]
  clear hv f hf
  subst hxe
  simp only at hr hrl hil hdl
  simp [eReln, eDelta, cStr, s26_7, s26_12, ]
  refine call_p (w_spec_LookupRelation d xn hst) (by simp [eDb]) fun hs1 hh1 hl1 => ?_
  simp at hh1
  obtain ⟨R, hR⟩ : ∃ R, R = lkR d xn := ⟨_, rfl⟩
  simp only [← hR] at hr hrl hl1 ⊢
  obtain ⟨ra, rl⟩ := R
  simp only at hil hdl hrl
  simp [eReln, eDelta, cStr, s26_7, s26_12, ]
  refine loop_rule (X := Nat) (fun i => i ≤ il.length ∧ AllTo (fun y => !hasR ⟨ra, rl⟩ y) il i) (fun i => [(3, .ptr 3 0 0), (5, .ptr 5 0 0), (7, .d (.int .i64 i))])
    (fun _ => [(3, some (.box [.d (.str xn), .d (.int .i64 ia), .d (.pl (il.map (cP cI))), .d (.int .i64 da), .d (.pl (dl.map (cP cI)))])), (5, some (.box [.d (.int .i64 ra), .d (.pl (rl.map (cP cI)))]))]) (fun i => il.length - i) 0 ⟨by simp, allTo_zero⟩ (by simp) (by simp) ?_
  rintro i hs t m ⟨hi, hal⟩ hh
  by_cases hlt : i < il.length
  · have hwi := wr1 (i := i) (by omega)
    simp [hlt, s26_7, s26_12, ]
    refine call_f (w_spec_ContainsRow ⟨ra, rl⟩ il[i]) (by simp [eReln]) rfl fun hs2 hh2 => ?_
    simp at hh2
    cases h2 : hasR ⟨ra, rl⟩ il[i]
    · simp [hwi, s26_7, s26_12, ]
      exact back (i + 1) ⟨by omega, allTo_step hal hlt (by simp [h2])⟩ (by omega) rfl (by simp <;> omega) (by simp) (by simp)
    · have hbad := all_bad (p := fun y => !hasR ⟨ra, rl⟩ y) hlt (by simp [h2])
      simp [hbad, s26_7, s26_12, ]
  have hd := allTo_done hal (by omega)
  rw [hd, Bool.true_and]
  simp [hlt, s26_7, s26_12, ]
  refine loop_rule (X := Nat) (fun i => i ≤ dl.length ∧ AllTo (fun y => hasR ⟨ra, rl⟩ y) dl i) (fun i => [(3, .ptr 3 0 0), (5, .ptr 5 0 0), (8, .d (.int .i64 i))])
    (fun _ => [(3, some (.box [.d (.str xn), .d (.int .i64 ia), .d (.pl (il.map (cP cI))), .d (.int .i64 da), .d (.pl (dl.map (cP cI)))])), (5, some (.box [.d (.int .i64 ra), .d (.pl (rl.map (cP cI)))]))]) (fun i => dl.length - i) 0 ⟨by simp, allTo_zero⟩ (by simp) (by simp) ?_
  rintro i hs t m ⟨hi, hal⟩ hh
  by_cases hlt : i < dl.length
  · have hwi := wr1 (i := i) (by omega)
    simp [hlt, s26_7, s26_12, ]
    refine call_f (w_spec_ContainsRow ⟨ra, rl⟩ dl[i]) (by simp [eReln]) rfl fun hs2 hh2 => ?_
    simp at hh2
    cases h2 : hasR ⟨ra, rl⟩ dl[i]
    · have hbad := all_bad (p := fun y => hasR ⟨ra, rl⟩ y) hlt h2
      simp [hbad, s26_7, s26_12, ]
    · simp [hwi, s26_7, s26_12, ]
      exact back (i + 1) ⟨by omega, allTo_step hal hlt h2⟩ (by omega) rfl (by simp <;> omega) (by simp) (by simp)
  have hd := allTo_done hal (by omega)
  simp [hlt, hd, s26_7, s26_12, ]
end

end Go.Proofs.Ytninbnbgaeailaa

namespace Go.Proofs.Ytninbnbgaeailaa
open Go.Vs Go.Proofs Go
set_option maxRecDepth 100000
set_option maxHeartbeats 1000000

section
attribute [local simp] pS dSl cP cI cW
/-- a call that is handed the cursor; its result and the cursor are known by a property -/
theorem call_cp {P : Program} {E : Md} {args : List Operand} {f : FuncId} {rest As : List V} {k : Nat} {dst : Option Tmp} {K : St → Prop} {σ : St} {b : Sl Int} {post : V → List V → Prop} (c : Nat × Int) (hE : E f = true)
    (hc : VX P f [] (.ptr 1000 0 0 :: As) (some ((curD b c).map V.d)) (fun _ r cs _ => post r cs)) (hvs : args.map σ.ev = .ptr k 0 0 :: rest) (hm : σ.m k = some (.box ((curD b c).map V.d)))
    (hr : rpL σ.m rest = some As) (hk : keysVL rest = [])
    (hK : ∀ r cs hs', σ.hs ≤ hs' → post r cs → K ({ σ with hs := hs', m := upd σ.m k (some (.box cs)) }.put dst r)) : vcallA P E f args (.ptr k 0 0 :: rest) dst K σ := by
  refine call_xt hE hvs hm hr (by simp [curD, dSl]) hc fun r cs' ws n hs' h1 h2 h3 h4 h5 => ?_
  have : keysVL rest ++ keysVL ((curD b c).map V.d) = [] := by rw [hk]; simp [curD]
  rw [this]
  exact hK r cs' hs' (Nat.le_trans h1 h2) h3
/-- a database and a batch that were drawn -/
structure BatD (v : V) : Prop where
  ex : ∃ (z : Db) (s : Sl Delta), v = .tup [.agg ((cDb z).map V.d), .d (dSl cDelta s)] ∧ bdD z ∧ okDb z ∧ s.xs.length ≤ 10 ∧ (∀ x ∈ s.xs, bdX x) ∧ okS okDelta s
structure DelD (v : V) : Prop where
  ex : ∃ (z : Db) (x : Delta), v = .tup [.agg ((cDb z).map V.d), .agg ((cDelta x).map V.d)] ∧ bdD z ∧ okDb z ∧ bdX x ∧ okDelta x
structure DifD (v : V) : Prop where
  ex : ∃ (z w : Db) (n : List UInt8), v = .tup [.agg ((cDb z).map V.d), .agg ((cDb w).map V.d), .d (.str n)] ∧ (szDb (plDb z) ∧ okDb z) ∧ (szDb (plDb w) ∧ okDb w) ∧ n.length ≤ 10
theorem szDb_bd {z : Db} (h : bdD z) : szDb (plDb z) := by
  have hb := bdP_of h
  exact ⟨by have := hb.1; omega, fun t ht => ⟨by have := (hb.2 t ht).2.1; omega, fun x hx => by have := (hb.2 t ht).2.2.1 x hx; omega⟩⟩
theorem okDb_pl {w : Db} {D : PDb} (h : plDb w = D) (hz : szDb D) (hn : ∀ t ∈ D.tabs, t.name.length ≤ maxLen) : okDb w := by
  subst h
  refine ⟨?_, fun t ht => ?_⟩
  · have := hz.1
    simp only [plDb, plS, List.length_map] at this
    simp only [maxLen]; omega
  · have hm : plTab t ∈ (plDb w).tabs := by simp only [plDb, plS]; exact List.mem_map.2 ⟨t, ht, rfl⟩
    have h1 := hz.2 _ hm
    have h2 := hn _ hm
    refine ⟨h2, trivial, ?_, fun r hr => ⟨?_, fun _ _ => trivial⟩⟩
    · have := h1.1
      simp only [plTab, plReln, plS, List.length_map] at this
      simp only [maxLen]; omega
    · have := h1.2 (plS plI r) (by simp only [plTab, plReln, plS]; exact List.mem_map.2 ⟨r, hr, rfl⟩)
      simp only [plS, List.length_map] at this
      simp only [maxLen]; omega
theorem app_st {d : PDb} {x : PDelta} (h : ∀ t ∈ d.tabs, t.name.length ≤ maxLen) : ∀ t ∈ (appP d x).tabs, t.name.length ≤ maxLen := by
  cases hB : appB d x
  · rw [app_no hB]; exact h
  · exact dbOk_st (app_ok hB)
theorem w_spec_DrawIsValidBatch (b : Sl Int) (hb : b.xs.length ≤ 1048576) : VC Try.prog 43 [.d (dSl cW b)] (fun _ v => BatD v) := by
  refine VC.of E s43 (by kernel_rfl) Try.func43 (by rfl) (by kernel_rfl) (by simp [Try.f43]) (by simp [Try.f43]) s43_ok fun B => ?_
  simp [Try.f43, s43_3, s43_3, ]
  refine call_nt (w_spec_l1New b hb) (by simp) (by simp) fun ds n0 hs0 hn0 hm0 hp0 hl0 hi0 => ?_
  obtain ⟨c0, rfl, o0⟩ := hp0
  simp [curD, s43_3, ]
  refine call_db c0 E52 (w_spec_l6Db b c0 hb o0) (by simp) (by simp [curD]) (by simp) (by simp) fun xs g c1 n1 hs1 hn1 hm1 bd1 ok1 len1 hgn hgs hgx o1 => ?_
  simp [cDb, cS, curD, s43_3, ]
  repeat' apply And.intro
  all_goals
    refine call_cp c1 E65 (w_spec_l29Batch b c1 (plDb ⟨⟨some g, some (66, 3), xs⟩⟩) hb o1 (bdP_of bd1)) (by simp) (by simp [curD]) (by simp [eDb, plDb, plS, er_tabs]) (by simp) fun r cs hs2 hh2 hp2 => ?_
    obtain ⟨c2, ⟨sid, sT, sx⟩, rfl, h1, h2, h3, rfl, o2⟩ := hp2.ex
    simp [cDb, cS, curD, s43_3, ]
    exact ⟨⟨⟨⟨some g, some (66, 3), xs⟩⟩, ⟨sid, sT, sx⟩, by simp [cDb, cS], bd1, ok1, h1, h2, h3⟩⟩
theorem w_spec_DrawApplyBatch (b : Sl Int) (hb : b.xs.length ≤ 1048576) : VC Try.prog 17 [.d (dSl cW b)] (fun _ v => BatD v) := by
  refine VC.of E s17 (by kernel_rfl) Try.func17 (by rfl) (by kernel_rfl) (by simp [Try.f17]) (by simp [Try.f17]) s17_ok fun B => ?_
  simp [Try.f17, ]
  refine call_some (w_spec_DrawIsValidBatch b hb) (by simp) (by simp) fun n1 hs1 r1 hn1 hm1 hp1 hr1 => ?_
  obtain ⟨⟨⟨zid, zT, zx⟩⟩, ⟨sid, sT, sx⟩, rfl, h0, h1, h2, h3, h4⟩ := hp1.ex
  simp [cDb, cS, ]
  exact ⟨⟨⟨⟨zid, zT, zx⟩⟩, ⟨sid, sT, sx⟩, by simp [cDb, cS], h0, h1, h2, h3, h4⟩⟩
theorem w_spec_DrawApplyDelta (b : Sl Int) (hb : b.xs.length ≤ 1048576) : VC Try.prog 23 [.d (dSl cW b)] (fun _ v => DelD v) := by
  refine VC.of E s23 (by kernel_rfl) Try.func23 (by rfl) (by kernel_rfl) (by simp [Try.f23]) (by simp [Try.f23]) s23_ok fun B => ?_
  simp [Try.f23, s23_2, s23_2, ]
  refine call_nt (w_spec_l1New b hb) (by simp) (by simp) fun ds n0 hs0 hn0 hm0 hp0 hl0 hi0 => ?_
  obtain ⟨c0, rfl, o0⟩ := hp0
  simp [curD, s23_2, ]
  refine call_cp c0 E29 (w_spec_l26Both b c0 hb o0) (by simp) (by simp [curD]) (by simp) (by simp) fun r cs hs2 hh2 hp2 => ?_
  obtain ⟨c2, ⟨⟨zid, zT, zx⟩⟩, ⟨xn, ⟨xi, xir⟩, ⟨xd, xdr⟩⟩, rfl, h1, h2, h3, h4, rfl, o2⟩ := hp2.ex
  simp [cDelta, cStr, cReln, cDb, cS, curD, s23_2, ]
  first | exact ⟨⟨⟨⟨zid, zT, zx⟩⟩, ⟨xn, ⟨xi, xir⟩, ⟨xd, xdr⟩⟩, by simp [cDelta, cStr, cReln, cDb, cS], h1, h2, h3, h4⟩⟩ | (trace_state; sorry)
theorem w_spec_DrawDiffDatabases (b : Sl Int) (hb : b.xs.length ≤ 1048576) : VC Try.prog 7 [.d (dSl cW b)] (fun _ v => DifD v) := by
  refine VC.of E s7 (by kernel_rfl) Try.func7 (by rfl) (by kernel_rfl) (by simp [Try.f7]) (by simp [Try.f7]) s7_ok fun B => ?_
  simp [Try.f7, s7_4, s7_4, ]
  refine call_nt (w_spec_l1New b hb) (by simp) (by simp) fun ds n0 hs0 hn0 hm0 hp0 hl0 hi0 => ?_
  obtain ⟨c0, rfl, o0⟩ := hp0
  simp [curD, s7_4, ]
  refine call_cp c0 E29 (w_spec_l26Both b c0 hb o0) (by simp) (by simp [curD]) (by simp) (by simp) fun r cs hs2 hh2 hp2 => ?_
  obtain ⟨c2, ⟨⟨zid, zT, zx⟩⟩, ⟨xn, ⟨xi, xir⟩, ⟨xd, xdr⟩⟩, rfl, h1, h2, h3, h4, rfl, o2⟩ := hp2.ex
  simp [cDelta, cStr, cReln, cDb, cS, curD, s7_4, ]
  have hz := szDb_bd h1
  have hst := okDb_st h2
  refine call_some (VC.track (w_spec_ApplyDelta (plDb ⟨⟨zid, zT, zx⟩⟩) (plDelta ⟨xn, ⟨xi, xir⟩, ⟨xd, xdr⟩⟩) hz hst h4.1) (by simp [eDb, eDelta, eReln, cStr, plDb, plDelta, plReln, plStr_id, plS, plI_id, map_plI, er_tabs, erLL_map (er_cS er_cI)]) (by simp [V.pn, pnVL, eDb])) (by simp) (by simp) fun n5 hs5 r5 hn5 hm5 hp5 hr5 => ?_
  obtain ⟨hq5, ht5⟩ := hp5
  obtain ⟨w0, w1, rfl, q0, q1, t0, t1⟩ := rp_tup2 hq5 ht5
  obtain ⟨y5, rfl, py5⟩ := rp_agg tk_Db q0 t0
  obtain rfl := rp_flat q1 rfl
  have hz5 : szDb (plDb y5) := by rw [py5]; exact szDb_app hz
  have hok5 : okDb y5 := okDb_pl py5 (szDb_app hz) (app_st hst)
  obtain ⟨⟨yid, yT, yx⟩⟩ := y5
  simp [cDelta, cStr, cReln, cDb, cS, curD, s7_4, ]
  repeat' apply And.intro
  all_goals
    refine call_curK c2 E30 (w_spec_l1Pick b c2 [xn, xn, [114], [119]] hb o2 (by simp) (by simp)) (by simp) (by simp [curD]) (by simp [cStr]) fun r6 c6 hs6 hh6 hq6 hl6 o6 => ?_
    obtain ⟨v, rfl, hv⟩ := hq6
    have hvl : v.length ≤ 10 := by
      simp only [List.mem_cons, List.not_mem_nil, or_false] at hv
      rcases hv with rfl | rfl | rfl | rfl
      · exact h3.1
      · exact h3.1
      · decide
      · decide
    simp [cDelta, cStr, cReln, cDb, cS, curD, s7_4, ]
    exact ⟨⟨⟨⟨zid, zT, zx⟩⟩, ⟨⟨yid, yT, yx⟩⟩, v, by simp [cDb, cS], ⟨hz, h2⟩, ⟨hz5, hok5⟩, hvl⟩⟩
end

end Go.Proofs.Ytninbnbgaeailaa

namespace Go.Proofs.Ytninbnbgaeailaa
open Go.Vs Go.Proofs Go
set_option maxRecDepth 100000
set_option maxHeartbeats 1000000

theorem okDelta_pl {x : Delta} {P : PDelta} (h : plDelta x = P) (hn : P.name.length ≤ maxLen) (h1 : szRel P.ins) (h2 : szRel P.del) : okDelta x := by
  subst h
  have key : ∀ y : Reln, szRel (plReln y) → okReln y := fun y hy => by
    refine ⟨trivial, ?_, fun r hr => ⟨?_, fun _ _ => trivial⟩⟩
    · have := hy.1
      simp only [plReln, plS, List.length_map] at this
      simp only [maxLen]; omega
    · have := hy.2 (plS plI r) (by simp only [plReln, plS]; exact List.mem_map.2 ⟨r, hr, rfl⟩)
      simp only [plS, List.length_map] at this
      simp only [maxLen]; omega
  exact ⟨hn, key _ h1, key _ h2⟩
theorem szRel_dif (a b : PReln) : szRel (difR a b) := by
  rw [difR]
  split
  · rename_i h
    simp only [difB, Bool.and_eq_true] at h
    exact szRel_ok (r := ⟨a.ar, difL a.rows b.rows⟩) (rowsOk_filter h.1.1)
  · exact ⟨by simp, by simp⟩
theorem df_sz (a b : PDb) (n : List UInt8) : szRel (dfP a b n).ins ∧ szRel (dfP a b n).del := by
  rw [dfP]
  split
  · exact ⟨szRel_dif _ _, szRel_dif _ _⟩
  · exact ⟨⟨by simp, by simp⟩, ⟨by simp, by simp⟩⟩
theorem df_nm (a b : PDb) (n : List UInt8) (h : n.length ≤ maxLen) : (dfP a b n).name.length ≤ maxLen := by
  rw [dfP]
  split
  · exact h
  · simp
theorem w_laws_big (b : Sl Int) : VC Try.prog 6 [.d (dSl cW b)] (fun _ r => r = .d (.bool (decide (1048576 < (b.xs.length : Int))))) := by
  refine VC.of E s6 (by kernel_rfl) Try.func6 (by rfl) (by kernel_rfl) (by simp [Try.f6]) (by simp [Try.f6]) s6_ok fun B => ?_
  simp [Try.f6, dSl]
section
attribute [local simp] plI_id plStr_id map_plI map_plStr pS cP cI cW dSl
theorem w_laws_FnDatabaseDifference (b : Sl Int) :
   VC Try.prog 3 [.d (dSl cW b)] (fun _ r => r = .d (.bool true)) := by
  refine VC.of E s3 (by kernel_rfl) Try.func3 (by rfl) (by kernel_rfl) (by simp [Try.f3]) (by simp [Try.f3]) s3_ok fun B => ?_
  simp [Try.f3, ]
  refine call_pure (w_laws_big b) rfl (by simp) rfl fun hz zz => ?_
  simp at zz
  by_cases hb : (1048576 : Int) < b.xs.length
  · simp [hb]
  simp [hb, ]
  refine call_some (w_spec_DrawDiffDatabases b (by omega)) rfl (by simp) fun n1 hs1 r1 hn1 hm1 hp1 hr1 => ?_
  obtain ⟨⟨⟨aid, aT, ax⟩⟩, ⟨⟨bid, bT, bx⟩⟩, n, rfl, ⟨za, ka⟩, ⟨zb, kb⟩, hnl⟩ := hp1.ex
  have hnm : n.length ≤ maxLen := by simp only [maxLen]; omega
  have sa := okDb_st ka
  have sb := okDb_st kb
  obtain ⟨A, hA⟩ : ∃ A, A = plDb ⟨⟨aid, aT, ax⟩⟩ := ⟨_, rfl⟩
  obtain ⟨C, hC⟩ : ∃ C, C = plDb ⟨⟨bid, bT, bx⟩⟩ := ⟨_, rfl⟩
  rw [← hA] at za sa
  rw [← hC] at zb sb
  have eA : V.agg [V.d (.pl (ax.map fun t => eTab (plTab t)))] = .agg ((eDb A).map V.d) := by rw [hA]; simp [eDb, plDb, plS, Function.comp_def]
  simp [cDelta, cStr, cReln, cDb, cS, eReln, eDelta, eDb, ]
  refine call_some (VC.track (w_impl_DiffDatabases A C n) (by rw [hA, hC]; simp [eDb, eDelta, eReln, cStr, plDb, plDelta, plReln, plStr_id, plS, plI_id, map_plI, er_tabs, erLL_map (er_cS er_cI)]) (by simp [V.pn, pnVL, eDelta, eReln, cStr])) (by simp) (by simp) fun n2 hs2 r2 hn2 hm2 hp2 hr2 => ?_
  obtain ⟨hq2, ht2⟩ := hp2
  obtain ⟨w0, w1, rfl, q0, q1, t0, t1⟩ := rp_tup2 hq2 ht2
  obtain ⟨x, rfl, px⟩ := rp_agg tk_Delta q0 t0
  obtain rfl := rp_flat q1 rfl
  have kx : okDelta x := okDelta_pl px (df_nm A C n hnm) (df_sz A C n).1 (df_sz A C n).2
  obtain ⟨xn, ⟨xi, xir⟩, ⟨xd, xdr⟩⟩ := x
  simp at hn2
  simp [cDelta, cStr, cReln, cDb, cS, eReln, eDelta, eDb, ]
  refine call_p (w_spec_DiffDatabases A C n sa sb) (by rw [hA, hC]; simp [eDb, eDelta, eReln, cStr, plDb, plDelta, plReln, plStr_id, plS, plI_id, map_plI, er_tabs, erLL_map (er_cS er_cI)]) fun hs3 hh3 hl3 => ?_
  simp at hh3
  obtain ⟨Y, hY⟩ : ∃ Y, Y = dfP A C n := ⟨_, rfl⟩
  rw [← hY] at px hl3 ⊢
  have pY := hY
  obtain ⟨yn, ⟨yi, yir⟩, ⟨yd, ydr⟩⟩ := Y
  simp [cDelta, cStr, cReln, cDb, cS, eReln, eDelta, eDb, ]
  refine call_f (VC.to (w_spec_EqualDeltas (plDelta ⟨xn, ⟨xi, xir⟩, ⟨xd, xdr⟩⟩) ⟨yn, ⟨yi, yir⟩, ⟨yd, ydr⟩⟩) (show _ = V.d (.bool true) by rw [px]; simp)) (by simp [eDb, eDelta, eReln, cStr, plDb, plDelta, plReln, plStr_id, plS, plI_id, map_plI, er_tabs, erLL_map (er_cS er_cI)]) rfl fun hs4 hh4 => ?_
  simp at hh4
  cases hB : dfB A C n
  · simp []
  have hap := df_app hB
  have hin := df_inv A C n hB
  simp [cDelta, cStr, cReln, cDb, cS, eReln, eDelta, eDb, ]
  refine call_some (t_impl_ApplyDelta ⟨⟨aid, aT, ax⟩⟩ ⟨xn, ⟨xi, xir⟩, ⟨xd, xdr⟩⟩ ka kx (by rw [← hA]; exact za)) (by simp [cDelta, cStr, cReln, cDb, cS, eReln, eDelta, eDb]) (by simp [cDelta, cStr, cReln, cDb, cS, eReln, eDelta, eDb]) fun n5 hs5 r5 hn5 hm5 hp5 hr5 => ?_
  obtain ⟨⟨⟨cid, cT, cx⟩⟩, rfl, pc, kc, _⟩ := hp5
  rw [← hA, px, hY] at pc
  simp at hn5
  simp [cDelta, cStr, cReln, cDb, cS, eReln, eDelta, eDb, ]
  refine call_p (w_impl_LookupRelation (plDb ⟨⟨cid, cT, cx⟩⟩) n) (by simp [eDb, eDelta, eReln, cStr, plDb, plDelta, plReln, plStr_id, plS, plI_id, map_plI, er_tabs, erLL_map (er_cS er_cI)]) fun hs6 hh6 hl6 => ?_
  simp at hh6
  rw [pc, hap.2.2.1] at hl6 ⊢
  obtain ⟨R, hR⟩ : ∃ R, R = lkR C n := ⟨_, rfl⟩
  rw [← hR] at hl6 ⊢
  obtain ⟨ra, rl⟩ := R
  simp [cDelta, cStr, cReln, cDb, cS, eReln, eDelta, eDb, ]
  refine call_p (w_spec_LookupRelation C n sb) (by rw [hC]; simp [eDb, eDelta, eReln, cStr, plDb, plDelta, plReln, plStr_id, plS, plI_id, map_plI, er_tabs, erLL_map (er_cS er_cI)]) fun hs7 hh7 hl7 => ?_
  simp at hh7
  rw [← hR] at hl7 ⊢
  simp [cDelta, cStr, cReln, cDb, cS, eReln, eDelta, eDb, ]
  refine call_p (w_impl_DiffDatabases C A n) (by rw [hA, hC]; simp [eDb, eDelta, eReln, cStr, plDb, plDelta, plReln, plStr_id, plS, plI_id, map_plI, er_tabs, erLL_map (er_cS er_cI)]) fun hs8 hh8 hl8 => ?_
  simp at hh8
  rw [hin, ← hY] at hl8 ⊢
  simp [cDelta, cStr, cReln, cDb, cS, eReln, eDelta, eDb, invD, ]
  have sY := df_sz A C n
  rw [← hY] at sY
  have pxi : plReln ⟨xi, xir⟩ = ⟨yi, yir⟩ := congrArg PDelta.ins px
  have pxd : plReln ⟨xd, xdr⟩ = ⟨yd, ydr⟩ := congrArg PDelta.del px
  have hval : valB A (plDelta ⟨xn, ⟨xi, xir⟩, ⟨xd, xdr⟩⟩) = true := by rw [px, hY]; exact hap.2.2.2
  refine forgetT [(3, .ptr 3 0 0), (6, .ptr 6 0 0), (12, .ptr 12 0 0), (14, .ptr 14 0 0), (16, .ptr 16 0 0)] [(3, some (.box ((cDb ⟨⟨aid, aT, ax⟩⟩).map V.d))), (6, some (.box ((cDelta ⟨xn, ⟨xi, xir⟩, ⟨xd, xdr⟩⟩).map V.d))), (12, some (.box ((eReln ⟨ra, rl⟩).map V.d))), (14, some (.box ((eReln ⟨ra, rl⟩).map V.d))), (16, some (.box ((eDelta ⟨yn, ⟨yd, ydr⟩, ⟨yi, yir⟩⟩).map V.d)))] (by simp) (by simp [cDelta, cStr, cReln, cDb, cS, eReln, eDelta, eDb]) fun t m => ?_
  simp [cDelta, cStr, cReln, cDb, cS, eReln, eDelta, eDb, s3_14, ]
  refine call_f (VC.to (w_spec_EqualRelations ⟨ra, rl⟩ ⟨ra, rl⟩) (show _ = V.d (.bool true) by simp)) (by simp [eReln]) rfl fun hs9 hh9 => ?_
  simp at hh9
  simp [cDelta, cStr, cReln, cDb, cS, eReln, eDelta, eDb, s3_14, ]
  repeat' apply And.intro
  all_goals
    refine call_some (t_impl_InvertDelta ⟨xn, ⟨xi, xir⟩, ⟨xd, xdr⟩⟩ kx.1 (by rw [pxi]; exact sY.1) (by rw [pxd]; exact sY.2)) (by simp [cDelta, cStr, cReln, cDb, cS, eReln, eDelta, eDb]) (by simp [cDelta, cStr, cReln, cDb, cS, eReln, eDelta, eDb]) fun n10 hs10 r10 hn10 hm10 hp10 hr10 => ?_
    obtain ⟨⟨vn, ⟨vi, vir⟩, ⟨vd, vdr⟩⟩, rfl, pv, kv, _⟩ := hp10
    rw [px] at pv
    simp at hn10
    simp [cDelta, cStr, cReln, cDb, cS, eReln, eDelta, eDb, s3_14, ]
    refine call_f (VC.to (w_spec_EqualDeltas (plDelta ⟨vn, ⟨vi, vir⟩, ⟨vd, vdr⟩⟩) ⟨yn, ⟨yd, ydr⟩, ⟨yi, yir⟩⟩) (show _ = V.d (.bool true) by rw [pv]; simp [invD])) (by simp [eDb, eDelta, eReln, cStr, plDb, plDelta, plReln, plStr_id, plS, plI_id, map_plI, er_tabs, erLL_map (er_cS er_cI)]) rfl fun hs11 hh11 => ?_
    simp at hh11
    simp [cDelta, cStr, cReln, cDb, cS, eReln, eDelta, eDb, s3_14, ]
    refine call_f (VC.to (w_impl_IsValidDelta A (plDelta ⟨xn, ⟨xi, xir⟩, ⟨xd, xdr⟩⟩)) (show _ = V.d (.bool true) by rw [hval])) (by rw [hA]; simp [eDb, eDelta, eReln, cStr, plDb, plDelta, plReln, plStr_id, plS, plI_id, map_plI, er_tabs, erLL_map (er_cS er_cI)]) rfl fun hs12 hh12 => ?_
    simp
end

end Go.Proofs.Ytninbnbgaeailaa

namespace Go.Proofs.Ytninbnbgaeailaa
open Go.Vs Go.Proofs Go
set_option maxRecDepth 100000
set_option maxHeartbeats 1000000

section
attribute [local simp] plI_id plStr_id map_plI map_plStr pS cP cI cW dSl
theorem w_laws_FnDeltas (b : Sl Int) :
   VC Try.prog 5 [.d (dSl cW b)] (fun _ r => r = .d (.bool true)) := by
  refine VC.of E s5 (by kernel_rfl) Try.func5 (by rfl) (by kernel_rfl) (by simp [Try.f5]) (by simp [Try.f5]) s5_ok fun B => ?_
  simp [Try.f5, ]
  refine call_pure (w_laws_big b) rfl (by simp) rfl fun hz zz => ?_
  simp at zz
  by_cases hb : (1048576 : Int) < b.xs.length
  · simp [hb]
  simp [hb, ]
  refine call_some (w_spec_DrawApplyDelta b (by omega)) rfl (by simp) fun n1 hs1 r1 hn1 hm1 hp1 hr1 => ?_
  obtain ⟨⟨⟨aid, aT, ax⟩⟩, x, rfl, bda, ka, bdx, kx⟩ := hp1.ex
  have za := szDb_bd bda
  have sa := okDb_st ka
  obtain ⟨xn, ⟨xi, xir⟩, ⟨xd, xdr⟩⟩ := x
  have kxn : xn.length ≤ maxLen := kx.1
  obtain ⟨A, hA⟩ : ∃ A, A = plDb ⟨⟨aid, aT, ax⟩⟩ := ⟨_, rfl⟩
  obtain ⟨X, hX⟩ : ∃ X, X = plDelta ⟨xn, ⟨xi, xir⟩, ⟨xd, xdr⟩⟩ := ⟨_, rfl⟩
  have hXn : X.name = xn := by rw [hX]; simp [plDelta]
  rw [← hA] at za sa
  simp [cDelta, cStr, cReln, cDb, cS, eReln, eDelta, eDb, ]
  refine call_some (t_impl_ApplyDelta ⟨⟨aid, aT, ax⟩⟩ ⟨xn, ⟨xi, xir⟩, ⟨xd, xdr⟩⟩ ka kx (by rw [← hA]; exact za)) (by simp [cDelta, cStr, cReln, cDb, cS, eReln, eDelta, eDb]) (by simp [cDelta, cStr, cReln, cDb, cS, eReln, eDelta, eDb]) fun n2 hs2 r2 hn2 hm2 hp2 hr2 => ?_
  obtain ⟨⟨⟨eid, eT, ex⟩⟩, rfl, pe, ke, _⟩ := hp2
  rw [← hA, ← hX] at pe
  rw [← hA, ← hX]
  simp at hn2
  simp [cDelta, cStr, cReln, cDb, cS, eReln, eDelta, eDb, ]
  refine call_p (w_spec_ApplyDelta A X za sa (by rw [hXn]; exact kxn)) (by rw [hA, hX]; simp [eDb, eDelta, eReln, cStr, plDb, plDelta, plReln, plStr_id, plS, plI_id, map_plI, er_tabs, erLL_map (er_cS er_cI)]) fun hs3 hh3 hl3 => ?_
  simp at hh3
  obtain ⟨W, hW⟩ : ∃ W, W = appP A X := ⟨_, rfl⟩
  rw [← hW] at pe hl3 ⊢
  obtain ⟨Wt⟩ := W
  simp [cDelta, cStr, cReln, cDb, cS, eReln, eDelta, eDb, ]
  refine call_some (t_impl_NormalizeDelta ⟨⟨aid, aT, ax⟩⟩ ⟨xn, ⟨xi, xir⟩, ⟨xd, xdr⟩⟩ ka kx) (by simp [cDelta, cStr, cReln, cDb, cS, eReln, eDelta, eDb]) (by simp [cDelta, cStr, cReln, cDb, cS, eReln, eDelta, eDb]) fun n4 hs4 r4 hn4 hm4 hp4 hr4 => ?_
  obtain ⟨⟨yn, ⟨yi, yir⟩, ⟨yd, ydr⟩⟩, rfl, py, ky, _⟩ := hp4
  rw [← hA, ← hX] at py
  rw [← hA, ← hX]
  simp at hn4
  simp [cDelta, cStr, cReln, cDb, cS, eReln, eDelta, eDb, ]
  refine forgetT [(3, .ptr 3 0 0), (4, .ptr 4 0 0), (5, .ptr 5 0 0), (6, .d (.bool (appB A X))), (7, .ptr 7 0 0), (8, .d (.bool (appB A X))), (9, .ptr 9 0 0), (10, .d (.bool (fitB A X)))] [(3, some (.box ((cDb ⟨⟨aid, aT, ax⟩⟩).map V.d))), (4, some (.box ((cDelta ⟨xn, ⟨xi, xir⟩, ⟨xd, xdr⟩⟩).map V.d))), (5, some (.box ((cDb ⟨⟨eid, eT, ex⟩⟩).map V.d))), (7, some (.box ((eDb ⟨Wt⟩).map V.d))), (9, some (.box ((cDelta ⟨yn, ⟨yi, yir⟩, ⟨yd, ydr⟩⟩).map V.d)))] (by simp) (by simp [cDelta, cStr, cReln, cDb, cS, eReln, eDelta, eDb]) fun t m => ?_
  simp [cDelta, cStr, cReln, cDb, cS, eReln, eDelta, eDb, s5_7, ]
  refine call_f (VC.to (w_spec_EqualDatabases (plDb ⟨⟨eid, eT, ex⟩⟩) ⟨Wt⟩) (show _ = V.d (.bool true) by rw [pe]; simp)) (by simp [eDb, eDelta, eReln, cStr, plDb, plDelta, plReln, plStr_id, plS, plI_id, map_plI, er_tabs, erLL_map (er_cS er_cI)]) rfl fun hs5 hh5 => ?_
  simp at hh5
  simp [cDelta, cStr, cReln, cDb, cS, eReln, eDelta, eDb, s5_7, ]
  refine call_f (w_impl_IsValidDelta A X) (by rw [hA, hX]; simp [eDb, eDelta, eReln, cStr, plDb, plDelta, plReln, plStr_id, plS, plI_id, map_plI, er_tabs, erLL_map (er_cS er_cI)]) rfl fun hs6 hh6 => ?_
  simp at hh6
  simp [cDelta, cStr, cReln, cDb, cS, eReln, eDelta, eDb, s5_7, ]
  refine call_f (w_spec_IsValidDelta A X sa) (by rw [hA, hX]; simp [eDb, eDelta, eReln, cStr, plDb, plDelta, plReln, plStr_id, plS, plI_id, map_plI, er_tabs, erLL_map (er_cS er_cI)]) rfl fun hs7 hh7 => ?_
  simp at hh7
  cases hB : appB A X
  · have hno := app_no hB
    simp [cDelta, cStr, cReln, cDb, cS, eReln, eDelta, eDb, s5_7, ]
    refine call_f (VC.to (w_spec_EqualDatabases (plDb ⟨⟨eid, eT, ex⟩⟩) A) (show _ = V.d (.bool true) by rw [pe, hW, hno]; simp)) (by rw [hA]; simp [eDb, eDelta, eReln, cStr, plDb, plDelta, plReln, plStr_id, plS, plI_id, map_plI, er_tabs, erLL_map (er_cS er_cI)]) rfl fun hs8 hh8 => ?_
    simp [s5_7, ]
  have hG : appG A X = true := by simp only [appB, Bool.and_eq_true] at hB; exact hB.1
  have hf : fitB A X = true := (app_mem hG).1
  have hno := app_nor hf
  have hnn := nor_fit hf
  have hbk := app_back hB
  have hnv := nor_val hf
  have sY := szRel_norP A X
  have pyi : plReln ⟨yi, yir⟩ = (norP A X).ins := congrArg PDelta.ins py
  have pyd : plReln ⟨yd, ydr⟩ = (norP A X).del := congrArg PDelta.del py
  have zE : szDb (plDb ⟨⟨eid, eT, ex⟩⟩) := by rw [pe, hW]; exact szDb_app za
  simp [cDelta, cStr, cReln, cDb, cS, eReln, eDelta, eDb, s5_7, ]
  refine call_some (t_impl_ApplyDelta ⟨⟨aid, aT, ax⟩⟩ ⟨yn, ⟨yi, yir⟩, ⟨yd, ydr⟩⟩ ka ky (by rw [← hA]; exact za)) (by simp [cDelta, cStr, cReln, cDb, cS, eReln, eDelta, eDb]) (by simp [cDelta, cStr, cReln, cDb, cS, eReln, eDelta, eDb]) fun n9 hs9 r9 hn9 hm9 hp9 hr9 => ?_
  obtain ⟨⟨⟨zid, zT, zx⟩⟩, rfl, pz, kz, _⟩ := hp9
  rw [← hA, py, hno.2, ← hW] at pz
  simp at hn9
  simp [cDelta, cStr, cReln, cDb, cS, eReln, eDelta, eDb, s5_7, ]
  refine call_some (t_impl_NormalizeDelta ⟨⟨aid, aT, ax⟩⟩ ⟨yn, ⟨yi, yir⟩, ⟨yd, ydr⟩⟩ ka ky) (by simp [cDelta, cStr, cReln, cDb, cS, eReln, eDelta, eDb]) (by simp [cDelta, cStr, cReln, cDb, cS, eReln, eDelta, eDb]) fun n10 hs10 r10 hn10 hm10 hp10 hr10 => ?_
  obtain ⟨⟨un, ⟨ui, uir⟩, ⟨ud, udr⟩⟩, rfl, pu, ku, _⟩ := hp10
  rw [← hA, py, hnn.2] at pu
  simp at hn10
  simp [cDelta, cStr, cReln, cDb, cS, eReln, eDelta, eDb, s5_7, ]
  refine cutT (X := Db) (fun q _ => plDb q = A) (fun q => [(3, .ptr 3 0 0), (5, .ptr 5 0 0), (9, .ptr 9 0 0), (10, .d (.bool true)), (11, .ptr 11 0 0), (13, .ptr 13 0 0), (15, .ptr 15 0 0), (16, .d (.bool true))]) (fun q => [(3, some (.box ((cDb ⟨⟨aid, aT, ax⟩⟩).map V.d))), (5, some (.box ((cDb ⟨⟨eid, eT, ex⟩⟩).map V.d))), (9, some (.box ((cDelta ⟨yn, ⟨yi, yir⟩, ⟨yd, ydr⟩⟩).map V.d))), (11, some (.box ((cDb ⟨⟨zid, zT, zx⟩⟩).map V.d))), (13, some (.box ((cDelta ⟨un, ⟨ui, uir⟩, ⟨ud, udr⟩⟩).map V.d))), (15, some (.box ((cDb q).map V.d)))]) ?_ ?_
  · intro K hK
    simp [cDelta, cStr, cReln, cDb, cS, eReln, eDelta, eDb, s5_13, ]
    repeat' apply And.intro
    all_goals
      refine call_some (t_impl_InvertDelta ⟨yn, ⟨yi, yir⟩, ⟨yd, ydr⟩⟩ ky.1 (by rw [pyi]; exact sY.1) (by rw [pyd]; exact sY.2)) (by simp [cDelta, cStr, cReln, cDb, cS, eReln, eDelta, eDb]) (by simp [cDelta, cStr, cReln, cDb, cS, eReln, eDelta, eDb]) fun n11 hs11 r11 hn11 hm11 hp11 hr11 => ?_
      obtain ⟨⟨vn, ⟨vi, vir⟩, ⟨vd, vdr⟩⟩, rfl, pv, kv, _⟩ := hp11
      rw [py] at pv
      simp at hn11
      simp [cDelta, cStr, cReln, cDb, cS, eReln, eDelta, eDb, s5_13, ]
      repeat' apply And.intro
      all_goals
        refine call_some (t_impl_ApplyDelta ⟨⟨eid, eT, ex⟩⟩ ⟨vn, ⟨vi, vir⟩, ⟨vd, vdr⟩⟩ ke kv zE) (by simp [cDelta, cStr, cReln, cDb, cS, eReln, eDelta, eDb]) (by simp [cDelta, cStr, cReln, cDb, cS, eReln, eDelta, eDb]) fun n12 hs12 r12 hn12 hm12 hp12 hr12 => ?_
        obtain ⟨q, rfl, pq, kq, _⟩ := hp12
        rw [pe, pv, hW] at pq ⊢
        rw [hbk.2] at pq
        rw [hbk.1]
        obtain ⟨⟨qid, qT, qx⟩⟩ := q
        simp at hn12
        simp [cDelta, cStr, cReln, cDb, cS, eReln, eDelta, eDb, s5_13, ]
        repeat' apply And.intro
        all_goals exact hK ⟨⟨qid, qT, qx⟩⟩ _ pq rfl rfl (by simp <;> omega) (by simp [hf]) (by simp [cDelta, cStr, cReln, cDb, cS, eReln, eDelta, eDb])
  rintro ⟨⟨qid, qT, qx⟩⟩ hs13 t m pq hh13
  simp [cDelta, cStr, cReln, cDb, cS, eReln, eDelta, eDb, s5_7, ]
  refine call_f (VC.to (w_impl_IsValidDelta A (plDelta ⟨yn, ⟨yi, yir⟩, ⟨yd, ydr⟩⟩)) (show _ = V.d (.bool true) by rw [py, hnv])) (by rw [hA]; simp [eDb, eDelta, eReln, cStr, plDb, plDelta, plReln, plStr_id, plS, plI_id, map_plI, er_tabs, erLL_map (er_cS er_cI)]) rfl fun hs14 hh14 => ?_
  simp at hh14
  simp [cDelta, cStr, cReln, cDb, cS, eReln, eDelta, eDb, s5_7, ]
  refine call_f (VC.to (w_spec_IsValidDelta A (plDelta ⟨yn, ⟨yi, yir⟩, ⟨yd, ydr⟩⟩) sa) (show _ = V.d (.bool true) by rw [py, hnv])) (by rw [hA]; simp [eDb, eDelta, eReln, cStr, plDb, plDelta, plReln, plStr_id, plS, plI_id, map_plI, er_tabs, erLL_map (er_cS er_cI)]) rfl fun hs15 hh15 => ?_
  simp at hh15
  simp [cDelta, cStr, cReln, cDb, cS, eReln, eDelta, eDb, s5_7, ]
  refine call_f (VC.to (w_spec_EqualDatabases (plDb ⟨⟨zid, zT, zx⟩⟩) (plDb ⟨⟨eid, eT, ex⟩⟩)) (show _ = V.d (.bool true) by rw [pz, pe]; simp)) (by simp [eDb, eDelta, eReln, cStr, plDb, plDelta, plReln, plStr_id, plS, plI_id, map_plI, er_tabs, erLL_map (er_cS er_cI)]) rfl fun hs16 hh16 => ?_
  simp at hh16
  simp [cDelta, cStr, cReln, cDb, cS, eReln, eDelta, eDb, s5_7, ]
  refine call_f (VC.to (w_spec_EqualDeltas (plDelta ⟨un, ⟨ui, uir⟩, ⟨ud, udr⟩⟩) (plDelta ⟨yn, ⟨yi, yir⟩, ⟨yd, ydr⟩⟩)) (show _ = V.d (.bool true) by rw [pu, py]; simp)) (by simp [eDb, eDelta, eReln, cStr, plDb, plDelta, plReln, plStr_id, plS, plI_id, map_plI, er_tabs, erLL_map (er_cS er_cI)]) rfl fun hs17 hh17 => ?_
  simp at hh17
  simp [cDelta, cStr, cReln, cDb, cS, eReln, eDelta, eDb, s5_7, ]
  refine call_f (VC.to (w_impl_EqualDeltas (plDelta ⟨un, ⟨ui, uir⟩, ⟨ud, udr⟩⟩) (plDelta ⟨yn, ⟨yi, yir⟩, ⟨yd, ydr⟩⟩)) (show _ = V.d (.bool true) by rw [pu, py]; simp)) (by simp [eDb, eDelta, eReln, cStr, plDb, plDelta, plReln, plStr_id, plS, plI_id, map_plI, er_tabs, erLL_map (er_cS er_cI)]) rfl fun hs18 hh18 => ?_
  simp at hh18
  simp [cDelta, cStr, cReln, cDb, cS, eReln, eDelta, eDb, s5_7, ]
  refine call_f (VC.to (w_spec_EqualDatabases (plDb ⟨⟨qid, qT, qx⟩⟩) A) (show _ = V.d (.bool true) by rw [pq]; simp)) (by rw [hA]; simp [eDb, eDelta, eReln, cStr, plDb, plDelta, plReln, plStr_id, plS, plI_id, map_plI, er_tabs, erLL_map (er_cS er_cI)]) rfl fun hs19 hh19 => ?_
  simp
end

end Go.Proofs.Ytninbnbgaeailaa

namespace Go.Proofs.Ytninbnbgaeailaa
open Go.Vs Go.Proofs Go
set_option maxRecDepth 100000
set_option maxHeartbeats 1000000

section
attribute [local simp] plI_id plStr_id map_plI map_plStr pS cP cI cW dSl
theorem er_dels (l : List Delta) : erLL (l.map cDelta) = (l.map plDelta).map eDelta := erLL_map er_cDelta l
theorem szDb_bat {d : PDb} {xs : List PDelta} (h : szDb d) : szDb (batP d xs) := by
  cases hB : batB d xs
  · rw [(bat_none hB).1]; exact h
  · obtain ⟨hg, c, k, hr⟩ := batB_run hB
    have hT := bat_done hg hr
    have hP : batP d xs = c := by rw [batP, hT]
    simp only [batG, Bool.and_eq_true] at hg
    rw [hP]
    exact szDb_ok (run_ok xs d 0 c k hg.2 hr)
theorem w_laws_FnBatches (b : Sl Int) :
   VC Try.prog 4 [.d (dSl cW b)] (fun _ r => r = .d (.bool true)) := by
  refine VC.of E s4 (by kernel_rfl) Try.func4 (by rfl) (by kernel_rfl) (by simp [Try.f4]) (by simp [Try.f4]) s4_ok fun B => ?_
  simp [Try.f4, ]
  refine call_pure (w_laws_big b) rfl (by simp) rfl fun hz zz => ?_
  simp at zz
  by_cases hb : (1048576 : Int) < b.xs.length
  · simp [hb]
  simp [hb, ]
  refine call_some (w_spec_DrawApplyBatch b (by omega)) rfl (by simp) fun n1 hs1 r1 hn1 hm1 hp1 hr1 => ?_
  obtain ⟨⟨⟨aid, aT, ax⟩⟩, ⟨lid, lT, l⟩, rfl, bda, ka, hl10, bdx, kx⟩ := hp1.ex
  have za := szDb_bd bda
  have sa := okDb_st ka
  have sx := okDeltas_st kx
  obtain ⟨A, hA⟩ : ∃ A, A = plDb ⟨⟨aid, aT, ax⟩⟩ := ⟨_, rfl⟩
  obtain ⟨X, hX⟩ : ∃ X, X = plS plDelta ⟨lid, lT, l⟩ := ⟨_, rfl⟩
  have hXl : X.length = l.length := by rw [hX]; simp [plS]
  rw [← hA] at za sa
  rw [← hX] at sx
  simp [cDelta, cStr, cReln, cDb, cS, eReln, eDelta, eDb, ]
  refine call_some (t_impl_ApplyBatch ⟨⟨aid, aT, ax⟩⟩ ⟨lid, lT, l⟩ ka kx (by rw [← hA]; exact za)) (by simp [cDelta, cStr, cReln, cDb, cS, eReln, eDelta, eDb]) (by simp [cDelta, cStr, cReln, cDb, cS, eReln, eDelta, eDb]) fun n2 hs2 r2 hn2 hm2 hp2 hr2 => ?_
  obtain ⟨⟨⟨eid, eT, ex⟩⟩, rfl, pe, ke, _⟩ := hp2
  rw [← hA, ← hX] at pe
  rw [← hA, ← hX]
  simp at hn2
  simp [cDelta, cStr, cReln, cDb, cS, eReln, eDelta, eDb, ]
  refine call_p (w_spec_ApplyBatch A X za sa sx) (by rw [hA, hX]; simp [eDb, eDelta, eReln, cStr, plDb, plDelta, plReln, plStr_id, plS, plI_id, map_plI, er_tabs, erLL_map er_cDelta, erLL_map (er_cS er_cI)]) fun hs3 hh3 hl3 => ?_
  simp at hh3
  obtain ⟨W, hW⟩ : ∃ W, W = batP A X := ⟨_, rfl⟩
  rw [← hW] at pe hl3 ⊢
  obtain ⟨Wt⟩ := W
  simp [cDelta, cStr, cReln, cDb, cS, eReln, eDelta, eDb, ]
  refine call_some (t_impl_InvertBatch ⟨⟨aid, aT, ax⟩⟩ ⟨lid, lT, l⟩ ka kx (by rw [← hA]; exact za)) (by simp [cDelta, cStr, cReln, cDb, cS, eReln, eDelta, eDb]) (by simp [cDelta, cStr, cReln, cDb, cS, eReln, eDelta, eDb]) fun n4 hs4 r4 hn4 hm4 hp4 hr4 => ?_
  obtain ⟨⟨yid, yT, yl⟩, rfl, py, ky, _⟩ := hp4
  rw [← hA, ← hX] at py
  rw [← hA, ← hX]
  have hyl : yl.length = (invP A X).length := by rw [← py]; simp [plS]
  simp at hn4
  simp [cDelta, cStr, cReln, cDb, cS, eReln, eDelta, eDb, ]
  refine call_f (VC.to (w_spec_EqualDatabases (plDb ⟨⟨eid, eT, ex⟩⟩) ⟨Wt⟩) (show _ = V.d (.bool true) by rw [pe]; simp)) (by simp [eDb, eDelta, eReln, cStr, plDb, plDelta, plReln, plStr_id, plS, plI_id, map_plI, er_tabs, erLL_map er_cDelta, erLL_map (er_cS er_cI)]) rfl fun hs5 hh5 => ?_
  simp at hh5
  simp [cDelta, cStr, cReln, cDb, cS, eReln, eDelta, eDb, ]
  refine call_pure (VC.to (t_impl_IsValidBatch ⟨⟨aid, aT, ax⟩⟩ ⟨lid, lT, l⟩ ka kx (by rw [← hA]; exact za)) (show _ = V.d (.bool (batB A X)) by rw [← hA, ← hX])) (by simp [cDelta, cStr, cReln, cDb, cS, eReln, eDelta, eDb]) (by simp [cDelta, cStr, cReln, cDb, cS, eReln, eDelta, eDb]) rfl fun hs6 hh6 => ?_
  simp at hh6
  refine forgetG [(3, .ptr 3 0 0), (4, .d (.sl lid lT (l.map cDelta))), (5, .ptr 5 0 0), (6, .d (.int .i64 (batN A X))), (7, .d (.bool (batB A X))), (11, .d (.sl yid yT (yl.map cDelta))), (62, .d (.bool false)), (65, .d (.bool (batB A X)))] [(3, some (.box ((cDb ⟨⟨aid, aT, ax⟩⟩).map V.d))), (5, some (.box ((cDb ⟨⟨eid, eT, ex⟩⟩).map V.d)))] (by simp) (by simp [cDelta, cStr, cReln, cDb, cS, eReln, eDelta, eDb]) fun t m => ?_
  cases hB : batB A X
  · have hno := bat_none hB
    have hy0 : yl = [] := by
      rw [hno.2] at hyl
      exact List.eq_nil_of_length_eq_zero (by simpa using hyl)
    subst hy0
    simp [cDelta, cStr, cReln, cDb, cS, eReln, eDelta, eDb, ]
    refine call_f (VC.to (w_spec_EqualDatabases (plDb ⟨⟨eid, eT, ex⟩⟩) A) (show _ = V.d (.bool true) by rw [pe, hW, hno.1]; simp)) (by rw [hA]; simp [eDb, eDelta, eReln, cStr, plDb, plDelta, plReln, plStr_id, plS, plI_id, map_plI, er_tabs, erLL_map er_cDelta, erLL_map (er_cS er_cI)]) rfl fun hs8 hh8 => ?_
    simp []
  have hbk := bat_back hB
  have zE : szDb (plDb ⟨⟨eid, eT, ex⟩⟩) := by rw [pe, hW]; exact szDb_bat za
  simp [cDelta, cStr, cReln, cDb, cS, eReln, eDelta, eDb, ]
  refine call_some (t_impl_ApplyBatch ⟨⟨eid, eT, ex⟩⟩ ⟨yid, yT, yl⟩ ke ky zE) (by simp [cDelta, cStr, cReln, cDb, cS, eReln, eDelta, eDb]) (by simp [cDelta, cStr, cReln, cDb, cS, eReln, eDelta, eDb]) fun n9 hs9 r9 hn9 hm9 hp9 hr9 => ?_
  obtain ⟨⟨⟨qid, qT, qx⟩⟩, rfl, pq, kq, _⟩ := hp9
  rw [pe, py, hW] at pq ⊢
  rw [hbk.1] at pq
  rw [hbk.2.1]
  simp at hn9
  simp [cDelta, cStr, cReln, cDb, cS, eReln, eDelta, eDb, ]
  refine call_f (VC.to (w_spec_EqualDatabases (plDb ⟨⟨qid, qT, qx⟩⟩) A) (show _ = V.d (.bool true) by rw [pq]; simp)) (by rw [hA]; simp [eDb, eDelta, eReln, cStr, plDb, plDelta, plReln, plStr_id, plS, plI_id, map_plI, er_tabs, erLL_map er_cDelta, erLL_map (er_cS er_cI)]) rfl fun hs10 hh10 => ?_
  simp at hh10
  have e1 : yl.length = l.length := by rw [hyl, hbk.2.2.1, hXl]
  have e2 : batN A X = (l.length : Int) := by rw [hbk.2.2.2, hXl]
  simp [cDelta, cStr, cReln, cDb, cS, eReln, eDelta, eDb, e1, e2, ]
end

end Go.Proofs.Ytninbnbgaeailaa
