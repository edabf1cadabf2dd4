/-
  DD1B3: a part of a proof of this seat: the value-level semantics of Go code without maps, its walk rules, the frame of a row, facts of types, schedules, walks, plain lemmas (ZG F2 F3 F4 F5 Q4 ZC ZD LDD). It holds of every program and state that its hypotheses name.
-/
import Derived.Test.YtaoaoijchijlcaaGreatDoorDD1B2
set_option linter.unusedSimpArgs false
set_option linter.unusedVariables false
set_option linter.unnecessarySimpa false
namespace Go.Proofs.YtaoaoijchijlcaaGreatDoor
open Go.Vs Go.Proofs Go
set_option maxRecDepth 100000
set_option maxHeartbeats 1000000
structure IntC (tI : Nat) (b : Sl Int) (n : Nat) (r : V) (cs : List V) : Prop where
 ex : ∃ (c' : Nat × Int) (y : Ints), r = .d (dSl cI y) /\ y.xs.length <= 5 /\ okS okI y /\ Good (cS cI y) (whS whI y) n /\ (∀ g, y.id = some g -> y.T = some (tI, 1)) /\ cs = (curD b c').map V.d /\ curO b c'
structure IntA (b : Sl Int) (r : V) (cs : List V) : Prop where
 ex : ∃ (c' : Nat × Int) (y : Ints), r = .d (dSl cI y) /\ y.xs.length <= 5 /\ okS okI y /\ cs = (curD b c').map V.d /\ curO b c'
theorem call_ints {tI : Nat} {P : Program} {E : Md} {args : List Operand} {f : FuncId} {rest As : List V} {k : Nat} {dst : Option Tmp} {K : St -> Prop} {σ : St} {b : Sl Int} (c : Nat × Int) (hE : E f = true)
  (hc : VX P f [] (.ptr 1000 0 0 :: As) (some ((curD b c).map V.d)) (fun n r cs _ => IntC tI b n r cs)) (hvs : args.map σ.ev = .ptr k 0 0 :: rest) (hm : σ.m k = some (.box ((curD b c).map V.d)))
  (hr : rpL σ.m rest = some As) (hk : keysVL rest = [])
  (hK : ∀ (y : Ints) c' n hs', σ.hs <= n -> n <= hs' -> y.xs.length <= 5 -> okS okI y -> Good (cS cI y) (whS whI y) n -> (∀ g ∈ idsL (cS cI y), g < hs') -> (∀ g, y.id = some g -> y.T = some (tI, 1)) -> curO b c' -> K ({ σ with hs := hs', m := upd σ.m k (some (.box ((curD b c').map V.d))) }.put dst (.d (dSl cI y)))) : vcallA P E f args (.ptr k 0 0 :: rest) dst K σ := by
 refine call_xi hE hvs hm hr (by simp [curD, dSl]) hc fun r cs' ws n hs' h1 h2 h3 h4 h5 h9 => ?_
 obtain ⟨c', y, rfl, h6, h7, h8, h10, rfl, ho⟩ := h3.ex
 have : keysVL rest ++ keysVL ((curD b c).map V.d) = [] := by rw [hk]; simp [curD]
 rw [this]
 exact hK y c' n hs' h1 h2 h6 h7 h8 (fun g hg => h9 g (by rw [idsL_cS] at hg; simpa [V.ids] using hg)) h10 ho
theorem free_num (l : List Int) (n : Nat) (hl : l.length < n) : ∃ f : Nat, f < n /\ (f : Int) ∉ l := by
 by_cases h : ∃ f : Nat, f < n /\ (f : Int) ∉ l
 ·exact h
 ·have h2 : ∀ x ∈ rangeI n, x ∈ l := fun x hx => by
   rw [rangeI_mem] at hx
   have := fun e => h ⟨x.toNat, by omega, e⟩
   rw [show ((x.toNat : Nat) : Int) = x by omega] at this
   exact Classical.byContradiction this
  have := nodup_sub (rangeI n) l (pw_nodup (rangeI_pw n)) h2
  rw [rangeI_len] at this; omega
section
attribute [local simp] pS dSl cP cI cW
theorem w_spec_l16Cols (b : Sl Int) (c : Nat × Int) (n : Int) (hb : b.xs.length <= 1048576) (hc : curO b c) (hn : n <= 5) : VX Tryz.prog 102 [] [.ptr 1000 0 0, .d (.int .i64 n)] (some ((curD b c).map V.d)) (fun m r cs _ => IntC 3 b m r cs) := by
 refine VX.of E s102 (by kernel_rfl) Tryz.func102 (by rfl) (by kernel_rfl) (by simp [Tryz.f102]) (by simp [Tryz.f102]) s102_ok ?_ ?_ fun B hB => ?_
 ·simp
 ·rintro cs h
  cases h
  simp [curD]
 simp [Tryz.f102, curD]
 refine loop_rule (X := (Nat × Int) × List Int) (fun p => curO b p.1 /\ (p.2.length : Int) <= max n 0) (fun p => [(0, .ptr 1000 0 0), (1, .d (.int .i64 n)), (5, .own 7 0 p.2.length)]) (fun p => [(1000, some (.box ((curD b p.1).map V.d))), (7, some (.row 3 1 (p.2.map cI)))]) (fun p => 5 - p.2.length) (c, []) ⟨hc, by simp; omega⟩ (by simp) (by simp [curD]) ?_
 rintro ⟨c1, l⟩ hs t m ⟨ho, hl⟩ hh
 simp only at ho hl
 by_cases hlt : (l.length : Int) < n
 ·have hL : LenOk 8 (l.length + 1) := ⟨by omega, by simp only [maxLen]; omega⟩
  refine anyQ fun Q => ?_
  simp [hlt, curD, ]
  refine call_cur c1 E90 (w_spec_l1Below b c1 n hb ho (by omega)) (by simp) (by simp [curD]) (by simp) (by simp) fun r1 c2 hs1 hh1 hq1 hl1 o1 => ?_
  obtain ⟨x, rfl, x0, x1, _⟩ := hq1
  have x1 := x1 (by omega)
  obtain ⟨k0, rfl⟩ : ∃ k : Nat, x = k := ⟨x.toNat, by omega⟩
  obtain ⟨N, rfl⟩ : ∃ N : Nat, n = N := ⟨n.toNat, by omega⟩
  obtain ⟨f, hf, hfl⟩ := free_num l N (by omega)
  simp [hlt, curD, ]
  refine loop_rule (X := Nat) (fun k => k < N) (fun k => [(0, .ptr 1000 0 0), (1, .d (.int .i64 N)), (5, .own 7 0 l.length), (6, .d (.int .i64 k))]) (fun _ => [(1000, some (.box ((curD b c2).map V.d))), (7, some (.row 3 1 (l.map cI)))]) (fun k => if k <= f then f - k else f + N - k) k0 (by omega) (by simp) (by simp [curD]) ?_
  intro k hs2 t m hk hh2
  have hh2' : hs1 <= hs2 := hh2
  have hh1' : hs <= hs1 := hh1
  have hge := idxL_ge l k
  have hwk := wr1 (i := k) (by omega)
  by_cases hm : (k : Int) ∈ l
  ·have h8 : 0 ≤ idxL l k := by simpa [hm] using hge
   have hkf : k ≠ f := fun e => hfl (e ▸ hm)
   obtain ⟨k', hrm, hk'⟩ : ∃ k' : Nat, ((k : Int) + 1).tmod (N : Int) = (k' : Int) /\ k' = (k + 1) % N := ⟨(k + 1) % N, by rw [Int.tmod_eq_emod_of_nonneg (by omega)]; exact (Int.natCast_emod (k + 1) N).symm, rfl⟩
   have hN0 : N ≠ 0 := by omega
   have hk1 : (k + 1) % N = if k + 1 < N then k + 1 else 0 := by
    split
    ·rename_i h; exact Nat.mod_eq_of_lt h
    ·rw [show k + 1 = N by omega, Nat.mod_self]
   refine anyQ fun Q2 => ?_
   simp []
   refine call_f (w_spec_l7Find l k) (by simp [List.take_of_length_le]) rfl fun hs3 hh3 => ?_
   simp at hh3
   simp [h8, hwk, hrm, hN0, ]
   refine back k' (by rw [hk', hk1]; split <;> omega) (by rw [hk', hk1]; (repeat' split) <;> omega) rfl (by simp <;> omega) (by simp) (by simp [curD])
  ·have h8 : ¬ 0 ≤ idxL l k := by simpa [hm] using hge
   simp []
   refine call_f (w_spec_l7Find l k) (by simp [List.take_of_length_le]) rfl fun hs3 hh3 => ?_
   simp at hh3
   simp [h8, hL, List.take_of_length_le, ]
   exact back (c2, l ++ [(k : Int)]) ⟨o1, by simp; omega⟩ (by simp; omega) rfl (by simp <;> omega) (by simp) (by simp [curD])
 ·simp [hlt, curD, vendX, ]
  intro γ hs' h1 hg
  obtain ⟨q1, q2⟩ := gam_at hg (k := 7) (T := 3) (sz := 1) (es := l.map cI) (by simp)
  clear hg
  refine ⟨⟨c1, ⟨γ 7, some (3, 1), l⟩, by simp [List.take_of_length_le], by simp only; omega, ⟨by simp only [maxLen]; omega, fun _ _ => trivial⟩, good_ints (fun g hg => (q1 g hg).1) (by simpa using q2), fun _ _ => rfl, by simp [curD], ho⟩⟩
theorem w_spec_l19Order (b : Sl Int) (c : Nat × Int) (q : PQuery) (hb : b.xs.length <= 1048576) (hc : curO b c) : VX Tryz.prog 77 [] [.ptr 1000 0 0, .agg ((eQuery q).map V.d)] (some ((curD b c).map V.d)) (fun _ r cs _ => IntA b r cs) := by
 refine VX.of E s77 (by kernel_rfl) Tryz.func77 (by rfl) (by kernel_rfl) (by simp [Tryz.f77]) (by simp [Tryz.f77]) s77_ok ?_ ?_ fun B hB => ?_
 ·simp
 ·rintro cs h
  cases h
  simp [curD]
 obtain ⟨qn, qa, qo⟩ := q
 have hn5 : (if (if qn < 5 then qn else 5) > 0 then (if qn < 5 then qn else 5) else 0) <= 5 := by repeat' split <;> omega
 simp [eQuery, Tryz.f77, curD]
 obtain ⟨N, hN, hN5⟩ : ∃ N : Int, N = (if 0 < (if qn < 5 then qn else 5) then (if qn < 5 then qn else 5) else 0) /\ N <= 5 := ⟨_, rfl, hn5⟩
 rw [<- hN]
 refine call_ints (tI := 3) c E102 (w_spec_l16Cols b c N hb hc hN5) (by simp [hN]) (by simp [curD]) (by simp) (by simp) fun y c0 n0 hs0 hn0 hm0 hy5 ky Gy uy Ty o0 => ?_
 obtain ⟨yid, yT, yl⟩ := y
 have hn0' : B <= n0 := hn0
 simp only at hy5 Ty
 have fin : ∀ (c' : Nat × Int) (id : Option Nat) (T : Option (TypeId × Nat)) (l : List Int), curO b c' -> l.length <= 5 -> IntA b (.d (.sl id T (l.map cI))) ((curD b c').map V.d) := fun c' id T l h1 h2 => ⟨⟨c', ⟨id, T, l⟩, rfl, h2, ⟨by simp only [maxLen]; omega, fun _ _ => trivial⟩, rfl, h1⟩⟩
 by_cases h0 : yl.length = 0
 ·have : yl = [] := List.length_eq_zero_iff.1 h0
  subst this
  simp [vendX, curD, ]
  intro γ hs' h1 hg
  clear hg
  simpa [curD] using fin c0 yid yT [] o0 (by simp)
 obtain ⟨v, r, rfl⟩ := List.exists_cons_of_length_pos (Nat.pos_of_ne_zero h0)
 have wh1 := Gy.wh.1
 obtain ⟨gv, rfl⟩ : ∃ gv, yid = some gv := by
  cases hq : yid with
  | none => have := wh1.nil hq; simp at this
  | some g => exact ⟨g, rfl⟩
 obtain rfl : yT = some (3, 1) := Ty gv rfl
 have b2 : B <= gv := by have := Gy.lo gv (by rw [idsL_cS]; simp [dSl, D.ids]); omega
 have eC : ∀ d, reV (one gv d) (.d (.sl b.id b.T (b.xs.map cW))) = .d (.sl b.id b.T (b.xs.map cW)) := fun d => reV_id _ (fun j hj => one_out fun e => by
  subst e
  have := hB _ (.inr (by simpa [curD] using hj)); omega) (by simp [tkLL_mapW])
 simp [curD]
 refine call_cur c0 E66 (w_spec_l1Once b c0 14 hb o0 (by omega)) (by simp) (by simp [curD]) (by simp) (by simp) fun r1 c1 hs1 hh1 hq1 hl1 o1 => ?_
 obtain ⟨u, rfl⟩ := hq1
 cases u
 ·simp [vendX, curD, ]
  intro γ hs' h1 hg
  clear hg
  simpa [curD] using fin c1 (some gv) (some (3, 1)) (v :: r) o1 hy5
 simp [curD]
 refine call_cur c1 E90 (w_spec_l1Below b c1 6 hb o1 (by omega)) (by simp) (by simp [curD]) (by simp) (by simp) fun r2 c2 hs2 hh2 hq2 hl2 o2 => ?_
 obtain ⟨x, rfl, _, _, _⟩ := hq2
 have eR : reV (one gv (.sl (some gv) (some (3, 1)) ([.int .i64 x] :: r.map cI))) (.d (.sl (some gv) (some (3, 1)) ([.int .i64 v] :: r.map cI))) = .d (.sl (some gv) (some (3, 1)) ([.int .i64 x] :: r.map cI)) := re_raw (by simp)
 simp [b2, idsLL, idsL, D.ids, eR, eC, vendX, curD, ]
 intro γ hs' h1 hg
 clear hg
 simpa [curD] using fin c2 (some gv) (some (3, 1)) (x :: r) o2 (by simpa using hy5)
structure OrdD (v : V) : Prop where
 ex : ∃ (y : Query) (o : Ints), v = .tup [.agg ((cQuery y).map V.d), .d (dSl cI o)] /\ okQuery y /\ QA (plQuery y) /\ okS okI o
theorem w_spec_DrawIsValidOrder (b : Sl Int) (hb : b.xs.length <= 1048576) : VC Tryz.prog 40 [.d (dSl cW b)] (fun _ v => OrdD v) := by
 refine VC.of E s40 (by kernel_rfl) Tryz.func40 (by rfl) (by kernel_rfl) (by simp [Tryz.f40]) (by simp [Tryz.f40]) s40_ok fun B => ?_
 simp [Tryz.f40, s40_3, s40_3, ]
 refine call_nt (w_spec_l1New b hb) (by simp) (by simp) fun ds n0 hs0 hn0 hm0 hp0 hl0 hi0 => ?_
 obtain ⟨c0, rfl, o0⟩ := hp0
 simp [curD, s40_3, ]
 refine call_cp c0 E67 (w_spec_l7Any b c0 hb o0) (by simp) (by simp [curD]) (by simp) (by simp) fun r cs hs1 hh1 hp1 => ?_
 obtain ⟨c1, q, rfl, kq, aq, rfl, o1⟩ := hp1.ex
 obtain ⟨qn, ⟨qaid, qaT, qa⟩, ⟨qoid, qoT, qo⟩⟩ := q
 simp [cQuery, cS, curD, s40_3, ]
 repeat' apply And.intro
 all_goals
  refine call_cp c1 E77 (w_spec_l19Order b c1 ⟨qn, qa.map plAtom, qo⟩ hb o1) (by simp) (by simp [curD]) (by simp [eQuery, erLL_map er_cAtom, erLL_map er_cI, map_plI]) (by simp) fun r cs hs2 hh2 hp2 => ?_
  obtain ⟨c2, ⟨oid, oT, ol⟩, rfl, ho5, ko, rfl, o2⟩ := hp2.ex
  simp [cQuery, cS, curD, s40_3, ]
  exact ⟨⟨⟨qn, ⟨qaid, qaT, qa⟩, ⟨qoid, qoT, qo⟩⟩, ⟨oid, oT, ol⟩, by simp [cQuery, cS], kq, aq, ko⟩⟩
theorem w_spec_DrawDecompositionFromOrder (b : Sl Int) (hb : b.xs.length <= 1048576) : VC Tryz.prog 16 [.d (dSl cW b)] (fun _ v => OrdD v) := by
 refine VC.of E s16 (by kernel_rfl) Tryz.func16 (by rfl) (by kernel_rfl) (by simp [Tryz.f16]) (by simp [Tryz.f16]) s16_ok fun B => ?_
 simp [Tryz.f16, ]
 refine call_some (w_spec_DrawIsValidOrder b hb) rfl (by simp) fun n1 hs1 r1 hn1 hm1 hp1 hr1 => ?_
 obtain ⟨⟨qn, ⟨qaid, qaT, qa⟩, ⟨qoid, qoT, qo⟩⟩, ⟨oid, oT, ol⟩, rfl, h1, h2, h3⟩ := hp1.ex
 simp [cQuery, cS, ]
 exact ⟨⟨⟨qn, ⟨qaid, qaT, qa⟩, ⟨qoid, qoT, qo⟩⟩, ⟨oid, oT, ol⟩, by simp [cQuery, cS], h1, h2, h3⟩⟩
end
end Go.Proofs.YtaoaoijchijlcaaGreatDoor
namespace Go.Proofs.YtaoaoijchijlcaaGreatDoor
open Go.Vs Go.Proofs Go
set_option maxRecDepth 100000
set_option maxHeartbeats 1000000
section
attribute [local simp] plI_id plStr_id map_plI map_plStr pS cP cI cStr cU8 cB
theorem w_impl_FormatInt (n : Int) (hn : inZ n) : VC Tryz.prog 48 [.d (.int .i64 n)] (fun _ r => r = .d (.str (decZ n))) := by
 refine VC.ofL EP s48 (by kernel_rfl) Tryz.func48 (by rfl) (by kernel_rfl) (by simp [Tryz.f48]) (by simp [Tryz.f48]) s48_ok fun B hl => ?_
 simp only [inZ] at hn
 obtain ⟨neg, hneg⟩ : ∃ b : Bool, b = decide (n < 0) := ⟨_, rfl⟩
 simp [Tryz.f48, ]
 rw [<- hneg]
 refine loop_ruleL (X := Int × List UInt8) (fun p _ => (-9223372036854775808 <= p.1 /\ p.1 <= 9223372036854775807) /\ (p.1 ≠ 0 \/ p.2 = []) /\ decN n.natAbs = decN p.1.natAbs ++ p.2) (fun p => [(0, .d (.int .i64 p.1)), (3, .d (.pl (p.2.map cU8))), (4, .d (.bool neg))]) (fun _ => []) (fun p => p.1.natAbs) ?_ ?_
 ·refine (lead_slot 3 17 5 1 (by omega) (by omega) (by simp)).bind ?_
  rintro _ rfl
  refine (lead_frp 17 (T := 5) (sz := 1) (es := []) (by simp)).bind ?_
  rintro _ rfl
  exact Lead.of ⟨(n, []), ⟨hn, .inr rfl, by simp⟩, rfl, rfl, Nat.le_refl _, by simp [hneg], by simp⟩
 rintro ⟨p, ds⟩ hs t m ⟨hp, hp0, hd⟩ hh
 simp only at hp hp0 hd
 have hl20 : (decN n.natAbs).length <= 20 := decN_len20 (by omega)
 rw [hd, List.length_append] at hl20
 have hm : (p.tmod 10).natAbs = p.natAbs % 10 := by rw [Int.natAbs_tmod]; rfl
 have hq : (p.tdiv 10).natAbs = p.natAbs / 10 := by rw [Int.natAbs_tdiv]; rfl
 have hwq : IntKind.i64.wrap (p.tdiv 10) = p.tdiv 10 := wrap64_of (by omega) (by omega)
 obtain ⟨q, hqe⟩ : ∃ q, q = p.tdiv 10 := ⟨_, rfl⟩
 obtain ⟨r, hre⟩ : ∃ r, r = p.tmod 10 := ⟨_, rfl⟩
 obtain ⟨e, hee⟩ : ∃ e, e = p.natAbs % 10 := ⟨_, rfl⟩
 rw [<- hqe] at hq hwq
 rw [<- hre, <- hee] at hm
 have he10 : e < 10 := by omega
 have hw48 : IntKind.i64.wrap (48 + (e : Int)) = 48 + e := wrap64_of (by omega) (by omega)
 have hw8 : IntKind.u8.wrap (48 + (e : Int)) = 48 + e := by
  rw [IntKind.wrap_u8]; omega
 obtain ⟨g, hg⟩ : ∃ g : UInt8, g = UInt8.ofNat (48 + e) := ⟨_, rfl⟩
 have hc8 : ((g.toNat : Nat) : Int) = 48 + e := by
  have : g.toNat = 48 + e := by rw [hg]; simp; omega
  rw [this]; simp
 have hL : LenOk 1 (1 + ds.length) := ⟨by omega, by simp only [maxLen]; omega⟩
 have hst : ¬ q = 0 → decN n.natAbs = decN q.natAbs ++ g :: ds := fun h => by
  rw [hd, hq, decN_ge (by omega), hg, hee]; simp
 have hfin : q = 0 → decN n.natAbs = g :: ds := fun h => by
  have : p.natAbs < 10 := by omega
  rw [hd, decN_lt this, hg, hee, Nat.mod_eq_of_lt this]; rfl
 have hout : q = 0 → decZ n = if neg then 45 :: g :: ds else g :: ds := fun h => by
  rw [decZ, hfin h, hneg]; simp
 have hback : ¬ q = 0 -> q.natAbs < p.natAbs := fun h => by omega
 have hL2 : LenOk 1 (ds.length + 1) := by rw [Nat.add_comm]; exact hL
 have he0 : ¬ (e : Int) < 0 := by omega
 have hw0z : IntKind.i64.wrap 0 = 0 := wrap64_of (by omega) (by omega)
 have a1 : 1 + ds.length = ds.length + 1 := Nat.add_comm _ _
 have hB1 : toB [D.int IntKind.u8 (48 + (e : Int))] = g := by
  have : (48 + (e : Int)).toNat = 48 + e := by omega
  rw [hg]; simp only [toB, this]
 have hB2 : ds.map (toB ∘ cU8) = ds := by
  have : (toB ∘ cU8) = id := by funext b; simp [toB, cU8]
  rw [this, List.map_id]
 have hB3 : ∀ x ∈ ([D.int IntKind.u8 (48 + (e : Int))] :: ds.map cU8), isB x = true := fun x hx => by
  rcases List.mem_cons.1 hx with h | h
  ·subst h; rfl
  ·obtain ⟨b, _, rfl⟩ := List.mem_map.1 h; rfl
 have hB4 : ∀ x ∈ ds, isB (cU8 x) = true := fun x _ => rfl
 have hB5 : isB [D.int IntKind.u8 (48 + (e : Int))] = true := rfl
 have hlen2 : 1 + (ds.length + 1) <= 9223372036854775807 := by omega
 by_cases h0 : r < 0
 ·have hwn : IntKind.i64.wrap (-r) = e := by rw [wrap64_of (by omega) (by omega)]; omega
  by_cases hz : q = 0
  ·have ho := hout hz
   cases hn2 : neg
   ·simp [hn2] at ho
    simp [<- hre, <- hqe, h0, hwn, hw48, hw8, hwq, hz, hw0z, hL2, ho, hn2, hc8, a1, hB1, hB2, hB4, hB5, List.take_of_length_le, ]
    exact fun x hx => rfl
   ·simp [hn2] at ho
    simp [<- hre, <- hqe, h0, hwn, hw48, hw8, hwq, hz, hw0z, hL2, ho, hn2, hc8, a1, hB1, hB2, hB4, hB5, hlen2, List.take_of_length_le, ]
    exact fun x hx => rfl
  ·simp [← hre, ← hqe, h0, hwn, hw48, hw8, hwq, hz, hL, hc8, ]
   refine Back2.lead (lead_frp 17 (T := 5) (sz := 1) (es := [D.int IntKind.u8 (48 + (e : Int))] :: ds.map cU8) (by simp)) ?_
   rintro _ rfl
   refine back2 (q, g :: ds) ⟨by simp only; omega, .inl hz, hst hz⟩ (hback hz) rfl (by simp <;> omega) (by simp [hc8, a1, List.take_of_length_le]) (by simp)
 ·have hr2 : r = (e : Int) := by omega
  by_cases hz : q = 0
  ·have ho := hout hz
   cases hn2 : neg
   ·simp [hn2] at ho
    simp [<- hre, <- hqe, h0, hr2, he0, hw48, hw8, hwq, hz, hw0z, hL2, ho, hn2, hc8, a1, hB1, hB2, hB4, hB5, List.take_of_length_le, ]
    exact fun x hx => rfl
   ·simp [hn2] at ho
    simp [<- hre, <- hqe, h0, hr2, he0, hw48, hw8, hwq, hz, hw0z, hL2, ho, hn2, hc8, a1, hB1, hB2, hB4, hB5, hlen2, List.take_of_length_le, ]
    exact fun x hx => rfl
  ·simp [← hre, ← hqe, h0, hr2, he0, hw48, hw8, hwq, hz, hL, hc8, ]
   refine Back2.lead (lead_frp 17 (T := 5) (sz := 1) (es := [D.int IntKind.u8 (48 + (e : Int))] :: ds.map cU8) (by simp)) ?_
   rintro _ rfl
   refine back2 (q, g :: ds) ⟨by simp only; omega, .inl hz, hst hz⟩ (hback hz) rfl (by simp <;> omega) (by simp [hc8, a1, List.take_of_length_le]) (by simp)
end
end Go.Proofs.YtaoaoijchijlcaaGreatDoor
namespace Go.Proofs.YtaoaoijchijlcaaGreatDoor
open Go.Vs Go.Proofs Go
set_option maxRecDepth 100000
set_option maxHeartbeats 1000000
section
attribute [local simp] plI_id plStr_id map_plI map_plStr pS cP cI cStr cU8 cB
theorem w_spec_l2Dec0 : ∀ (k : Nat) (n : Int), 2 * n.natAbs + (if n < 0 then 1 else 0) < k -> inZ n -> VC Tryz.prog 51 [.d (.int .i64 n)] (fun _ r => r = .d (.str (decZ n)))
 | 0, n, h, _ => by omega
 | k + 1, n, hk, hz => by
   refine VC.ofL EP s51 (by kernel_rfl) Tryz.func51 (by rfl) (by kernel_rfl) (by simp [Tryz.f51]) (by simp [Tryz.f51]) s51_ok fun B hl => ?_
   simp only [inZ] at hz
   have hdig : ∀ e : Nat, e < 10 → IntKind.i64.wrap (48 + (e : Int)) = 48 + e ∧ IntKind.u8.wrap (48 + (e : Int)) = 48 + e ∧ toB [D.int IntKind.u8 (48 + (e : Int))] = UInt8.ofNat (48 + e) ∧ isB [D.int IntKind.u8 (48 + (e : Int))] = true := fun e he => by
    have : (48 + (e : Int)).toNat = 48 + e := by omega
    refine ⟨wrap64_of (by omega) (by omega), by rw [IntKind.wrap_u8]; omega, by simp only [toB, this], rfl⟩
   have hl20 : (decN n.natAbs).length <= 20 := decN_len20 (by omega)
   by_cases h1 : n <= -10
   ·have hm : (n.tmod 10).natAbs = n.natAbs % 10 := by rw [Int.natAbs_tmod]; rfl
    have hq : (n.tdiv 10).natAbs = n.natAbs / 10 := by rw [Int.natAbs_tdiv]; rfl
    obtain ⟨q, hqe⟩ : ∃ q, q = n.tdiv 10 := ⟨_, rfl⟩
    obtain ⟨r, hre⟩ : ∃ r, r = n.tmod 10 := ⟨_, rfl⟩
    have hnd := Int.tmod_add_tdiv_mul n 10
    rw [<- hqe, <- hre] at hnd
    rw [<- hqe] at hq
    rw [<- hre] at hm
    have hq0 : q <= 0 := by omega
    have hr0 : r <= 0 := by omega
    have w1 : IntKind.i64.wrap q = q := wrap64_of (by omega) (by omega)
    have w2 : IntKind.i64.wrap (-q) = -q := wrap64_of (by omega) (by omega)
    have w3 : IntKind.i64.wrap (-r) = -r := wrap64_of (by omega) (by omega)
    have d1 : decZ (-q) = decN (n.natAbs / 10) := by rw [decZ, if_neg (by omega), Int.natAbs_neg, hq]
    have d2 : decZ (-r) = [UInt8.ofNat (48 + n.natAbs % 10)] := by rw [decZ, if_neg (by omega), Int.natAbs_neg, hm, decN_lt (by omega)]
    have d3 : decZ n = 45 :: (decN (n.natAbs / 10) ++ [UInt8.ofNat (48 + n.natAbs % 10)]) := by rw [decZ, if_pos (by omega), decN_ge (by omega)]
    rw [decN_ge (by omega), List.length_append] at hl20
    have hl20 : (decN (n.natAbs / 10)).length <= 20 := by omega
    simp [Tryz.f51, s51_7, s51_7, h1, <- hqe, <- hre, w1, w2]
    refine call_f (w_spec_l2Dec0 k (-q) (by rw [if_neg (by omega)]; omega) (by simp only [inZ]; omega)) (by simp) rfl fun hs1 hh1 => ?_
    simp at hh1
    simp [d1, <- hre, w3, s51_7, ]
    refine ⟨by omega, ?_⟩
    refine call_f (w_spec_l2Dec0 k (-r) (by rw [if_neg (by omega)]; omega) (by simp only [inZ]; omega)) (by simp) rfl fun hs2 hh2 => ?_
    simp at hh2
    simp [d2, d3]
    omega
   ·by_cases h2 : n < 0
    ·have w1 : IntKind.i64.wrap (-n) = -n := wrap64_of (by omega) (by omega)
     have d1 : decZ (-n) = decN n.natAbs := by rw [decZ, if_neg (by omega), Int.natAbs_neg]
     have d3 : decZ n = 45 :: decN n.natAbs := by rw [decZ, if_pos h2]
     simp [Tryz.f51, s51_7, s51_7, h1, h2, w1]
     refine call_f (w_spec_l2Dec0 k (-n) (by rw [if_neg (by omega)]; rw [if_pos h2] at hk; omega) (by simp only [inZ]; omega)) (by simp) rfl fun hs1 hh1 => ?_
     simp at hh1
     simp [d1, d3]
     omega
    ·obtain ⟨m, rfl⟩ : ∃ m : Nat, n = (m : Int) := ⟨n.natAbs, by omega⟩
     have d3 : decZ (m : Int) = decN m := by rw [decZ, if_neg (by omega)]; rfl
     simp only [Int.natAbs_natCast] at hl20 hk
     by_cases h3 : m < 10
     ·obtain ⟨w1, w2, w3, w4⟩ := hdig m h3
      have h3' : (m : Int) < 10 := by omega
      simp [Tryz.f51, s51_7, s51_7, h1, h2, h3, h3', w1, w2, w3, w4, d3, decN_lt h3]
     ·have h3' : ¬ (m : Int) < 10 := by omega
      obtain ⟨w1, w2, w3, w4⟩ := hdig (m % 10) (by omega)
      have e1 : (m : Int).tdiv 10 = ((m / 10 : Nat) : Int) := by rw [Int.tdiv_eq_ediv_of_nonneg (by omega)]; omega
      have e2 : (m : Int).tmod 10 = ((m % 10 : Nat) : Int) := by rw [Int.tmod_eq_emod_of_nonneg (by omega)]; omega
      have w5 : IntKind.i64.wrap ((m / 10 : Nat) : Int) = ((m / 10 : Nat) : Int) := wrap64_of (by omega) (by omega)
      have d1 : decZ ((m / 10 : Nat) : Int) = decN (m / 10) := by rw [decZ, if_neg (by omega)]; rfl
      obtain ⟨a, ha⟩ : ∃ a, a = m / 10 := ⟨_, rfl⟩
      obtain ⟨b, hb⟩ : ∃ b, b = m % 10 := ⟨_, rfl⟩
      have d4 : decN m = decN a ++ [UInt8.ofNat (48 + b)] := by rw [decN_ge h3, ha, hb]
      rw [d4, List.length_append] at hl20
      rw [<- ha] at e1 w5 d1
      rw [<- hb] at e2 w1 w2 w3 w4
      have hl20 : (decN a).length <= 20 := by omega
      simp [Tryz.f51, s51_7, s51_7, h1, h2, h3, h3', e1, e2, w1, w2, w3, w4, w5]
      repeat' apply And.intro
      all_goals
       refine call_f (w_spec_l2Dec0 k a (by rw [if_neg (by omega)]; omega) (by simp only [inZ]; omega)) (by simp) rfl fun hs1 hh1 => ?_
       simp at hh1
       simp [e2, w1, w2, w3, w4, d1, d3, d4, s51_7, ]
       try omega
theorem w_spec_l2Dec (n : Int) (hn : inZ n) : VC Tryz.prog 51 [.d (.int .i64 n)] (fun _ r => r = .d (.str (decZ n))) := w_spec_l2Dec0 _ n (Nat.lt_succ_self _) hn
end
end Go.Proofs.YtaoaoijchijlcaaGreatDoor
namespace Go.Proofs.YtaoaoijchijlcaaGreatDoor
open Go.Vs Go.Proofs Go
set_option maxRecDepth 100000
set_option maxHeartbeats 1000000
section
attribute [local simp] plI_id plStr_id map_plI map_plStr pS cP cI cStr cU8 cB
theorem w_spec_FormatDecomposition (d : PDec) (hp : ∀ p ∈ d.par, inZ p) (hw : bagsW d.bags <= 2305843009213693952) : VC Tryz.prog 19 [.agg ((eDec d).map V.d)] (fun _ r => r = .d (.str (fmtDec d))) := by
 refine VC.ofL EP s19 (by kernel_rfl) Tryz.func19 (by rfl) (by kernel_rfl) (by simp [Tryz.f19]) (by simp [Tryz.f19]) s19_ok fun B hl => ?_
 obtain ⟨bs, ps⟩ := d
 simp [pS, maxLen, eDec] at hl
 simp only at hp hw
 have hW := fmtIts_W bs ps hp
 simp [Tryz.f19, eDec]
 refine loop_rule (X := Nat) (FmtI bs ps) (fun i => [(1, .ptr 1 0 0), (3, .d (.str (joinB [32] ((fmtIts ⟨bs, ps⟩).take i)))), (4, .d (.int .i64 i))])
  (fun _ => [(1, some (.box [.d (.pl (bs.map (cP cI))), .d (.pl (ps.map cI))]))]) (fun i => bs.length - i) 0 ⟨by simp, by simp⟩ (by simp [joinB]) (by simp) ?_
 intro i hs t m ⟨hi, hi0⟩ hh
 have hj : (joinB [32] ((fmtIts ⟨bs, ps⟩).take i)).length <= strW 1 ((fmtIts ⟨bs, ps⟩).take i) := joinB_len [32] _
 have hWt := strW_take 1 (fmtIts ⟨bs, ps⟩) i
 by_cases hlt : i < bs.length
 ·by_cases hle : bs.length = ps.length
  case neg =>
   have h0 : i = 0 := by by_cases h : 0 < i; exact absurd (hi0 h) hle; omega
   subst h0
   simp [hlt, hle, joinB, fmtDec]
  have hpl : i < ps.length := by omega
  have hwi := wr1 (i := i) (by omega)
  have hil : i < (fmtIts ⟨bs, ps⟩).length := by rw [fmtIts_len _ hle]; exact hlt
  have hst := joinB_step (sep := [32]) hil
  have hat := strW_at (s := 1) hil
  have hIt : (fmtIts ⟨bs, ps⟩)[i] = [40] ++ varsS bs[i] ++ [41] ++ (if 0 <= ps[i] then decZ ps[i] else []) := by simp [fmtIts, fmtItem]
  rw [hIt] at hst hat
  have hW2 : strW 1 (fmtIts ⟨bs, ps⟩) <= 2305843009213693952 := Nat.le_trans hW hw
  obtain ⟨s, hs0⟩ : ∃ s, s = joinB [32] ((fmtIts ⟨bs, ps⟩).take i) := ⟨_, rfl⟩
  obtain ⟨p, hpe⟩ : ∃ p, p = ps[i] := ⟨_, rfl⟩
  rw [<- hpe] at hst hat
  have hpz : inZ p := hpe ▸ hp _ (List.getElem_mem hpl)
  rw [<- hs0] at hst hj ⊢
  have hbl : bs[i].length ≤ 4611686018427387904 := by
   have : ∀ l : List (List Int), ∀ b ∈ l, b.length ≤ bagsW l := fun l => by
    induction l with
    | nil => simp
    | cons a r ih => intro b hb; simp only [bagsW]; rcases List.mem_cons.1 hb with h | h; subst h; omega; have := ih b h; omega
   have := this bs _ (List.getElem_mem hlt); omega
  simp only [List.length_append, List.length_cons, List.length_nil] at hat
  have hvl := varsS_len bs[i]
  have call1 : ∀ (s' : List UInt8), s'.length <= s.length + 1 -> s'.length + ((varsS bs[i]).length + 2) <= 9223372036854775807 := fun s' h => by omega
  by_cases h0 : i = 0
  ·subst h0
   have hst : joinB [32] ((fmtIts ⟨bs, ps⟩).take 1) = s ++ (([40] : List UInt8) ++ varsS bs[0] ++ [41] ++ (if 0 <= p then decZ p else [])) := by rw [hst]; simp
   have hwi0 : IntKind.i64.wrap 1 = 1 := by simpa using hwi
   simp [hlt, hpl, hle, ]
   refine call_f (w_spec_l7Vars bs[0] hbl) (by simp) rfl fun hs1 hh1 => ?_
   simp at hh1
   by_cases hp0 : 0 <= p
   ·have hdl := decZ_len hpz
    simp only [hp0, if_true] at hst hat
    have hp0' : 0 <= ps[0] := hpe ▸ hp0
    simp [hle, hpl, hp0', ]
    refine ⟨by omega, ?_⟩
    split
    case isFalse h => exact absurd hp0' h
    refine call_f (w_spec_l2Dec ps[0] (hpe ▸ hpz)) (by simp) rfl fun hs2 hh2 => ?_
    simp at hh2
    simp [<- hpe, hwi0]
    refine ⟨by omega, ?_⟩
    exact back 1 ⟨by omega, fun _ => hle⟩ (by omega) rfl (by simp <;> omega) (by simp [hst]) (by simp)
   ·simp only [hp0, if_false] at hst hat
    have hp0' : ¬ 0 <= ps[0] := hpe ▸ hp0
    simp [hle, hpl, hp0', hwi0, ]
    refine ⟨by omega, ?_⟩
    split
    case isTrue h => exact absurd h hp0'
    exact back 1 ⟨by omega, fun _ => hle⟩ (by omega) rfl (by simp <;> omega) (by simp [hst]) (by simp)
  ·have h0' : 0 < i := by omega
   simp only [h0, if_false] at hst
   simp [hlt, hle, hpl, h0, h0', ]
   refine ⟨by omega, ?_⟩
   refine call_f (w_spec_l7Vars bs[i] hbl) (by simp) rfl fun hs1 hh1 => ?_
   simp at hh1
   by_cases hp0 : 0 <= p
   ·have hdl := decZ_len hpz
    simp only [hp0, if_true] at hst hat
    have hp0' : 0 <= ps[i] := hpe ▸ hp0
    simp [hlt, hle, hpl, hp0', ]
    refine ⟨by omega, ?_⟩
    refine call_f (w_spec_l2Dec ps[i] (hpe ▸ hpz)) (by simp) rfl fun hs2 hh2 => ?_
    simp at hh2
    simp [<- hpe, hwi]
    refine ⟨by omega, ?_⟩
    exact back (i + 1) ⟨by omega, fun _ => hle⟩ (by omega) rfl (by simp <;> omega) (by simp [hst]) (by simp)
   ·simp only [hp0, if_false] at hst hat
    have hp0' : ¬ 0 <= ps[i] := hpe ▸ hp0
    simp [hlt, hle, hpl, hp0', hwi, ]
    refine ⟨by omega, ?_⟩
    exact back (i + 1) ⟨by omega, fun _ => hle⟩ (by omega) rfl (by simp <;> omega) (by simp [hst]) (by simp)
 ·have hd : (fmtIts ⟨bs, ps⟩).take i = fmtIts ⟨bs, ps⟩ := List.take_of_length_le (by simp [fmtIts]; omega)
  simp [hlt, hd]
  by_cases hle : bs.length = ps.length
  ·simp [fmtDec, hle]
  ·have h0 : bs = [] := by
    have : bs.length = 0 := by by_cases h : 0 < i; exact absurd (hi0 h) hle; omega
    exact List.length_eq_zero_iff.1 this
   subst h0
   simp only [fmtDec]
   split <;> simp [fmtIts, joinB]
end
end Go.Proofs.YtaoaoijchijlcaaGreatDoor
namespace Go.Proofs.YtaoaoijchijlcaaGreatDoor
open Go.Vs Go.Proofs Go
set_option maxRecDepth 100000
set_option maxHeartbeats 1000000
section
attribute [local simp] plI_id plStr_id map_plI map_plStr pS cP cI cStr cU8 cB
theorem w_impl_FormatDecomposition (d : PDec) (hp : ∀ p ∈ d.par, inZ p) (hw : bagsW d.bags <= 1099511627776) : VC Tryz.prog 18 [.agg ((eDec d).map V.d)] (fun _ r => r = .d (.str (fmtDec d))) := by
 refine VC.ofL EP s18 (by kernel_rfl) Tryz.func18 (by rfl) (by kernel_rfl) (by simp [Tryz.f18]) (by simp [Tryz.f18]) s18_ok fun B hl => ?_
 obtain ⟨bs, ps⟩ := d
 simp [pS, maxLen, eDec] at hl
 simp only at hp hw
 have hW := fmtIts_W bs ps hp
 by_cases hle : bs.length = ps.length
 case neg => simp [Tryz.f18, eDec, hle, fmtDec]
 have hil0 : (fmtIts ⟨bs, ps⟩).length = bs.length := fmtIts_len ⟨bs, ps⟩ hle
 have hbw : bs.length ≤ 1099511627776 := by
  have : ∀ l : List (List Int), l.length ≤ bagsW l := fun l => by
   induction l with
   | nil => simp
   | cons a r ih => simp only [bagsW, List.length_cons]; omega
  have := this bs; omega
 simp [Tryz.f18, eDec, hle]
 refine loop_ruleL (X := Nat) (fun i _ => FmtI bs ps i) (fun i => [(1, .ptr 1 0 0), (3, .ptr 3 0 0), (4, .own 45 0 i), (17, .d (.pl (bs.map (cP cI)))), (18, .d (.int .i64 bs.length)), (19, .d (.int .i64 i))])
  (fun i => [(3, some (.box [.d (.pl (bs.map (cP cI))), .d (.pl (ps.map cI))])), (45, some (.row 9 1 (((fmtIts ⟨bs, ps⟩).take i).map cStr)))]) (fun i => bs.length - i) ?_ ?_
 ·refine (lead_slot 4 45 9 1 (by omega) (by omega) (by simp)).bind ?_
  rintro _ rfl
  exact Lead.of ⟨0, ⟨by omega, fun h => by omega⟩, rfl, rfl, Nat.le_refl _, by simp [hle], by simp⟩
 intro i hs t m ⟨hi, hi0⟩ hh
 by_cases hlt : i < bs.length
 ·have hpl : i < ps.length := by omega
  have hwi := wr1 (i := i) (by omega)
  have hil : i < (fmtIts ⟨bs, ps⟩).length := by rw [hil0]; exact hlt
  have hst : (fmtIts ⟨bs, ps⟩).take (i + 1) = (fmtIts ⟨bs, ps⟩).take i ++ [(fmtIts ⟨bs, ps⟩)[i]] := List.take_succ_eq_append_getElem hil
  have hIt : (fmtIts ⟨bs, ps⟩)[i] = ([40] : List UInt8) ++ varsS bs[i] ++ [41] ++ (if 0 <= ps[i] then decZ ps[i] else []) := by simp [fmtIts, fmtItem]
  have hbl : bs[i].length ≤ 1099511627776 := by
   have : ∀ l : List (List Int), ∀ b ∈ l, b.length ≤ bagsW l := fun l => by
    induction l with
    | nil => simp
    | cons a r ih => intro b hb; simp only [bagsW]; rcases List.mem_cons.1 hb with h | h; subst h; omega; have := ih b h; omega
   have := this bs _ (List.getElem_mem hlt); omega
  have hvl := varsS_len bs[i]
  have hL : LenOk 16 (i + 1) := ⟨by omega, by simp only [maxLen]; omega⟩
  have hmin : min i (fmtIts ⟨bs, ps⟩).length = i := by omega
  rw [hIt] at hst
  simp [hlt, hle ▸ hpl, ]
  refine call_f (w_impl_namesOf bs[i]) (by simp) rfl fun hs1 hh1 => ?_
  simp at hh1
  by_cases hp0 : 0 <= ps[i]
  ·have hdl := decZ_len (hp _ (List.getElem_mem hpl))
   simp only [hp0, if_true] at hst
   simp [hlt, hle, hpl, hp0, ]
   refine ⟨by omega, by omega, ?_⟩
   refine call_f (w_impl_FormatInt ps[i] (hp _ (List.getElem_mem hpl))) (by simp) rfl fun hs2 hh2 => ?_
   simp at hh2
   simp [hwi, hL, hil0, hle, ]
   refine ⟨by omega, ?_⟩
   refine ⟨by omega, ?_⟩
   exact back2 (i + 1) ⟨by omega, fun _ => hle⟩ (by omega) rfl (by simp <;> omega) (by simp [hle]) (by simp [<- List.map_take, hst])
  ·simp only [hp0, if_false] at hst
   simp [hlt, hle, hpl, hp0, hwi, hL, hil0, ]
   refine ⟨by omega, by omega, ?_⟩
   refine ⟨by omega, ?_⟩
   exact back2 (i + 1) ⟨by omega, fun _ => hle⟩ (by omega) rfl (by simp <;> omega) (by simp [hle]) (by simp [<- List.map_take, hst])
 ·have hn : i = bs.length := by omega
  have hd : (fmtIts ⟨bs, ps⟩).take i = fmtIts ⟨bs, ps⟩ := List.take_of_length_le (by omega)
  have hil1 : i = (fmtIts ⟨bs, ps⟩).length := by omega
  simp [hlt, hle ▸ hlt, hd, <- hil1, List.take_of_length_le, ]
  refine call_f (w_impl_join (fmtIts ⟨bs, ps⟩) [32] (Nat.le_trans hW (by omega))) (by simp [<- hil1, List.take_of_length_le]) rfl fun hs2 hh2 => ?_
  simp [fmtDec, hle]
end
end Go.Proofs.YtaoaoijchijlcaaGreatDoor
namespace Go.Proofs.YtaoaoijchijlcaaGreatDoor
open Go.Vs Go.Proofs Go
set_option maxRecDepth 100000
set_option maxHeartbeats 1000000
section
attribute [local simp] plI_id plStr_id map_plI map_plStr pS cP cI cStr cU8 cB
end
theorem t_impl_DefaultOrder (q : Query) (hq : okQuery q) : VC Tryz.prog 53 [.agg ((cQuery q).map V.d)]
  (fun n r => ∃ y : Ints, r = .d (dSl cI y) /\ plS plI y = defOrd (plQuery q) /\ okS okI y /\ Good (cS cI y) (whS whI y) n) := by
 refine VC.of E s53 (by kernel_rfl) Tryz.func53 (by rfl) (by kernel_rfl) (by simp [Tryz.f53]) (by simp [Tryz.f53]) s53_ok fun B => ?_
 simp [Tryz.f53, cQuery, cS, cI]
 refine call_f (w_impl_IsValidQuery (plQuery q)) (by simp [eQuery, plQuery, er_I, er_SI, er_Atom, pS, cP, plI]) rfl fun hs1 hh1 => ?_
 simp at hh1
 cases h1 : queryOk (plQuery q)
 ·simp
  exact ⟨nilS, by simp [nilS, dSl], by simp [defOrd, h1, nilS, plS], ok_nilS, good_nilI B⟩
 have hn := queryOk_n5 h1
 have hqn : (plQuery q).n = q.n := rfl
 rw [hqn] at hn
 obtain ⟨N, hN⟩ : ∃ N : Nat, q.n = (N : Int) := ⟨q.n.toNat, by omega⟩
 have hdo : defOrd (plQuery q) = rangeI N := by simp [defOrd, h1, hqn, hN]
 simp [hN]
 refine loop_ruleL (X := Nat) (fun i _ => i <= N) (fun i => [(1, .ptr 1 0 0), (3, .own 17 0 i), (4, .d (.int .i64 i))]) (fun i => [(1, some (.box [.d (.int .i64 N), .d (dSl cAtom q.atoms), .d (dSl cI q.out)])), (17, some (.row 3 1 ((rangeI i).map cI)))]) (fun i => N - i) ?_ ?_
 ·refine (lead_slot 3 17 3 1 (by omega) (by omega) (by simp)).bind ?_
  rintro _ rfl
  exact Lead.of ⟨0, by omega, rfl, rfl, Nat.le_refl _, by simp, by simp [rangeI_zero]⟩
 intro i hs t m hi hh
 by_cases hlt : i < N
 ·have hwi := wr1 (i := i) (by omega)
  have hL : LenOk 8 (i + 1) := ⟨by omega, by simp only [maxLen]; omega⟩
  have hlt' : (i : Int) < N := by omega
  simp [hlt, hwi, hL, cI, ]
  exact back2 (i + 1) (by omega) (by omega) rfl (by simp <;> omega) (by simp) (by simp [rangeI_succ, cI])
 ·have hn' : i = N := by omega
  subst hn'
  simp [List.take_of_length_le]
  intro γ hs' h2 hg
  obtain ⟨q1, q2⟩ := gam_at hg (k := 17) (T := 3) (sz := 1) (es := (rangeI i).map cI) (by simp)
  have r1 := gam_row hg (k := 17) (T := 3) (sz := 1) (es := (rangeI i).map cI) (by simp)
  clear hg
  have ho : okS okI (⟨γ 17, some (3, 1), rangeI i⟩ : Ints) := ⟨by simp only [maxLen, rangeI_length]; omega, fun _ _ => trivial⟩
  refine ⟨⟨γ 17, some (3, 1), rangeI i⟩, by simp [dSl, List.take_of_length_le], by rw [hdo]; simp [plS, map_plI], ho, good_row (fun g hg => (q1 g hg).1) (by simpa using q2) r1 ⟨by simp, by simp⟩ (by simp [whI])⟩
theorem t_impl_SingleBagDecomposition (q : Query) (hq : okQuery q) : VC Tryz.prog 20 [.agg ((cQuery q).map V.d)]
  (fun n r => ∃ y : Dec, r = .agg ((cDec y).map V.d) /\ plDec y = sbd (plQuery q) /\ okDec y /\ Good (cDec y) (whDec y) n) := by
 refine VC.of E s20 (by kernel_rfl) Tryz.func20 (by rfl) (by kernel_rfl) (by simp [Tryz.f20]) (by simp [Tryz.f20]) s20_ok fun B => ?_
 simp [Tryz.f20, cQuery, cS, cI]
 refine call_f (w_impl_IsValidQuery (plQuery q)) (by simp [eQuery, plQuery, er_I, er_SI, er_Atom, pS, cP, plI]) rfl fun hs1 hh1 => ?_
 simp at hh1
 cases h1 : queryOk (plQuery q)
 ·simp
  exact ⟨⟨nilS, nilS⟩, by simp [cDec, nilS, cS, dSl], by simp [sbd, h1, plDec, nilS, plS], ⟨ok_nilS, ok_nilS⟩, good_Dec0 B⟩
 simp
 refine call_some (t_impl_DefaultOrder q hq) (by simp [cQuery, cS, cI]) (by simp) fun n2 hs2 r2 hn2 hm2 hp2 hr2 => ?_
 obtain ⟨y, rfl, p2, k2, G2⟩ := hp2
 simp at hn2
 simp [cS, cI, dSl, ]
 intro γ hs' h2 hg
 obtain ⟨q1, q2⟩ := gam_at hg (k := 9) (T := 25) (sz := 1) (es := [y].map (cS cI)) (by simp [cS, dSl])
 obtain ⟨q3, q4⟩ := gam_at hg (k := 10) (T := 3) (sz := 1) (es := [(-1 : Int)].map cI) (by simp [cI])
 have r1 := gam_row hg (k := 9) (T := 25) (sz := 1) (es := [y].map (cS cI)) (by simp [cS, dSl])
 have r2 := gam_row2 hg (k := 10) (T := 3) (sz := 1) (es := [(-1 : Int)].map cI) (k2 := 9) (T2 := 25) (sz2 := 1) (es2 := [y].map (cS cI)) (by simp [cI]) (by simp [cS, dSl])
 have r3 : ∀ g, γ 9 = some g → γ 10 = some g → False := fun g h h' => by
  have := hg.ne 9 10 (.row 25 1 ([y].map (cS cI))) (.row 3 1 ([(-1 : Int)].map cI)) g (by simp [cS, dSl]) (by simp [cI]) h h'
  omega
 clear hg
 try simp
 have eids : idsLL ([y].map (cS cI)) = idsL (cS cI y) := by simp [idsLL]
 refine ⟨⟨⟨γ 9, some (25, 1), [y]⟩, ⟨γ 10, some (3, 1), [-1]⟩⟩, by simp [cDec, cS, cI, dSl], ?_, ⟨⟨by simp [maxLen], by simpa using k2⟩, ⟨by simp [maxLen], fun _ _ => trivial⟩⟩, ?_⟩
 ·have e : plDec ⟨⟨γ 9, some (25, 1), [y]⟩, ⟨γ 10, some (3, 1), [-1]⟩⟩ = ⟨[plS plI y], [-1]⟩ := by simp [plDec, plS, map_plI, plI]
  rw [e, p2]; simp [sbd, defOrd, h1]
 ·exact good_Dec2 (by rw [eids]; exact G2.nd) (by rw [eids]; intro g hg; have := G2.lo g hg; omega) (by simpa using G2.wh) (fun g h => ⟨(q1 g h).1, r1 g h⟩) (fun _ => q2 (by simp)) (fun g h => ⟨(q3 g h).1, r2 g h⟩) (fun _ => q4 (by simp)) r3
end Go.Proofs.YtaoaoijchijlcaaGreatDoor
namespace Go.Proofs.YtaoaoijchijlcaaGreatDoor
open Go.Vs Go.Proofs Go
set_option maxRecDepth 100000
set_option maxHeartbeats 1000000
section
attribute [local simp] pS cP eQ_def cI
theorem w_spec_CoverProgram (q : PQuery) (hst : ∀ a ∈ q.atoms, a.rel.length <= maxLen) (hq : queryOk q = true) : VC Tryz.prog 54 [.agg ((eQuery q).map V.d)]
  (fun _ r => r = .tup [.agg [.d (.pl ((covM q.atoms (rangeI q.n.toNat)).map (cP eQ))), .d (.pl ((List.replicate q.n.toNat (1 : _root_.Rat)).map eQ)), .d (.pl ((List.replicate q.atoms.length (1 : _root_.Rat)).map eQ))], .d (.bool true)]) := by
 have hqe : (eQuery q).map V.d = [V.d (.int .i64 q.n), V.d (.pl (q.atoms.map eAtom)), V.d (.pl (q.out.map cI))] := by simp [eQuery]
 refine VC.ofL EP s54 (by kernel_rfl) Tryz.func54 (by rfl) (by kernel_rfl) (by simp [Tryz.f54]) (by simp [Tryz.f54]) s54_ok fun B hl => ?_
 clear hl
 simp [hqe, Tryz.f54, ]
 refine call_f (w_spec_IsValidQuery q hst) (by simp [hqe]) rfl fun hs0 hh0 => ?_
 try simp at hh0
 obtain ⟨f1, f2, f3, f4, f5⟩ := bag_facts hq (full_bag hq)
 have h5 := dec_n1 hq
 simp [hq, ]
 obtain ⟨bag, hbag⟩ : ∃ bag, bag = rangeI q.n.toNat := ⟨_, rfl⟩
 have hbl : bag.length = q.n.toNat := by rw [hbag, rangeI_len]
 have hbi : ∀ i (h : i < bag.length), bag[i] = (i : Int) := fun i h => by subst hbag; simp [rangeI]
 rw [<- hbag] at f1 f2 ⊢
 rw [<- hbl]
 have hqn : q.n = (bag.length : Int) := by omega
 obtain ⟨AT, hAT⟩ : ∃ AT, AT = q.atoms := ⟨_, rfl⟩
 obtain ⟨OU, hOU⟩ : ∃ OU, OU = q.out.map cI := ⟨_, rfl⟩
 obtain ⟨RW, hRW⟩ : ∃ RW : Int -> List _root_.Rat, RW = fun v => AT.map fun a => r01 (a.vars.contains v) := ⟨_, rfl⟩
 have hcov : covM q.atoms bag = bag.map RW := by rw [hRW, hAT]; rfl
 rw [hcov]
 rw [<- hAT] at f4 ⊢
 rw [hqn]
 rw [<- hOU]
 have hq4 := f4
 have hb5 := f2
 simp []
 refine loop_ruleL (X := Nat) (fun i _ => i ≤ bag.length) (fun i => [(1, .ptr 1 0 0), (2, .ptr 2 0 0), (4, .ptr 4 0 0), (5, .d (.int .i64 i))])
  (fun i => [(1, some (.box [.d (.int .i64 bag.length), .d (.pl (AT.map eAtom)), .d (.pl OU)])), (2, some (.box [.d (.sl none none []), .d (.sl none none []), .d (.sl none none [])])), (4, some (.box [.own 901 0 i, .own 902 0 i, .d (.sl none none [])])), (901, some (.row 48 1 (((bag.take i).map RW).map (cP eQ)))), (902, some (.row 33 2 ((List.replicate i (1 : _root_.Rat)).map eQ)))]) (fun i => bag.length - i) ?_ ?_
 ·refine (lead_box 4 0 901 48 1 [.d (.sl none none []), .d (.sl none none []), .d (.sl none none [])] (by omega) (by omega) (by omega) (by simp) rfl).bind ?_
  rintro _ rfl
  refine (lead_box 4 1 902 33 2 [.own 901 0 0, .d (.sl none none []), .d (.sl none none [])] (by omega) (by omega) (by omega) (by simp) rfl).bind ?_
  rintro _ rfl
  exact Lead.of ⟨0, by omega, rfl, rfl, Nat.le_refl _, by simp, by simp⟩
 intro i hs1 t1 m1 hi hh1
 by_cases hlt : i < bag.length
 ·have hwi := wr1 (i := i) (by omega)
  have hL1 : LenOk 24 (i + 1) := ⟨by omega, by simp only [maxLen]; omega⟩
  have hL2 : LenOk 16 (i + 1) := ⟨by omega, by simp only [maxLen]; omega⟩
  obtain ⟨v, hv⟩ : ∃ v, v = bag[i] := ⟨_, rfl⟩
  have hvi : v = (i : Int) := by rw [hv]; exact hbi i hlt
  obtain ⟨RA, hRA⟩ : ∃ RA, RA = ((bag.take i).map RW).map (cP eQ) := ⟨_, rfl⟩
  obtain ⟨RB, hRB⟩ : ∃ RB, RB = (List.replicate i (1 : _root_.Rat)).map eQ := ⟨_, rfl⟩
  have hRAl : RA.length = i := by rw [hRA]; simp; omega
  have hRBl : RB.length = i := by rw [hRB]; simp
  have s1 : List.take (i + 1) (List.map (cP eQ ∘ RW) bag) = RA ++ [cP eQ (RW v)] := by rw [List.take_succ_eq_append_getElem (by simpa using hlt)]; simp [hRA, hv]
  have s2 : List.replicate (i + 1) [D.int .i64 1, D.int .i64 1] = RB ++ [[D.int .i64 1, D.int .i64 1]] := by rw [hRB, List.replicate_succ']; simp
  rw [<- hRA, <- hRB]
  refine anyQ2 fun Z => ?_
  simp [hlt, ]
  refine loop_rule (X := Nat) (fun k => k ≤ AT.length) (fun k => [(1, .ptr 1 0 0), (2, .ptr 2 0 0), (4, .ptr 4 0 0), (5, .d (.int .i64 i)), (6, .own 21 0 k), (7, .d (.int .i64 k))])
   (fun k => [(1, some (.box [.d (.int .i64 bag.length), .d (.pl (AT.map eAtom)), .d (.pl OU)])), (2, some (.box [.d (.sl none none []), .d (.sl none none []), .d (.sl none none [])])), (4, some (.box [.own 901 0 i, .own 902 0 i, .d (.sl none none [])])), (901, some (.row 48 1 RA)), (902, some (.row 33 2 RB)), (21, some (.row 33 2 (((AT.take k).map fun a => r01 (a.vars.contains v)).map eQ)))]) (fun k => AT.length - k) 0 (by simp) (by simp) (by simp) ?_
  intro k hs2 t2 m2 hk hh2
  by_cases hkn : k < AT.length
  ·have hwk := wr1 (i := k) (by omega)
   have hL3 : LenOk 16 (k + 1) := ⟨by omega, by simp only [maxLen]; omega⟩
   obtain ⟨a, ha⟩ : ∃ a, a = AT[k] := ⟨_, rfl⟩
   obtain ⟨U, hU⟩ : ∃ U, U = ((AT.take k).map fun a => r01 (a.vars.contains v)).map eQ := ⟨_, rfl⟩
   have hUl : U.length = k := by rw [hU]; simp; omega
   have s5 : List.take (k + 1) (List.map (eQ ∘ fun a => r01 (decide (v ∈ a.vars))) AT) = U ++ [[.int .i64 (if v ∈ a.vars then 1 else 0), .int .i64 1]] := by
    rw [List.take_succ_eq_append_getElem (by simpa using hkn)]
    simp [-eQ_def, hU, <- ha, r01_eQ, List.contains_eq_mem]
   have hcon := w_spec_ContainsVariable a v
   rw [hvi] at hcon
   have hae : (eAtom a).map V.d = [V.d (.str a.rel), V.d (.pl (a.vars.map cI))] := by simp [eAtom, cStr]
   rw [hae] at hcon
   rw [<- hU]
   refine anyQ fun Z => ?_
   simp [hkn, hlt, <- ha, eAtom, cStr, ]
   refine call_f hcon (by simp) rfl fun hs3 hh3 => ?_
   try simp at hh3
   by_cases hvm : v ∈ a.vars
   ·rw [if_pos hvm] at s5
    rw [hvi] at hvm
    simp [hvm, hUl, hL3, hwk, ]
    exact back (k + 1) (by omega) (by omega) rfl (by simp <;> omega) (by simp) (by simp [s5])
   ·rw [if_neg hvm] at s5
    rw [hvi] at hvm
    simp [hvm, hUl, hL3, hwk, ]
    exact back (k + 1) (by omega) (by omega) rfl (by simp <;> omega) (by simp) (by simp [s5])
  ·have hkn2 : k = AT.length := by omega
   have hRWv : ((AT.take k).map fun a => r01 (a.vars.contains v)) = RW v := by rw [hRW, hkn2, List.take_of_length_le (Nat.le_refl _)]
   rw [hRWv]
   have hRWl : (RW v).length = k := by rw [hRW, hkn2]; simp
   have htk : ((RW v).map eQ).take k = (RW v).map eQ := List.take_of_length_le (by simp; omega)
   simp [hkn2, hRAl, hRBl, hL1, hL2, hwi, ]
   exact back2 (i + 1) (by omega) (by omega) rfl (by simp <;> omega) (by simp) (by simp [s1, s2, <- hkn2, htk])
 ·have hin : i = bag.length := by omega
  subst hin
  rw [List.take_of_length_le (Nat.le_refl _)]
  simp []
  refine loop_ruleL (X := Nat) (fun k _ => k ≤ AT.length) (fun k => [(1, .ptr 1 0 0), (2, .ptr 2 0 0), (4, .ptr 4 0 0), (9, .d (.int .i64 k))])
   (fun k => [(1, some (.box [.d (.int .i64 bag.length), .d (.pl (AT.map eAtom)), .d (.pl OU)])), (2, some (.box [.d (.sl none none []), .d (.sl none none []), .d (.sl none none [])])), (4, some (.box [.own 901 0 bag.length, .own 902 0 bag.length, .own 904 0 k])), (901, some (.row 48 1 ((bag.map RW).map (cP eQ)))), (902, some (.row 33 2 ((List.replicate bag.length (1 : _root_.Rat)).map eQ))), (904, some (.row 33 2 ((List.replicate k (1 : _root_.Rat)).map eQ)))]) (fun k => AT.length - k) ?_ ?_
  ·refine (lead_box 4 2 904 33 2 [.own 901 0 bag.length, .own 902 0 bag.length, .d (.sl none none [])] (by omega) (by omega) (by omega) (by simp) rfl).bind ?_
   rintro _ rfl
   exact Lead.of ⟨0, by omega, rfl, rfl, Nat.le_refl _, by simp, by simp⟩
  intro k hs2 t2 m2 hk hh2
  by_cases hkn : k < AT.length
  ·have hwk := wr1 (i := k) (by omega)
   have hL3 : LenOk 16 (k + 1) := ⟨by omega, by simp only [maxLen]; omega⟩
   obtain ⟨U, hU⟩ : ∃ U, U = (List.replicate k (1 : _root_.Rat)).map eQ := ⟨_, rfl⟩
   have hUl : U.length = k := by rw [hU]; simp
   have s5 : List.replicate (k + 1) [D.int .i64 1, D.int .i64 1] = U ++ [[D.int .i64 1, D.int .i64 1]] := by rw [hU, List.replicate_succ']; simp
   rw [<- hU]
   refine anyQ2 fun Z => ?_
   simp [hkn, hUl, hL3, hwk, ]
   exact back2 (k + 1) (by omega) (by omega) rfl (by simp <;> omega) (by simp) (by simp [s5])
  ·have hkn2 : k = AT.length := by omega
   subst hkn2
   simp []
   simp [List.take_of_length_le]
end
end Go.Proofs.YtaoaoijchijlcaaGreatDoor
namespace Go.Proofs.YtaoaoijchijlcaaGreatDoor
open Go.Vs Go.Proofs Go
set_option maxRecDepth 100000
set_option maxHeartbeats 1000000
section
attribute [local simp] pS cP eQ_def cI
theorem w_spec_MinimumCover (q : PQuery) (hst : ∀ a ∈ q.atoms, a.rel.length <= maxLen) (hq : queryOk q = true) : VC Tryz.prog 21 [.agg ((eQuery q).map V.d)]
  (fun _ r => ∃ x : List _root_.Rat, r = .tup [.d (.pl (x.map eQ)), .agg [.d (.int .i64 (rhoQ q).num), .d (.int .i64 ((rhoQ q).den : Int))], .d (.bool true)]) := by
 have hqe : (eQuery q).map V.d = [V.d (.int .i64 q.n), V.d (.pl (q.atoms.map eAtom)), V.d (.pl (q.out.map cI))] := by simp [eQuery]
 obtain ⟨p, hp1, hp2⟩ := wid_some hq (full_bag hq)
 have hmin := w_spec_Minimize (covM q.atoms (rangeI q.n.toNat)) q.atoms.length (bag_lp hq (full_bag hq)) p hp1
 have hcl : (covM q.atoms (rangeI q.n.toNat)).length = q.n.toNat := by simp [covM]
 rw [hcl, hp2] at hmin
 have hcov := w_spec_CoverProgram q hst hq
 obtain ⟨MA, hMA⟩ : ∃ MA, MA = covM q.atoms (rangeI q.n.toNat) := ⟨_, rfl⟩
 obtain ⟨MB, hMB⟩ : ∃ MB, MB = List.replicate q.n.toNat (1 : _root_.Rat) := ⟨_, rfl⟩
 obtain ⟨MC, hMC⟩ : ∃ MC, MC = List.replicate q.atoms.length (1 : _root_.Rat) := ⟨_, rfl⟩
 rw [<- hMA, <- hMB, <- hMC] at hmin hcov
 refine VC.ofL EP s21 (by kernel_rfl) Tryz.func21 (by rfl) (by kernel_rfl) (by simp [Tryz.f21]) (by simp [Tryz.f21]) s21_ok fun B hl => ?_
 clear hl
 simp [hqe, Tryz.f21, s21_5, s21_5, ]
 refine call_p hcov (by simp [hqe]) fun hs1 hh1 _ => ?_
 try simp at hh1
 simp [s21_5, ]
 refine call_p hmin (by simp) fun hs2 hh2 _ => ?_
 try simp at hh2
 simp [rhoQ, s21_5, ]
 exact ⟨p.1, rfl⟩
end
end Go.Proofs.YtaoaoijchijlcaaGreatDoor
namespace Go.Proofs.YtaoaoijchijlcaaGreatDoor
open Go.Vs Go.Proofs Go
set_option maxRecDepth 100000
set_option maxHeartbeats 1000000
section
attribute [local simp] plI_id plStr_id map_plI map_plStr pS cP cI cW dSl
theorem er_atomsL (l : List Atom) : erLL (l.map cAtom) = (l.map plAtom).map eAtom := erLL_map er_cAtom l
theorem er_rowsL (l : List Ints) : erLL (l.map (cS cI)) = (l.map (plS plI)).map (cP cI) := erLL_map (er_cS er_cI) l
theorem er_intsL (l : List Int) : erLL (l.map cI) = (l.map plI).map cI := erLL_map er_cI l
theorem rp_qry (m : Nat -> Option Blk) (v : Query) : rp m (.agg ((cQuery v).map V.d)) = some (.agg ((eQuery (plQuery v)).map V.d)) := by
 simp [cQuery, cS, eQuery, plQuery, plS, er_atomsL, er_intsL, rp, rpL]
theorem rp_dec (m : Nat -> Option Blk) (v : Dec) : rp m (.agg ((cDec v).map V.d)) = some (.agg ((eDec (plDec v)).map V.d)) := by
 simp [cDec, cS, eDec, plDec, plS, er_rowsL, er_intsL, rp, rpL]
theorem rp_ints (m : Nat -> Option Blk) (v : Ints) : rp m (.d (dSl cI v)) = some (.d (pS cI (plS plI v))) := by
 simp [plS, er_intsL, rp, D.er]
theorem rpL_cons {m : Nat -> Option Blk} {v v' : V} {l l' : List V} (h : rp m v = some v') (h' : rpL m l = some l') : rpL m (v :: l) = some (v' :: l') := by simp only [rpL, h, h']
theorem xQuery (q : Query) : (cQuery q).map V.d = [.d (.int .i64 q.n), .d (.sl q.atoms.id q.atoms.T (q.atoms.xs.map cAtom)), .d (.sl q.out.id q.out.T (q.out.xs.map cI))] := by simp [cQuery, cS]
theorem xDec (d : Dec) : (cDec d).map V.d = [.d (.sl d.bags.id d.bags.T (d.bags.xs.map (cS cI))), .d (.sl d.par.id d.par.T (d.par.xs.map cI))] := by simp [cDec, cS]
theorem yDec (d : PDec) : (eDec d).map V.d = [.d (.pl (d.bags.map (cP cI))), .d (.pl (d.par.map cI))] := by simp [eDec]
theorem w_laws_big (b : Sl Int) : VC Tryz.prog 5 [.d (dSl cW b)] (fun _ r => r = .d (.bool (decide (1048576 < (b.xs.length : Int))))) := by
 refine VC.of E s5 (by kernel_rfl) Tryz.func5 (by rfl) (by kernel_rfl) (by simp [Tryz.f5]) (by simp [Tryz.f5]) s5_ok fun B => ?_
 simp [Tryz.f5, ]
theorem dc_fmt (q : PQuery) (o : List Int) : (∀ p ∈ (dcP q o).par, inZ p) /\ bagsW (dcP q o).bags <= 1000 /\ (dcP q o).par.length <= 1000 := by
 cases h : ordOk q o
 ·simp [dcP, h, bagsW]
 have hd := dc_ok h
 have hb := dec_bags h
 simp only [decOk, Bool.and_eq_true, treeB, List.all_eq_true, List.mem_range, decide_eq_true_eq] at hd
 obtain ⟨⟨⟨⟨⟨hq, _⟩, ht, _⟩, hbg⟩, _⟩, _⟩ := hd
 refine ⟨fun p hp => ?_, ?_, by omega⟩
 ·obtain ⟨i, hi, rfl⟩ := List.getElem_of_mem hp
  have := ht i hi
  simp [treeAt, inR, nxP, hi] at this
  unfold inZ
  omega
 ·have h5 := dec_n1 hq
  have key : ∀ l : List (List Int), (∀ b ∈ l, bagI q.n b = true) → bagsW l ≤ 35 * l.length := by
   intro l
   induction l with
   | nil => simp [bagsW]
   | cons b r ih =>
     intro hl
     have h1 := ih fun x hx => hl x (by simp [hx])
     have h2 := hl b (by simp)
     simp only [bagI, Bool.and_eq_true] at h2
     have h3 := setOf_len h5 h2.2
     simp only [bagsW, List.length_cons]
     omega
  have := key _ hb.1
  omega
theorem w_laws_FnDecompositions (b : Sl Int) :
  VC Tryz.prog 4 [.d (dSl cW b)] (fun _ r => r = .d (.bool true)) := by
 refine VC.of E s4 (by kernel_rfl) Tryz.func4 (by rfl) (by kernel_rfl) (by simp [Tryz.f4]) (by simp [Tryz.f4]) s4_ok fun B => ?_
 simp [Tryz.f4, s4_6, s4_6, ]
 refine call_pure (w_laws_big b) rfl (by simp) rfl fun hz zz => ?_
 simp at zz
 by_cases hb : (1048576 : Int) < b.xs.length
 ·simp [hb]
 simp [hb, s4_6, ]
 refine call_some (w_spec_DrawDecompositionFromOrder b (by omega)) rfl (by simp) fun n1 hs1 r1 hn1 hm1 hp1 hr1 => ?_
 obtain ⟨q, o, rfl, kq, aq, ko⟩ := hp1.ex
 have hst := okQuery_strs kq
 have rQ : ∀ m, rpL m [.agg ((cQuery q).map V.d)] = some [.agg ((eQuery (plQuery q)).map V.d)] := fun m => rpL_cons (rp_qry m q) rfl
 have rQO : ∀ m, rpL m [.agg ((cQuery q).map V.d), .d (dSl cI o)] = some [.agg ((eQuery (plQuery q)).map V.d), .d (pS cI (plS plI o))] := fun m => rpL_cons (rp_qry m q) (rpL_cons (rp_ints m o) rfl)
 have rQX : ∀ m (d : Dec), rpL m [.agg ((cQuery q).map V.d), .agg ((cDec d).map V.d)] = some [.agg ((eQuery (plQuery q)).map V.d), .agg ((eDec (plDec d)).map V.d)] := fun m d => rpL_cons (rp_qry m q) (rpL_cons (rp_dec m d) rfl)
 have rX : ∀ m (d : Dec), rpL m [.agg ((cDec d).map V.d)] = some [.agg ((eDec (plDec d)).map V.d)] := fun m d => rpL_cons (rp_dec m d) rfl
 have rY : ∀ m (d : PDec), rpL m [.agg ((eDec d).map V.d)] = some [.agg ((eDec d).map V.d)] := fun m d => by simp [eDec, rpL, rp, D.er]
 have hI := t_impl_DecompositionFromOrder q o
 have hO1 := t_impl_SingleBagDecomposition q kq
 have hMC := w_spec_MinimumCover (plQuery q) hst
 obtain ⟨Q0, hQ⟩ : ∃ Q, Q = plQuery q := ⟨_, rfl⟩
 obtain ⟨O0, hO⟩ : ∃ O, O = plS plI o := ⟨_, rfl⟩
 rw [<- hQ] at rQ rQO rQX hI hO1 hMC hst
 rw [<- hO] at rQO hI
 have hS := w_spec_DecompositionFromOrder Q0 O0 hst
 obtain ⟨df1, df2, df3⟩ := dc_fmt Q0 O0
 have hF1 := w_impl_FormatDecomposition (dcP Q0 O0) df1 (by omega)
 have hF2 := w_spec_FormatDecomposition (dcP Q0 O0) df1 (by omega)
 simp only [xQuery] at rQ rQO
 simp only [xQuery, xDec] at rQX
 simp only [xDec] at rX
 simp only [yDec] at rY
 cases hok : ordOk Q0 O0 with
 | false =>
   rw [hok] at hI hS
   simp [xQuery, s4_6, ]
   repeat' apply And.intro
   all_goals
    refine call_some hI (by simp [xQuery]) (by simp [xQuery]) fun n2 hs2 r2 hn2 hm2 hp2 hr2 => ?_
    obtain ⟨x, rfl, px, kx, _⟩ := hp2
    simp [xQuery, xDec, yDec, s4_6, ]
    repeat' apply And.intro
    all_goals
     refine call_p hS (rQO _) fun hs3 hh3 hl3 => ?_
     simp at hh3
     simp [xQuery, xDec, yDec, s4_6, ]
     repeat' apply And.intro
     all_goals
      refine call_f hF1 (by rw [rX, px]) rfl fun hs4 hh4 => ?_
      simp [xQuery, xDec, yDec, s4_6, ]
      repeat' apply And.intro
      all_goals
       refine call_f hF2 (rY _ _) rfl fun hs5 hh5 => ?_
       have hx0 : x.bags.xs = [] := by
        have : (plDec x).bags = [] := by rw [px, dcP, hok]; rfl
        simpa [plDec, plS] using this
       simp [hx0, xQuery, xDec, yDec, s4_6, ]
 | true =>
   rw [hok] at hI hS
   have hq := (od_of hok).qok
   have hW1 := w_impl_DecompositionWidth Q0 (sbd Q0) (by simp [sbd, hq])
   rw [dwV, if_pos (sbd_ok hq), sbd_wid hq] at hW1
   have hW2 := w_impl_DecompositionWidth Q0 (dcP Q0 O0) (by omega)
   rw [dwV_ok hok] at hW2
   have hdo := dc_ok hok
   have hV1 := w_impl_IsValidDecomposition Q0 (dcP Q0 O0) (by omega)
   have hV2 := w_spec_IsValidDecomposition Q0 (dcP Q0 O0) hst (by omega)
   have hV3 := w_impl_IsValidDecomposition Q0 (sbd Q0) (by simp [sbd, hq])
   rw [hdo] at hV1 hV2
   rw [sbd_ok hq] at hV3
   obtain ⟨hle, hge⟩ := dec_rho hdo
   have hrs : smQ (rhoQ Q0) := (wid_sm hq (full_bag hq)).1
   have hws := decW_sm hok
   have hC1 := w_impl_CompareRationals (decW Q0 (dcP Q0 O0)) (rhoQ Q0) hws hrs
   have hC2 := w_impl_CompareRationals (decW Q0 (dcP Q0 O0)) 1 hws sm_one
   have hc1 : cmpQ (decW Q0 (dcP Q0 O0)) (rhoQ Q0) ≤ 0 := by
    have := mt cmpQ_gt.1 (_root_.Rat.not_lt.2 hle); omega
   have hc2 : 0 ≤ cmpQ (decW Q0 (dcP Q0 O0)) 1 := by
    have := mt cmpQ_lt.1 (_root_.Rat.not_lt.2 hge); omega
   simp [xQuery, s4_6, ]
   repeat' apply And.intro
   all_goals
    refine call_some hI (by simp [xQuery]) (by simp [xQuery]) fun n2 hs2 r2 hn2 hm2 hp2 hr2 => ?_
    obtain ⟨x, rfl, px, kx, _⟩ := hp2
    simp [xQuery, xDec, yDec, s4_6, ]
    repeat' apply And.intro
    all_goals
     refine call_p hS (rQO _) fun hs3 hh3 hl3 => ?_
     simp at hh3
     simp [xQuery, xDec, yDec, s4_6, ]
     repeat' apply And.intro
     all_goals
      refine call_f hF1 (by rw [rX, px]) rfl fun hs4 hh4 => ?_
      simp [xQuery, xDec, yDec, s4_6, ]
      repeat' apply And.intro
      all_goals
       refine call_f hF2 (rY _ _) rfl fun hs5 hh5 => ?_
       simp [xQuery, xDec, yDec, s4_6, ]
       refine call_some hO1 (by simp [xQuery]) (by simp [xQuery]) fun n6 hs6 r6 hn6 hm6 hp6 hr6 => ?_
       obtain ⟨y, rfl, py, ky, _⟩ := hp6
       simp [xQuery, xDec, yDec, s4_6, ]
       refine call_f hW1 (by rw [rQX, py]) rfl fun hs7 hh7 => ?_
       simp [xQuery, xDec, yDec, s4_6, ]
       refine call_pq (hMC hq) (rQ _) fun n8 hs8 r8 hn8 hm8 hp8 hl8 => ?_
       obtain ⟨mx, rfl⟩ := hp8
       simp [xQuery, xDec, yDec, s4_6, ]
       refine call_f hW2 (by rw [rQX, px]) rfl fun hs9 hh9 => ?_
       simp [xQuery, xDec, yDec, s4_6, ]
       refine call_f hV1 (by rw [rQX, px]) rfl fun hs10 hh10 => ?_
       simp [xQuery, xDec, yDec, s4_6, ]
       repeat' apply And.intro
       all_goals
        refine call_f hV2 (by rw [rQX, px]) rfl fun hs11 hh11 => ?_
        simp [xQuery, xDec, yDec, s4_6, ]
        repeat' apply And.intro
        all_goals
         refine call_f hV3 (by rw [rQX, py]) rfl fun hs12 hh12 => ?_
         simp [xQuery, xDec, yDec, s4_6, ]
         repeat' apply And.intro
         all_goals
          refine call_f hC1 (by simp) rfl fun hs13 hh13 => ?_
          simp [hc1, xQuery, xDec, yDec, s4_6, ]
          repeat' apply And.intro
          all_goals
           refine call_f hC2 (by simp) rfl fun hs14 hh14 => ?_
           simp [hc2, xQuery, xDec, yDec, s4_6, ]
end
end Go.Proofs.YtaoaoijchijlcaaGreatDoor
