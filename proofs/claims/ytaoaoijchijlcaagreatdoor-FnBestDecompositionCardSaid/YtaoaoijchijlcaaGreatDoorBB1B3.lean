/-
  BB1B3: a part of a proof of this seat: the value-level semantics of Go code without maps, its walk rules, the frame of a row, facts of types, schedules, walks, plain lemmas (Z5 ZF ZA ZB LBB). It holds of every program and state that its hypotheses name.
-/
import Derived.Test.YtaoaoijchijlcaaGreatDoorBB1B2
set_option linter.unusedSimpArgs false
set_option linter.unusedVariables false
set_option linter.unnecessarySimpa false
namespace Go.Proofs.YtaoaoijchijlcaaGreatDoor
open Go.Vs Go.Proofs Go
set_option maxRecDepth 100000
set_option maxHeartbeats 1000000
theorem call_qry {tA tI : Nat} {P : Program} {E : Md} {args : List Operand} {f : FuncId} {rest As : List V} {k : Nat} {dst : Option Tmp} {K : St -> Prop} {σ : St} {b : Sl Int} (c : Nat × Int) (hE : E f = true)
  (hc : VX P f [] (.ptr 1000 0 0 :: As) (some ((curD b c).map V.d)) (fun n r cs _ => QryC tA tI b n r cs)) (hvs : args.map σ.ev = .ptr k 0 0 :: rest) (hm : σ.m k = some (.box ((curD b c).map V.d)))
  (hr : rpL σ.m rest = some As) (hk : keysVL rest = [])
  (hK : ∀ (y : Query) c' n hs', σ.hs <= n -> n <= hs' -> okQuery y -> Good (cQuery y) (whQuery y) n -> (∀ g ∈ idsL (cQuery y), g < hs') -> queryOk (plQuery y) = true -> smallQ (plQuery y) -> (∀ g, y.atoms.id = some g -> y.atoms.T = some (tA, 2)) -> (∀ g, y.out.id = some g -> y.out.T = some (tI, 1)) -> curO b c' -> K ({ σ with hs := hs', m := upd σ.m k (some (.box ((curD b c').map V.d))) }.put dst (.agg ((cQuery y).map V.d)))) : vcallA P E f args (.ptr k 0 0 :: rest) dst K σ := by
 refine call_xi hE hvs hm hr (by simp [curD, dSl]) hc fun r cs' ws n hs' h1 h2 h3 h4 h5 h9 => ?_
 obtain ⟨c', y, rfl, h6, h7, h8, h10, ⟨h11, h12⟩, rfl, ho⟩ := h3.ex
 have : keysVL rest ++ keysVL ((curD b c).map V.d) = [] := by rw [hk]; simp [curD]
 rw [this]
 exact hK y c' n hs' h1 h2 h6 h7 (fun g hg => h9 g (by rw [ids_agg]; exact hg)) h8 h10 h11 h12 ho
structure QryA (b : Sl Int) (r : V) (cs : List V) : Prop where
 ex : ∃ (c' : Nat × Int) (y : Query), r = .agg ((cQuery y).map V.d) /\ okQuery y /\ QA (plQuery y) /\ cs = (curD b c').map V.d /\ curO b c'
section
attribute [local simp] pS dSl cP cI cW
theorem cAtom_len (t : Atom) : (cAtom t).length = 2 := by simp [cAtom, cStr, cS, cI]
theorem re_raw {g : Nat} {T : TypeId × Nat} {es es' : List (List D)} (h : es'.map List.length = es.map List.length) : reV (one g (.sl (some g) (some T) es')) (.d (.sl (some g) (some T) es)) = .d (.sl (some g) (some T) es') := by
 have h1 : reD (one g (.sl (some g) (some T) es')) (.sl (some g) (some T) es) = some (.sl (some g) (some T) es') := by
  simp only [reD, one, if_true]
  rw [if_pos]
  exact ⟨trivial, rfl, trivial, h⟩
 simp only [reV, h1]
theorem w_spec_l7Any (b : Sl Int) (c : Nat × Int) (hb : b.xs.length <= 1048576) (hc : curO b c) : VX Tryz.prog 67 [] [.ptr 1000 0 0] (some ((curD b c).map V.d)) (fun _ r cs _ => QryA b r cs) := by
 refine VX.of E s67 (by kernel_rfl) Tryz.func67 (by rfl) (by kernel_rfl) (by simp [Tryz.f67]) (by simp [Tryz.f67]) s67_ok ?_ ?_ fun B hB => ?_
 ·simp
 ·rintro cs h
  cases h
  simp [curD]
 simp [Tryz.f67, s67_6, s67_8, s67_12, s67_6, s67_8, s67_12, curD]
 refine call_qry c E64 (w_spec_l7Query b c hb hc) (by simp) (by simp [curD]) (by simp) (by simp) fun q c0 n0 hs0 hn0 hm0 kq Gq uq okq smq TA TI o0 => ?_
 obtain ⟨qn, ⟨qaid, qaT, qa⟩, ⟨qoid, qoT, qo⟩⟩ := q
 have hnB : B <= n0 := hn0
 have hQ : plQuery ⟨qn, ⟨qaid, qaT, qa⟩, ⟨qoid, qoT, qo⟩⟩ = ⟨qn, qa.map plAtom, qo⟩ := by simp only [plQuery, plS, map_plI, plI]
 rw [hQ] at okq smq
 have hsm := qok_small okq
 have hqv := qok_vars okq
 simp only [List.length_map] at hsm hqv
 obtain ⟨hal, hol, hat⟩ := hsm
 obtain ⟨⟨ar, ⟨avid, avT, av⟩⟩, ra, rfl⟩ : ∃ a ra, qa = a :: ra := by
  cases qa with
  | nil => simp at hqv
  | cons a r => exact ⟨a, r, rfl⟩
 have hav : 1 ≤ av.length := by
  have := (hqv.1 (plAtom ⟨ar, ⟨avid, avT, av⟩⟩) (by simp)).1
  simpa [plAtom, plS] using this
 obtain ⟨v0, rv, rfl⟩ : ∃ v rv, av = v :: rv := by
  cases av with
  | nil => simp at hav
  | cons a r => exact ⟨a, r, rfl⟩
 obtain ⟨_, hok1, hok2⟩ := kq
 have wh1 := Gq.wh.2.1
 have wh2 := Gq.wh.2.2
 obtain ⟨ga, rfl⟩ : ∃ ga, qaid = some ga := by
  cases hq : qaid with
  | none => have := wh1.1.nil hq; simp at this
  | some g => exact ⟨g, rfl⟩
 obtain rfl : qaT = some (59, 2) := TA ga rfl
 have wh3 := wh1.2 ⟨ar, ⟨avid, avT, v0 :: rv⟩⟩ (by simp)
 obtain ⟨gv, rfl⟩ : ∃ gv, avid = some gv := by
  cases hq : avid with
  | none => have := wh3.2.1.nil hq; simp at this
  | some g => exact ⟨g, rfl⟩
 obtain ⟨Tv, rfl⟩ : ∃ Tv, avT = some Tv := Option.isSome_iff_exists.1 (wh3.2.1.some (by simp))
 have eI : idsL (cQuery ⟨qn, ⟨some ga, some (59, 2), ⟨ar, ⟨some gv, some Tv, v0 :: rv⟩⟩ :: ra⟩, ⟨qoid, qoT, qo⟩⟩) = ga :: gv :: (idsLL (ra.map cAtom) ++ qoid.toList) := by
  simp [cQuery, cAtom, cStr, cS, idsL, D.ids, idsLL]
 have hnd := Gq.nd
 have hlo := Gq.lo
 rw [eI] at hnd hlo
 simp only [List.nodup_cons, List.mem_cons, List.mem_append, not_or] at hnd
 obtain ⟨⟨n1, n2, n3⟩, ⟨n4, n5⟩, n6⟩ := hnd
 have n7 := (List.nodup_append.1 n6).2.2
 have b1 : B <= ga := by have := hlo ga (by simp); omega
 have b2 : B <= gv := by have := hlo gv (by simp); omega
 have b3 : ∀ g, qoid = some g -> B <= g := fun g hg => by have := hlo g (by simp [hg]); omega
 have n3' : qoid ≠ some ga := fun h => n3 (by simp [h])
 have n5' : qoid ≠ some gv := fun h => n5 (by simp [h])
 have hn5 := queryOk_n5 okq
 simp only at hn5
 have hwn : IntKind.i64.wrap (qn + 1) = qn + 1 := wrap64_of (by omega) (by omega)
 have okA := hok1.2 ⟨ar, ⟨some gv, some Tv, v0 :: rv⟩⟩ (by simp)
 have okR : ∀ a ∈ ra, okAtom a := fun a ha => hok1.2 a (by simp [ha])
 have hal2 : ra.length <= 3 := by simp only [List.length_cons] at hal; omega
 have eC : cAtom ⟨ar, ⟨some gv, some Tv, v0 :: rv⟩⟩ = [.str ar, .sl (some gv) (some Tv) ([.int .i64 v0] :: rv.map cI)] := by simp [cAtom, cStr, cS]
 have hcur : ∀ f : Nat → Option D, (∀ j, B ≤ j ∨ f j = none) → reV f (.d (.sl b.id b.T (b.xs.map cW))) = .d (.sl b.id b.T (b.xs.map cW)) := fun f hf => reV_id _ (fun j hj => by
  rcases hf j with h | h
  ·have := hB j (.inr (by simpa [curD] using hj)); omega
  ·exact h) (by simp [tkLL_mapW])
 simp [cQuery, cS, eC, s67_6, s67_8, s67_12, curD]
 refine call_cur c0 E90 (w_spec_l1Below b c0 14 hb o0 (by omega)) (by simp) (by simp [curD]) (by simp) (by simp) fun r2 c2 hs2 hh2 hq2 hl2 o2 => ?_
 obtain ⟨u, rfl, u0, u1, _⟩ := hq2
 refine forgetG [(0, .ptr 1000 0 0), (2, .ptr 2 0 0), (3, .ptr 3 0 0), (7, .d (.int .i64 u))] [(1000, some (.box ((curD b c2).map V.d))), (2, some (.box [.d (.int .i64 0), .d (.sl none none []), .d (.sl none none [])])), (3, some (.box [.d (.int .i64 qn), .d (.sl (some ga) (some (59, 2)) ([.str ar, .sl (some gv) (some Tv) ([.int .i64 v0] :: rv.map cI)] :: ra.map cAtom)), .d (.sl qoid qoT (qo.map cI))]))] (by simp) (by simp [curD, cQuery, cS]) fun t m => ?_
 have fin : ∀ (c' : Nat × Int) (y : Query), curO b c' -> okQuery y -> QA (plQuery y) -> QryA b (.agg ((cQuery y).map V.d)) ((curD b c').map V.d) := fun c' y h1 h2 h3 => ⟨⟨c', y, rfl, h2, h3, rfl, h1⟩⟩
 by_cases e0 : u = 0
 ·subst e0
  simp [hwn, curD, s67_6, s67_8, s67_12, ]
  refine call_curK c2 E94 (w_spec_l1PickInt b c2 [0, 6, qn + 1] hb o2 (by simp) (by simp)) (by simp) (by simp [curD]) (by simp) fun r3 c3 hs3 hh3 hq3 hl3 o3 => ?_
  obtain ⟨v, rfl, hv⟩ := hq3
  simp [vendX, curD, s67_6, s67_8, s67_12, ]
  intro γ hs' h1 hg
  clear hg
  have := fin c3 ⟨v, ⟨some ga, some (59, 2), ⟨ar, ⟨some gv, some Tv, v0 :: rv⟩⟩ :: ra⟩, ⟨qoid, qoT, qo⟩⟩ o3 ⟨trivial, hok1, hok2⟩ (by have := QA.n okq hv; simpa only [plQuery, plS, map_plI, plI] using this)
  simpa [cQuery, cS, curD, eC] using this
 by_cases e1 : u = 1
 ·subst e1
  have hp0 : hpLL (ra.map cAtom) = false := hpLL_map (fun a => by simp) ra
  have L0 : LenOk 8 1 := ⟨by omega, by simp only [maxLen]; omega⟩
  have L1 : LenOk 40 (ra.length + 1 + 1) := ⟨by omega, by simp only [maxLen]; omega⟩
  have k1 : ∀ j, B ≤ j ∨ kphi (some ga) j = none := fun j => by
   by_cases h : j = ga
   ·left; omega
   ·right; simp only [kphi]; rw [if_neg (by simpa using Ne.symm h)]
  have kC := hcur _ k1
  have kO : reV (kphi (some ga)) (.d (.sl qoid qoT (qo.map cI))) = .d (.sl qoid qoT (qo.map cI)) := reV_id (.d (dSl cI ⟨qoid, qoT, qo⟩)) fun j hj => by
   have hne : j ≠ ga := fun e => by
    rcases mem_sl_ids.1 hj with h | h
    ·subst e; exact n3' h
    ·simp at h
   simp only [kphi]; rw [if_neg (by simpa using Ne.symm hne)]
  have f1 : ga ∉ idsLL ([.str ar, .sl (some gv) (some Tv) ([.int .i64 v0] :: rv.map cI)] :: ra.map cAtom) := by simp [idsLL, idsL, D.ids]; exact ⟨n1, n2⟩
  have F0 : ∀ (nm : List UInt8) (g24 : Nat), g24 ≠ ga -> ga ∉ idsLL [[.str nm, .sl (some g24) (some (3, 1)) [[.int .i64 0]]]] := fun nm g24 h => by simp [idsLL, idsL, D.ids]; exact Ne.symm h
  have KE : ∀ (nm : List UInt8) (g24 : Nat), g24 ≠ ga → reLL (kphi (some ga)) ([.str ar, .sl (some gv) (some Tv) ([.int .i64 v0] :: rv.map cI)] :: (ra.map cAtom ++ [[.str nm, .sl (some g24) (some (3, 1)) [[.int .i64 0]]]])) = some ([.str ar, .sl (some gv) (some Tv) ([.int .i64 v0] :: rv.map cI)] :: (ra.map cAtom ++ [[.str nm, .sl (some g24) (some (3, 1)) [[.int .i64 0]]]])) := fun nm g24 h => by
   have e : [.str ar, .sl (some gv) (some Tv) ([.int .i64 v0] :: rv.map cI)] :: (ra.map cAtom ++ [[.str nm, .sl (some g24) (some (3, 1)) [[D.int .i64 0]]]]) = ((⟨ar, ⟨some gv, some Tv, v0 :: rv⟩⟩ : Atom) :: ra ++ [(⟨nm, ⟨some g24, some (3, 1), [0]⟩⟩ : Atom)]).map cAtom := by simp [cAtom, cStr, cS]
   refine reLL_id _ (fun j hj => ?_) (by rw [e]; exact tkLL_map _ (by simp))
   have hne : j ≠ ga := fun e => by
    subst e
    rw [<- List.cons_append, idsLL_append] at hj
    rcases List.mem_append.1 hj with h2 | h2
    ·exact f1 h2
    ·exact F0 nm g24 h h2
   simp only [kphi]; rw [if_neg (by simpa using Ne.symm hne)]
  simp [curD, s67_6, s67_8, s67_12, ]
  repeat' apply And.intro
  all_goals
   refine call_curK c2 E89 (w_spec_l1Pick b c2 [[], [119], [114]] hb o2 (by simp) (by simp)) (by simp) (by simp [curD]) (by simp [cStr]) fun r3 c3 hs3 hh3 hq3 hl3 o3 => ?_
   obtain ⟨nm, rfl, hnm⟩ := hq3
   have hnl : nm.length ≤ 10 := by
    simp only [List.mem_cons, List.not_mem_nil, or_false] at hnm
    rcases hnm with rfl | rfl | rfl <;> simp
   simp [curD, s67_6, s67_8, s67_12, ]
   rw [w_bs1 (k' := 24) (ks := []) _ _ _ (by simp) (by simp)]
   intro γ hs4 h1 hg
   obtain ⟨q1, q2⟩ := gam_at hg (k := 24) (T := 3) (sz := 1) (es := [[.int .i64 0]]) (by simp)
   obtain ⟨g24, h24⟩ := Option.ne_none_iff_exists'.1 (q2 (by simp))
   have qf : g24 ≠ ga := fun e => by
    have hb := (hg.fr 24 3 1 [[.int .i64 0]] g24 (by simp) h24).1.box 3 [.d (.int .i64 qn), .d (.sl (some ga) (some (59, 2)) ([.str ar, .sl (some gv) (some Tv) ([.int .i64 v0] :: rv.map cI)] :: ra.map cAtom)), .d (.sl qoid qoT (qo.map cI))] (by simp)
    simp [idsVL, V.ids, D.ids, e] at hb
   clear hg
   have f0 := F0 nm g24 qf
   have kE := KE nm g24 qf
   simp [vpre, vnext, veff, vval, isPure, St.frzs, St.frz, Vs.frz, hpLL, hpL, D.hp, h24, St.kill, b1, f0, f1, L1, kC, kO, kE, vendX, List.take_of_length_le, curD, s67_6, s67_8, s67_12, ]
   refine ⟨fun a _ => cAtom_len a, ?_⟩
   intro γ2 hs' h1' hg
   clear hg
   have := fin c3 ⟨qn, ⟨γ2 27, some (59, 2), ⟨ar, ⟨some gv, some Tv, v0 :: rv⟩⟩ :: ra ++ [⟨nm, ⟨some g24, some (3, 1), [0]⟩⟩]⟩, ⟨qoid, qoT, qo⟩⟩ o3 ⟨trivial, ⟨by simp [maxLen]; omega, fun a ha => by
    rcases List.mem_append.1 ha with h | h
    ·rcases List.mem_cons.1 h with h | h
     ·rw [h]; exact okA
     ·exact okR a h
    ·rw [List.mem_singleton.1 h]; exact ⟨by show nm.length ≤ maxLen; simp only [maxLen]; omega, by simp [maxLen], fun _ _ => trivial⟩⟩, hok2⟩ (by
     have := QA.atom okq smq hnl
     simpa [plQuery, plAtom, plS, map_plI, plI, plStr] using this)
   simpa [cQuery, cS, curD, cAtom, cStr] using this
 by_cases e2 : u = 2
 ·subst e2
  have L0 : LenOk 8 1 := ⟨by omega, by simp only [maxLen]; omega⟩
  have hp0 : hpLL (qo.map cI) = false := hpLL_mapI _
  have hol' : qo.length <= 5 := hol
  have L1 : LenOk 8 (qo.length + 1) := ⟨by omega, by simp only [maxLen]; omega⟩
  simp [curD, s67_6, s67_8, s67_12, ]
  repeat' apply And.intro
  all_goals
   refine call_cur c2 E90 (w_spec_l1Below b c2 6 hb o2 (by omega)) (by simp) (by simp [curD]) (by simp) (by simp) fun r3 c3 hs3 hh3 hq3 hl3 o3 => ?_
   obtain ⟨x, rfl, x0, x1, _⟩ := hq3
   have x1 := x1 (by omega)
   have hwx : IntKind.i64.wrap (x - 1) = x - 1 := wrap64_of (by omega) (by omega)
   have done := fun g T => fin c3 ⟨qn, ⟨some ga, some (59, 2), ⟨ar, ⟨some gv, some Tv, v0 :: rv⟩⟩ :: ra⟩, ⟨g, T, qo ++ [x - 1]⟩⟩ o3 ⟨trivial, hok1, ⟨by simp only [List.length_append, List.length_singleton, maxLen]; omega, fun _ _ => trivial⟩⟩ (by have := QA.out (v := x - 1) okq smq; simpa only [plQuery, plS, map_plI, plI] using this)
   cases hq : qoid with
   | none =>
     have hq0 : qo = [] := by have := wh2.1.nil hq; simpa using this
     subst hq0
     cases qoT with
     | none =>
       simp [hwx, L0, vendX, curD, s67_6, s67_8, s67_12, ]
       intro γ hs' h1 hg
       clear hg
       simpa [cQuery, cS, curD, eC] using done (γ 37) (some (3, 1))
     | some T =>
       simp [hwx, L0, vendX, curD, s67_6, s67_8, s67_12, ]
       intro γ hs' h1 hg
       clear hg
       simpa [cQuery, cS, curD, eC] using done (γ 37) (some (3, 1))
   | some go =>
     obtain rfl : qoT = some (3, 1) := TI go hq
     have hgo := b3 go hq
     have k1 : ∀ j, B ≤ j ∨ kphi (some go) j = none := fun j => by
      by_cases h : j = go
      ·left; omega
      ·right; simp only [kphi]; rw [if_neg (by simpa using Ne.symm h)]
     have kC := hcur _ k1
     have kA : reV (kphi (some go)) (.d (.sl (some ga) (some (59, 2)) ([.str ar, .sl (some gv) (some Tv) ([.int .i64 v0] :: rv.map cI)] :: ra.map cAtom))) = .d (.sl (some ga) (some (59, 2)) ([.str ar, .sl (some gv) (some Tv) ([.int .i64 v0] :: rv.map cI)] :: ra.map cAtom)) := reV_id _ (fun j hj => by
      have hne : j ≠ go := fun e => by
       subst e
       simp [V.ids, D.ids, idsLL, idsL] at hj
       rcases hj with h | h | h
       ·subst h; exact n3' hq
       ·subst h; exact n5' hq
       ·exact n7 j h j (by simp [hq]) rfl
      simp only [kphi]; rw [if_neg (by simpa using Ne.symm hne)]) (by simp [V.tk, D.tk, tkLL, tkL, tkLL_map])
     have kE : reLL (kphi (some go)) (qo.map cI ++ [[.int .i64 (x - 1)]]) = some (qo.map cI ++ [[.int .i64 (x - 1)]]) := by
      have e : qo.map cI ++ [[D.int .i64 (x - 1)]] = (qo ++ [x - 1]).map cI := by simp
      rw [e]
      have hid : ∀ L : List Int, idsLL (L.map cI) = [] := fun L => by simp
      exact reLL_id _ (fun j hj => by rw [hid] at hj; cases hj) (tkLL_map _ (by simp))
     have f9 : go ∉ idsLL [[D.int .i64 (x - 1)]] := by simp [idsLL, idsL, D.ids]
     simp [hwx, St.kill, hgo, L1, kC, kA, kE, f9, vendX, List.take_of_length_le, curD, s67_6, s67_8, s67_12, ]
     intro γ hs' h1 hg
     clear hg
     simpa [cQuery, cS, curD, eC] using done (γ 37) (some (3, 1))
 by_cases e3 : u = 3
 ·subst e3
  have eR := re_raw (g := ga) (T := (59, 2)) (es := [.str ar, .sl (some gv) (some Tv) ([.int .i64 v0] :: rv.map cI)] :: ra.map cAtom) (es' := [.str ar, .sl none none []] :: ra.map cAtom) (by simp)
  have eC3 : ∀ d, reV (one ga d) (.d (.sl b.id b.T (b.xs.map cW))) = .d (.sl b.id b.T (b.xs.map cW)) := fun d => hcur _ fun j => by
   by_cases h : j = ga
   ·left; omega
   ·exact .inr (one_out h)
  have eO3 : ∀ d, reV (one ga d) (.d (.sl qoid qoT (qo.map cI))) = .d (.sl qoid qoT (qo.map cI)) := fun d => reV_id (.d (dSl cI ⟨qoid, qoT, qo⟩)) fun j hj => one_out fun e => by
   rcases mem_sl_ids.1 hj with h | h
   ·subst e; exact n3' h
   ·simp at h
  simp [b1, n1, n2, idsLL, idsL, D.ids, eR, eC3, eO3, vendX, curD, s67_6, s67_8, s67_12, ]
  intro γ hs' h1 hg
  clear hg
  have := fin c2 ⟨qn, ⟨some ga, some (59, 2), ⟨ar, nilS⟩ :: ra⟩, ⟨qoid, qoT, qo⟩⟩ o2 ⟨trivial, ⟨hok1.1, fun a ha => by
   rcases List.mem_cons.1 ha with h | h
   ·rw [h]; exact ⟨okA.1, ok_nilS⟩
   ·exact okR a h⟩, hok2⟩ (by
    have := QA.set (a' := ⟨ar, []⟩) okq smq rfl (by simp) (.inl rfl)
    simpa [plQuery, plAtom, plS, map_plI, plI, plStr, nilS] using this)
  simpa [cQuery, cS, curD, cAtom, cStr, nilS] using this
 by_cases e4 : u = 4
 ·subst e4
  have eC4 : ∀ d, reV (one gv d) (.d (.sl b.id b.T (b.xs.map cW))) = .d (.sl b.id b.T (b.xs.map cW)) := fun d => hcur _ fun j => by
   by_cases h : j = gv
   ·left; omega
   ·exact .inr (one_out h)
  have eO4 : ∀ d, reV (one gv d) (.d (.sl qoid qoT (qo.map cI))) = .d (.sl qoid qoT (qo.map cI)) := fun d => reV_id (.d (dSl cI ⟨qoid, qoT, qo⟩)) fun j hj => one_out fun e => by
   rcases mem_sl_ids.1 hj with h | h
   ·subst e; exact n5' h
   ·simp at h
  have eR : ∀ x : Int, reV (one gv (.sl (some gv) (some Tv) ([.int .i64 x] :: rv.map cI))) (.d (.sl (some ga) (some (59, 2)) ([.str ar, .sl (some gv) (some Tv) ([.int .i64 v0] :: rv.map cI)] :: ra.map cAtom))) = .d (.sl (some ga) (some (59, 2)) ([.str ar, .sl (some gv) (some Tv) ([.int .i64 x] :: rv.map cI)] :: ra.map cAtom)) := fun x => by
   have h1 : reLL (one gv (.sl (some gv) (some Tv) ([.int .i64 x] :: rv.map cI))) (ra.map cAtom) = some (ra.map cAtom) := reLL_id _ (fun j hj => one_out fun e => n4 (e ▸ hj)) (tkLL_map _ (by simp))
   have h2 : one gv (.sl (some gv) (some Tv) ([.int .i64 x] :: rv.map cI)) ga = none := one_out n1
   have h3 : one gv (.sl (some gv) (some Tv) ([.int .i64 x] :: rv.map cI)) gv = some (.sl (some gv) (some Tv) ([.int .i64 x] :: rv.map cI)) := by simp [one]
   simp [reV, reD, reLL, reL, h1, h2, h3]
  simp [curD, s67_6, s67_8, s67_12, ]
  repeat' apply And.intro
  all_goals
   refine call_curK c2 E94 (w_spec_l1PickInt b c2 [-1, 5] hb o2 (by simp) (by simp)) (by simp) (by simp [curD]) (by simp) fun r3 c3 hs3 hh3 hq3 hl3 o3 => ?_
   obtain ⟨x, rfl, hx⟩ := hq3
   simp [b2, n1, n2, idsLL, idsL, D.ids, eR, eC4, eO4, vendX, curD, s67_6, s67_8, s67_12, ]
   intro γ hs' h1 hg
   clear hg
   have := fin c3 ⟨qn, ⟨some ga, some (59, 2), ⟨ar, ⟨some gv, some Tv, x :: rv⟩⟩ :: ra⟩, ⟨qoid, qoT, qo⟩⟩ o3 ⟨trivial, ⟨hok1.1, fun a ha => by
    rcases List.mem_cons.1 ha with h | h
    ·rw [h]; exact ⟨okA.1, by have := okA.2.1; simpa using this, fun _ _ => trivial⟩
    ·exact okR a h⟩, hok2⟩ (by
     have := QA.set (a' := ⟨ar, x :: rv⟩) okq smq rfl (by simp [plAtom, plS]) (.inr ⟨x, by simp, by simp only [List.mem_cons, List.not_mem_nil, or_false] at hx; omega⟩)
     simpa [plQuery, plAtom, plS, map_plI, plI, plStr] using this)
   simpa [cQuery, cS, curD, cAtom, cStr] using this
 simp [vendX, e0, e1, e2, e3, e4, curD, s67_6, s67_8, s67_12, ]
 intro γ hs' h1 hg
 clear hg
 have := fin c2 ⟨qn, ⟨some ga, some (59, 2), ⟨ar, ⟨some gv, some Tv, v0 :: rv⟩⟩ :: ra⟩, ⟨qoid, qoT, qo⟩⟩ o2 ⟨trivial, hok1, hok2⟩ (by have := QA.of okq smq; simpa only [plQuery, plS, map_plI, plI] using this)
 simpa [cQuery, cS, curD, eC] using this
end
end Go.Proofs.YtaoaoijchijlcaaGreatDoor
namespace Go.Proofs.YtaoaoijchijlcaaGreatDoor
open Go.Vs Go.Proofs Go
set_option maxRecDepth 100000
set_option maxHeartbeats 1000000
section
attribute [local simp] pS dSl cP cI cW
theorem w_spec_l30Small (b : Sl Int) (c : Nat × Int) (hb : b.xs.length <= 1048576) (hc : curO b c) : VX Tryz.prog 24 [] [.ptr 1000 0 0] (some ((curD b c).map V.d)) (fun _ r cs _ => QryA b r cs) := by
 refine VX.of E s24 (by kernel_rfl) Tryz.func24 (by rfl) (by kernel_rfl) (by simp [Tryz.f24]) (by simp [Tryz.f24]) s24_ok ?_ ?_ fun B hB => ?_
 ·simp
 ·rintro cs h
  cases h
  simp [curD]
 simp [Tryz.f24, curD]
 refine call_qry c E64 (w_spec_l7Query b c hb hc) (by simp) (by simp [curD]) (by simp) (by simp) fun q c0 n0 hs0 hn0 hm0 kq Gq uq okq smq TA TI o0 => ?_
 obtain ⟨qn, ⟨qaid, qaT, qa⟩, ⟨qoid, qoT, qo⟩⟩ := q
 have hqa := QA.of okq smq
 clear Gq TA TI
 have fin : ∀ (c' : Nat × Int) (y : Query), curO b c' -> okQuery y -> QA (plQuery y) -> QryA b (.agg ((cQuery y).map V.d)) ((curD b c').map V.d) := fun c' y h1 h2 h3 => ⟨⟨c', y, rfl, h2, h3, rfl, h1⟩⟩
 by_cases h4 : 4 < qn
 ·simp [h4, cQuery, cS, curD, ]
  refine call_some (e_spec_ParseQuery [40, 88, 41, 61, 114, 40, 88, 89, 41, 44, 115, 40, 89, 90, 41, 44, 116, 40, 90, 85, 41] (by decide)) (by simp) (by simp) fun n1 hs1 r1 hn1 hm1 hp1 hr1 => ?_
  obtain ⟨y, rfl, py, ky, Gy, TA, TI⟩ := hp1
  have qy : QA (plQuery y) := by rw [py]; exact QA.of (known_ok _ (by simp [knownQ])) (known_small _ (by simp [knownQ]))
  clear Gy TA TI
  obtain ⟨yn, ⟨yaid, yaT, ya⟩, ⟨yoid, yoT, yo⟩⟩ := y
  simp [cQuery, cS, curD, ]
  refine call_cur c0 E66 (w_spec_l1Once b c0 14 hb o0 (by omega)) (by simp) (by simp [curD]) (by simp) (by simp) fun r2 c2 hs2 hh2 hq2 hl2 o2 => ?_
  obtain ⟨u, rfl⟩ := hq2
  cases u
  ·simp [vendX, cQuery, cS, curD, ]
   intro γ hs' h1 hg
   clear hg
   simpa [cQuery, cS, curD] using fin c2 ⟨yn, ⟨yaid, yaT, ya⟩, ⟨yoid, yoT, yo⟩⟩ o2 ky qy
  simp [cQuery, cS, curD, ]
  refine call_cp c2 E67 (w_spec_l7Any b c2 hb o2) (by simp) (by simp [curD]) (by simp) (by simp) fun r cs hs3 hh3 hp3 => ?_
  obtain ⟨c3, ⟨zn, ⟨zaid, zaT, za⟩, ⟨zoid, zoT, zo⟩⟩, rfl, kz, qz, rfl, o3⟩ := hp3.ex
  simp [vendX, cQuery, cS, curD, ]
  intro γ hs' h1 hg
  clear hg
  simpa [cQuery, cS, curD] using fin c3 ⟨zn, ⟨zaid, zaT, za⟩, ⟨zoid, zoT, zo⟩⟩ o3 kz qz
 ·simp [h4, cQuery, cS, curD, ]
  refine call_cur c0 E66 (w_spec_l1Once b c0 14 hb o0 (by omega)) (by simp) (by simp [curD]) (by simp) (by simp) fun r2 c2 hs2 hh2 hq2 hl2 o2 => ?_
  obtain ⟨u, rfl⟩ := hq2
  cases u
  ·simp [vendX, cQuery, cS, curD, ]
   intro γ hs' h1 hg
   clear hg
   simpa [cQuery, cS, curD] using fin c2 ⟨qn, ⟨qaid, qaT, qa⟩, ⟨qoid, qoT, qo⟩⟩ o2 kq hqa
  simp [cQuery, cS, curD, ]
  refine call_cp c2 E67 (w_spec_l7Any b c2 hb o2) (by simp) (by simp [curD]) (by simp) (by simp) fun r cs hs3 hh3 hp3 => ?_
  obtain ⟨c3, ⟨zn, ⟨zaid, zaT, za⟩, ⟨zoid, zoT, zo⟩⟩, rfl, kz, qz, rfl, o3⟩ := hp3.ex
  simp [vendX, cQuery, cS, curD, ]
  intro γ hs' h1 hg
  clear hg
  simpa [cQuery, cS, curD] using fin c3 ⟨zn, ⟨zaid, zaT, za⟩, ⟨zoid, zoT, zo⟩⟩ o3 kz qz
end
end Go.Proofs.YtaoaoijchijlcaaGreatDoor
namespace Go.Proofs.YtaoaoijchijlcaaGreatDoor
open Go.Vs Go.Proofs Go
set_option maxRecDepth 100000
set_option maxHeartbeats 1000000
section
attribute [local simp] pS cP cI cB
theorem w_spec_l10Ear (q : PQuery) (l : List Bool) (hq : queryOk q = true) (hll : l.length = q.atoms.length) : VC Tryz.prog 101 [.agg ((eQuery q).map V.d), .d (.pl (l.map cB))]
  (fun _ r => ∃ x y : Int, r = .tup [.d (.int .i64 x), .d (.int .i64 y)] /\ EarR q l x y) := by
 have hqe : (eQuery q).map V.d = [V.d (.int .i64 q.n), V.d (.pl (q.atoms.map eAtom)), V.d (.pl (q.out.map cI))] := by simp [eQuery]
 have h5 := dec_n1 hq
 obtain ⟨N, hN⟩ : ∃ N : Nat, q.n = N := ⟨q.n.toNat, by omega⟩
 have hA4 : q.atoms.length ≤ 4 := by
  simp only [queryOk, inR, Bool.and_eq_true, decide_eq_true_eq] at hq
  omega
 have hear : ∀ i k, i < l.length → k < l.length → (∀ h, l[i]'h = true) → (∀ h, l[k]'h = true) → i ≠ k → erfB q.atoms l N i k = true → EarR q l i k := fun i k hi hk h1 h2 hne hf =>
  .inr ⟨i, k, rfl, rfl, by omega, by omega, ear_of hq ((lfP_at hi).2 (h1 hi)) ((lfP_at hk).2 (h2 hk)) hne (by rw [hN, Int.toNat_natCast]; exact hf)⟩
 have hno : EarR q l (-1) (-1) := .inl (by omega)
 obtain ⟨A, hA⟩ : ∃ A, A = q.atoms := ⟨_, rfl⟩
 obtain ⟨QO, hQO⟩ : ∃ QO, QO = q.out.map cI := ⟨_, rfl⟩
 obtain ⟨ats, has⟩ : ∃ ats, ats = A.map eAtom := ⟨_, rfl⟩
 rw [<- hA, <- hQO, hN] at hqe
 rw [<- has] at hqe
 rw [<- hA] at hear hA4 hll
 have hasl : ats.length = A.length := by rw [has]; simp
 have hat : ∀ j (h : j < A.length), ∃ nm, ats[j]'(by omega) = [.str nm, .pl (A[j].vars.map cI)] ∧ ∀ v : Int, VC Tryz.prog 31 [.agg [.d (.str nm), .d (.pl (A[j].vars.map cI))], .d (.int .i64 v)] (fun _ r => r = .d (.bool (A[j].vars.contains v))) := fun j h => by
  refine ⟨A[j].rel, by subst has; simp [eAtom, cStr], fun v => ?_⟩
  have := w_spec_ContainsVariable A[j] v
  simpa [eAtom, cStr] using this
 refine VC.ofL EP s101 (by kernel_rfl) Tryz.func101 (by rfl) (by kernel_rfl) (by simp [Tryz.f101]) (by simp [Tryz.f101]) s101_ok fun B hl => ?_
 clear hl
 simp [hqe, Tryz.f101, ]
 refine loop_rule (X := Nat) (fun i => i <= A.length) (fun i => [(1, .d (.pl (l.map cB))), (2, .ptr 2 0 0), (6, .d (.int .i64 i))]) (fun _ => [(2, some (.box [.d (.int .i64 N), .d (.pl ats), .d (.pl QO)]))]) (fun i => A.length - i) 0 (by simp) (by simp) (by simp) ?_
 intro i hs1 t1 m1 hi hh1
 by_cases hlt : i < A.length
 ·have hwi := wr1 (i := i) (by omega)
  obtain ⟨nmi, hai, hvi⟩ := hat i hlt
  have hli : i < l.length := by omega
  simp [hasl, hlt, ]
  refine loop_rule (X := Nat) (fun k => k <= A.length) (fun k => [(1, .d (.pl (l.map cB))), (2, .ptr 2 0 0), (6, .d (.int .i64 i)), (7, .d (.int .i64 k))]) (fun _ => [(2, some (.box [.d (.int .i64 N), .d (.pl ats), .d (.pl QO)]))]) (fun k => A.length - k) 0 (by simp) (by simp) (by simp) ?_
  intro k hs2 t2 m2 hk hh2
  by_cases hkl : k < A.length
  ·have hwk := wr1 (i := k) (by omega)
   obtain ⟨nmk, hak, hvk⟩ := hat k hkl
   have hlk : k < l.length := by omega
   have hgi : l.getD i false = l[i] := by simp [List.getD_eq_getElem?_getD, hli]
   cases hLi : l[i]
   ·simp [hasl, hkl, hli, hLi, hwk, ]
    exact back (k + 1) (by omega) (by omega) rfl (by simp <;> omega) (by simp) (by simp)
   cases hLk : l[k]
   ·simp [hasl, hkl, hli, hlk, hLi, hLk, hwk, ]
    exact back (k + 1) (by omega) (by omega) rfl (by simp <;> omega) (by simp) (by simp)
   by_cases hik : i = k
   ·subst hik
    simp [hasl, hkl, hli, hlk, hLi, hLk, hwk, ]
    exact back (i + 1) (by omega) (by omega) rfl (by simp <;> omega) (by simp) (by simp)
   have hike : ¬ (i : Int) = k := by omega
   simp [hasl, hkl, hli, hlk, hLi, hLk, hik, hike, ]
   refine loop_rule (X := Nat) (fun v => v <= N) (fun v => [(1, .d (.pl (l.map cB))), (2, .ptr 2 0 0), (6, .d (.int .i64 i)), (7, .d (.int .i64 k)), (8, .d (.bool (erfB A l v i k))), (9, .d (.int .i64 v))]) (fun _ => [(2, some (.box [.d (.int .i64 N), .d (.pl ats), .d (.pl QO)]))]) (fun v => N - v) 0 (by simp) (by simp [erf_zero]) (by simp) ?_
   intro v hs3 t3 m3 hv hh3
   by_cases hvl : v < N
   ·have hwv := wr1 (i := v) (by omega)
    have hes := erf_succ A l i k v
    rw [vAt_at hlt, vAt_at hkl] at hes
    refine anyQ fun Z => ?_
    simp [hvl, ]
    refine loop_rule (X := Nat) (fun j => j <= A.length) (fun j => [(1, .d (.pl (l.map cB))), (2, .ptr 2 0 0), (6, .d (.int .i64 i)), (7, .d (.int .i64 k)), (8, .d (.bool (erfB A l v i k))), (9, .d (.int .i64 v)), (10, .d (.bool (otT A l i v j))), (11, .d (.int .i64 j))]) (fun _ => [(2, some (.box [.d (.int .i64 N), .d (.pl ats), .d (.pl QO)]))]) (fun j => A.length - j) 0 (by simp) (by simp [otT_zero]) (by simp) ?_
    intro j hs4 t4 m4 hj hh4
    by_cases hjl : j < A.length
    ·have hwj := wr1 (i := j) (by omega)
     have hlj : j < l.length := by omega
     have hoj := otT_succ A l i v j
     rw [vAt_at hjl, show l.getD j false = l[j] by simp [List.getD_eq_getElem?_getD, hlj]] at hoj
     obtain ⟨nmj, haj, hvj⟩ := hat j hjl
     cases hT : otT A l i v j
     ·rw [hT, Bool.false_or] at hoj
      cases hLj : l[j]
      ·rw [hLj] at hoj
       simp only [Bool.false_and] at hoj
       simp [hasl, hjl, hlj, hLj, hwj, ]
       exact back (j + 1) (by omega) (by omega) rfl (by simp <;> omega) (by simp [hoj]) (by simp)
      ·rw [hLj] at hoj
       by_cases hji : j = i
       ·subst hji
        simp at hoj
        simp [hasl, hjl, hlj, hLj, hwj, ]
        exact back (j + 1) (by omega) (by omega) rfl (by simp <;> omega) (by simp [hoj]) (by simp)
       ·have hjie : ¬ (j : Int) = i := by omega
        rw [decide_eq_true (show j ≠ i from hji), Bool.true_and, Bool.true_and] at hoj
        simp [hasl, hjl, hlj, hLj, hji, hjie, haj, ]
        refine call_f (hvj v) (by simp) rfl fun hs5 hh5 => ?_
        try simp at hh5
        simp [hwj, ]
        exact back (j + 1) (by omega) (by omega) rfl (by simp <;> omega) (by simp [hoj]) (by simp)
     ·rw [hT, Bool.true_or] at hoj
      simp [hasl, hjl, hwj, ]
      exact back (j + 1) (by omega) (by omega) rfl (by simp <;> omega) (by simp [hoj]) (by simp)
    ·have hjA : j = A.length := by omega
     subst hjA
     rw [otT_all]
     cases hE : erfB A l v i k
     ·rw [hE, Bool.false_and] at hes
      simp [hasl, hwv, ]
      exact back (v + 1) (by omega) (by omega) rfl (by simp <;> omega) (by simp [hes]) (by simp)
     rw [hE, Bool.true_and] at hes
     simp [hasl, hlt, hai, ]
     refine call_f (hvi v) (by simp) rfl fun hs5 hh5 => ?_
     try simp at hh5
     cases hci : A[i].vars.contains (v : Int)
     ·rw [hci] at hes
      simp only [Bool.not_false, Bool.true_or] at hes
      simp [hwv, ]
      exact back (v + 1) (by omega) (by omega) rfl (by simp <;> omega) (by simp [hes]) (by simp)
     rw [hci] at hes
     cases hot : otB A l i v
     ·rw [hot] at hes
      simp only [Bool.not_true, Bool.not_false, Bool.false_or, Bool.true_or] at hes
      simp [hwv, ]
      exact back (v + 1) (by omega) (by omega) rfl (by simp <;> omega) (by simp [hes]) (by simp)
     rw [hot] at hes
     simp only [Bool.not_true, Bool.false_or] at hes
     simp [hasl, hkl, hak, ]
     refine call_f (hvk v) (by simp) rfl fun hs6 hh6 => ?_
     try simp at hh6
     simp [hwv, ]
     exact back (v + 1) (by omega) (by omega) rfl (by simp <;> omega) (by simp [hes]) (by simp)
   ·have hvN : v = N := by omega
    subst hvN
    cases hE : erfB A l v i k
    ·simp [hwk, ]
     exact back (k + 1) (by omega) (by omega) rfl (by simp <;> omega) (by simp) (by simp)
    ·simp []
     exact ⟨_, _, ⟨rfl, rfl⟩, hear i k hli hlk (fun _ => hLi) (fun _ => hLk) hik hE⟩
  ·have hkA : k = A.length := by omega
   subst hkA
   simp [hasl, hwi, ]
   exact back (i + 1) (by omega) (by omega) rfl (by simp <;> omega) (by simp) (by simp)
 ·have hiA : i = A.length := by omega
  subst hiA
  simp [hasl, ]
  exact ⟨_, _, ⟨rfl, rfl⟩, hno⟩
end
end Go.Proofs.YtaoaoijchijlcaaGreatDoor
namespace Go.Proofs.YtaoaoijchijlcaaGreatDoor
open Go.Vs Go.Proofs Go
set_option maxRecDepth 100000
set_option maxHeartbeats 1000000
section
attribute [local simp] pS cP cI cB
theorem w_spec_l10Run (q : PQuery) (hq : queryOk q = true) : VC Tryz.prog 76 [.agg ((eQuery q).map V.d)]
  (fun _ r => ∃ out up : List Int, r = .tup [.d (.pl (out.map cI)), .d (.pl (up.map cI))] /\ (out.length + 1 = q.atoms.length -> Gyo q.atoms (fun j => j < q.atoms.length))) := by
 have hqe : (eQuery q).map V.d = [V.d (.int .i64 q.n), V.d (.pl (q.atoms.map eAtom)), V.d (.pl (q.out.map cI))] := by simp [eQuery]
 have hA4 : q.atoms.length ≤ 4 := by
  simp only [queryOk, inR, Bool.and_eq_true, decide_eq_true_eq] at hq
  omega
 have hear := fun l hl => w_spec_l10Ear q l hq hl
 have hER : ∀ l x y, EarR q l x y -> x < 0 \/ ∃ i k : Nat, x = i /\ y = k /\ i < q.atoms.length /\ k < q.atoms.length /\ Ear q.atoms (lfP l) i k := fun l x y h => h
 obtain ⟨A, hA⟩ : ∃ A, A = q.atoms := ⟨_, rfl⟩
 obtain ⟨QO, hQO⟩ : ∃ QO, QO = q.out.map cI := ⟨_, rfl⟩
 obtain ⟨ats, has⟩ : ∃ ats, ats = A.map eAtom := ⟨_, rfl⟩
 rw [<- hA, <- hQO] at hqe
 rw [<- has] at hqe
 rw [<- hA] at hear hA4 hER ⊢
 have hasl : ats.length = A.length := by rw [has]; simp
 refine VC.ofL EP s76 (by kernel_rfl) Tryz.func76 (by rfl) (by kernel_rfl) (by simp [Tryz.f76]) (by simp [Tryz.f76]) s76_ok fun B hl => ?_
 clear hl
 have hL1 : LenOk 1 A.length := ⟨by omega, by simp only [maxLen]; omega⟩
 have hL8 : LenOk 8 A.length := ⟨by omega, by simp only [maxLen]; omega⟩
 simp [hqe, hasl, hL1, hL8, Tryz.f76, ]
 refine loop_rule (X := Nat) (fun v => v ≤ A.length) (fun v => [(1, .ptr 1 0 0), (4, .own 10 0 0), (5, .own 14 0 A.length), (6, .own 18 0 A.length), (7, .d (.int .i64 v))])
  (fun v => [(1, some (.box [.d (.int .i64 q.n), .d (.pl ats), .d (.pl QO)])), (10, some (.row 3 1 [])), (14, some (.row 3 1 (fill [.int .i64 0] (List.replicate A.length [.int .i64 (-1)]) v))), (18, some (.row 4 1 (fill [.bool false] (List.replicate A.length [.bool true]) v)))]) (fun v => A.length - v) 0 (by simp) (by simp) (by simp) ?_
 intro v hs1 t1 m1 hv hh1
 by_cases hvl : v < A.length
 ·have hwv := wr1 (i := v) (by omega)
  have f1 := fill_set (z := [D.int .i64 0]) (e := [D.int .i64 (-1)]) (l := List.replicate A.length [D.int .i64 (-1)]) (i := v) (by simpa using hvl) (by simp [hvl])
  have f2 := fill_set (z := [D.bool false]) (e := [D.bool true]) (l := List.replicate A.length [D.bool true]) (i := v) (by simpa using hvl) (by simp [hvl])
  refine anyQ fun Z => ?_
  simp [hvl, f1, f2, hwv, ]
  exact back (v + 1) (by omega) (by omega) rfl (by simp <;> omega) (by simp) (by simp)
 have hvA : v = A.length := by omega
 subst hvA
 rw [fill_all (by simp), fill_all (by simp)]
 simp []
 have hst := RnI.start A
 refine loop_rule (X := List Bool × List Int × List Int) (fun x => RnI A x.1 x.2.1 x.2.2) (fun x => [(1, .ptr 1 0 0), (4, .own 10 0 x.2.1.length), (5, .own 14 0 A.length), (6, .own 18 0 A.length)])
  (fun x => [(1, some (.box [.d (.int .i64 q.n), .d (.pl ats), .d (.pl QO)])), (10, some (.row 3 1 (x.2.1.map cI))), (14, some (.row 3 1 (x.2.2.map cI))), (18, some (.row 4 1 (x.1.map cB)))]) (fun x => cntT x.1) (List.replicate A.length true, [], List.replicate A.length (-1)) hst (by simp) (by simp) ?_
 rintro ⟨l, out, up⟩ hs2 t2 m2 hI hh2
 simp only at hI
 have hll := hI.ll
 have hlu := hI.lu
 have hol : out.length <= 4 := by have := hI.cnt; omega
 have hfin := hI.fin
 simp [hll, ]
 refine call_fq (hear l hll) (by simp [hqe, List.take_of_length_le, hll]) (fun n r h => by obtain ⟨x, y, rfl, _⟩ := h; rfl) fun r n3 hs3 hn3 hm3 hp3 => ?_
 obtain ⟨x, y, rfl, hxy⟩ := hp3
 try simp at hn3
 rcases hER l x y hxy with hx | ⟨i, k, rfl, rfl, hi, hk, he⟩
 ·simp [hx, ]
  rw [if_pos (by omega), List.take_of_length_le (by simp), List.take_of_length_le (by simp [hlu])]
  exact ⟨_, ⟨_, rfl, rfl⟩, out, ⟨up, rfl⟩, hfin⟩
 ·obtain ⟨h1, h2⟩ := hI.step hi he
  have hLo : LenOk 8 (out.length + 1) := ⟨by omega, by simp only [maxLen]; omega⟩
  have e1 : (up.map cI).set i [D.int .i64 (k : Int)] = (up.set i k).map cI := by rw [List.map_set]; rfl
  have e2 : (l.map cB).set i [D.bool false] = (l.set i false).map cB := by rw [List.map_set]; rfl
  have hil : i < l.length := by omega
  have hiu : i < up.length := by omega
  simp [hLo, hi, hil, hiu, hll, hlu, e1, e2, -List.map_set, List.take_of_length_le, ]
  exact back (l.set i false, out ++ [(i : Int)], up.set i k) h1 (by simp only; omega) rfl (by simp <;> omega) (by simp) (by simp [-List.map_set])
theorem w_spec_RemovableAtoms (q : PQuery) (hst : ∀ a ∈ q.atoms, a.rel.length <= maxLen) : VC Tryz.prog 39 [.agg ((eQuery q).map V.d)]
  (fun _ r => ∃ out : List Int, r = .d (.pl (out.map cI)) /\ (queryOk q = true -> out.length + 1 = q.atoms.length -> Gyo q.atoms (fun j => j < q.atoms.length))) := by
 have hqe : (eQuery q).map V.d = [V.d (.int .i64 q.n), V.d (.pl (q.atoms.map eAtom)), V.d (.pl (q.out.map cI))] := by simp [eQuery]
 refine VC.ofL EP s39 (by kernel_rfl) Tryz.func39 (by rfl) (by kernel_rfl) (by simp [Tryz.f39]) (by simp [Tryz.f39]) s39_ok fun B hl => ?_
 clear hl
 simp [hqe, Tryz.f39, ]
 refine call_f (w_spec_IsValidQuery q hst) (by simp [hqe]) rfl fun hs0 hh0 => ?_
 try simp at hh0
 cases hok : queryOk q
 ·simp []
 ·simp []
  refine call_pq (w_spec_l10Run q hok) (by simp [hqe]) fun n1 hs1 r1 hn1 hm1 hp1 _ => ?_
  obtain ⟨out, up, rfl, hg⟩ := hp1
  simp []
  exact ⟨out, rfl, hg⟩
theorem w_spec_IsAcyclic (q : PQuery) (hst : ∀ a ∈ q.atoms, a.rel.length <= maxLen) : VC Tryz.prog 15 [.agg ((eQuery q).map V.d)]
  (fun _ r => ∃ b : Bool, r = .d (.bool b) /\ (b = true -> queryOk q = true /\ Gyo q.atoms (fun j => j < q.atoms.length))) := by
 have hqe : (eQuery q).map V.d = [V.d (.int .i64 q.n), V.d (.pl (q.atoms.map eAtom)), V.d (.pl (q.out.map cI))] := by simp [eQuery]
 refine VC.ofL EP s15 (by kernel_rfl) Tryz.func15 (by rfl) (by kernel_rfl) (by simp [Tryz.f15]) (by simp [Tryz.f15]) s15_ok fun B hl => ?_
 clear hl
 simp [hqe, Tryz.f15, s15_1, s15_1, ]
 refine call_f (w_spec_IsValidQuery q hst) (by simp [hqe]) rfl fun hs0 hh0 => ?_
 try simp at hh0
 cases hok : queryOk q
 ·simp [s15_1, ]
 ·have hm : 1 ≤ q.atoms.length ∧ q.atoms.length ≤ 4 := by
   simp only [queryOk, inR, Bool.and_eq_true, decide_eq_true_eq] at hok
   omega
  have hw : IntKind.i64.wrap ((q.atoms.length : Int) - 1) = (q.atoms.length : Int) - 1 := wrap64_of (by omega) (by omega)
  simp [s15_1, ]
  refine call_pq (w_spec_RemovableAtoms q hst) (by simp [hqe]) fun n1 hs1 r1 hn1 hm1 hp1 _ => ?_
  obtain ⟨out, rfl, hg⟩ := hp1
  simp [hw, s15_1, ]
  by_cases h : (out.length : Int) = (q.atoms.length : Int) - 1
  ·exact .inr ⟨h, hg hok (by omega)⟩
  ·exact .inl h
end
end Go.Proofs.YtaoaoijchijlcaaGreatDoor
namespace Go.Proofs.YtaoaoijchijlcaaGreatDoor
open Go.Vs Go.Proofs Go
set_option maxRecDepth 100000
set_option maxHeartbeats 1000000
section
attribute [local simp] plI_id plStr_id map_plI map_plStr pS cP cI cW dSl
theorem er_atomsL (l : List Atom) : erLL (l.map cAtom) = (l.map plAtom).map eAtom := erLL_map er_cAtom l
theorem er_rowsL (l : List Ints) : erLL (l.map (cS cI)) = (l.map (plS plI)).map (cP cI) := erLL_map (er_cS er_cI) l
theorem er_intsL (l : List Int) : erLL (l.map cI) = (l.map plI).map cI := erLL_map er_cI l
theorem rp_qry (m : Nat -> Option Blk) (v : Query) : rp m (.agg ((cQuery v).map V.d)) = some (.agg ((eQuery (plQuery v)).map V.d)) := by
 simp [cQuery, cS, eQuery, plQuery, plS, er_atomsL, er_intsL, rp, rpL]
theorem rp_dec (m : Nat -> Option Blk) (v : Dec) : rp m (.agg ((cDec v).map V.d)) = some (.agg ((eDec (plDec v)).map V.d)) := by
 simp [cDec, cS, eDec, plDec, plS, er_rowsL, er_intsL, rp, rpL]
theorem rpL_cons {m : Nat -> Option Blk} {v v' : V} {l l' : List V} (h : rp m v = some v') (h' : rpL m l = some l') : rpL m (v :: l) = some (v' :: l') := by simp only [rpL, h, h']
theorem xQuery (q : Query) : (cQuery q).map V.d = [.d (.int .i64 q.n), .d (.sl q.atoms.id q.atoms.T (q.atoms.xs.map cAtom)), .d (.sl q.out.id q.out.T (q.out.xs.map cI))] := by simp [cQuery, cS]
theorem xDec (d : Dec) : (cDec d).map V.d = [.d (.sl d.bags.id d.bags.T (d.bags.xs.map (cS cI))), .d (.sl d.par.id d.par.T (d.par.xs.map cI))] := by simp [cDec, cS]
theorem yDec (d : PDec) : (eDec d).map V.d = [.d (.pl (d.bags.map (cP cI))), .d (.pl (d.par.map cI))] := by simp [eDec]
theorem w_laws_big (b : Sl Int) : VC Tryz.prog 5 [.d (dSl cW b)] (fun _ r => r = .d (.bool (decide (1048576 < (b.xs.length : Int))))) := by
 refine VC.of E s5 (by kernel_rfl) Tryz.func5 (by rfl) (by kernel_rfl) (by simp [Tryz.f5]) (by simp [Tryz.f5]) s5_ok fun B => ?_
 simp [Tryz.f5, ]
theorem w_laws_at (b : Sl Int) (i : Nat) (hk : ∀ n ∈ b.xs, 0 <= n /\ n < 256) (h0 : i < 1000) (hb : b.xs.length <= 1048576) : VC Tryz.prog 12 [.d (dSl cW b), .d (.int .i64 i)] (fun _ r => ∃ v : Int, r = .d (.int .i64 v) /\ 0 <= v /\ v < 256) := by
 refine VC.of E s12 (by kernel_rfl) Tryz.func12 (by rfl) (by kernel_rfl) (by simp [Tryz.f12]) (by simp [Tryz.f12]) s12_ok fun B => ?_
 simp [Tryz.f12, ]
 by_cases h : i < b.xs.length
 ·have := hk b.xs[i] (List.getElem_mem h)
  simp [h, ]
  rw [wrap64_of (by omega) (by omega)]
  exact ⟨by omega, fun h' => absurd h (by omega)⟩
 ·simp [h, ]
  intro _
  rw [wrap64_of (n := (i : Int) * 37) (by omega) (by omega), wrap64_of (n := (b.xs.length : Int) * 11) (by omega) (by omega), wrap64_of (by omega) (by omega), Int.tmod_eq_emod_of_nonneg (by omega)]
  omega
theorem dord_ok {q : PQuery} (hq : queryOk q = true) : ordOk q (rangeI q.n.toNat) = true := by
 have h := full_bag hq
 have h5 := dec_n1 hq
 simp only [bagI, Bool.and_eq_true] at h
 simp only [ordOk, hq, h.2, Bool.and_true, Bool.true_and, decide_eq_true_eq, rangeI_len]
 omega
theorem bd_none {q : PQuery} (h : bdEnd q = none) : queryOk q = false := by
 cases hq : queryOk q
 ·rfl
 ·obtain ⟨c, h1, _⟩ := best_min (dord_ok hq)
  rw [h] at h1; cases h1
structure QryD (v : V) : Prop where
 ex : ∃ y : Query, v = .agg ((cQuery y).map V.d) /\ okQuery y /\ QA (plQuery y)
theorem w_spec_DrawBestDecomposition (b : Sl Int) (hb : b.xs.length <= 1048576) : VC Tryz.prog 6 [.d (dSl cW b)] (fun _ v => QryD v) := by
 refine VC.of E s6 (by kernel_rfl) Tryz.func6 (by rfl) (by kernel_rfl) (by simp [Tryz.f6]) (by simp [Tryz.f6]) s6_ok fun B => ?_
 simp [Tryz.f6, ]
 refine call_nt (w_spec_l1New b hb) (by simp) (by simp) fun ds n0 hs0 hn0 hm0 hp0 hl0 hi0 => ?_
 obtain ⟨c0, rfl, o0⟩ := hp0
 simp [curD, ]
 refine call_cp c0 E24 (w_spec_l30Small b c0 hb o0) (by simp) (by simp [curD]) (by simp) (by simp) fun r cs hs1 hh1 hp1 => ?_
 obtain ⟨c1, ⟨qn, ⟨qaid, qaT, qa⟩, ⟨qoid, qoT, qo⟩⟩, rfl, kq, aq, rfl, o1⟩ := hp1.ex
 simp [cQuery, cS, curD, ]
 exact ⟨⟨⟨qn, ⟨qaid, qaT, qa⟩, ⟨qoid, qoT, qo⟩⟩, by simp [cQuery, cS], kq, aq⟩⟩
theorem w_laws_FnBestDecomposition (b : Sl Int) (hk : ∀ n ∈ b.xs, 0 <= n /\ n < 256) :
  VC Tryz.prog 3 [.d (dSl cW b)] (fun _ r => r = .d (.bool true)) := by
 refine VC.of E s3 (by kernel_rfl) Tryz.func3 (by rfl) (by kernel_rfl) (by simp [Tryz.f3]) (by simp [Tryz.f3]) s3_ok fun B => ?_
 simp [Tryz.f3, s3_11, s3_11, ]
 refine call_pure (w_laws_big b) rfl (by simp) rfl fun hz zz => ?_
 simp at zz
 by_cases hb : (1048576 : Int) < b.xs.length
 ·simp [hb]
 simp [hb, s3_11, ]
 refine call_some (w_spec_DrawBestDecomposition b (by omega)) rfl (by simp) fun n1 hs1 r1 hn1 hm1 hp1 hr1 => ?_
 obtain ⟨q, rfl, kq, aq⟩ := hp1.ex
 have hst := okQuery_strs kq
 have rQ : ∀ m, rpL m [.agg ((cQuery q).map V.d)] = some [.agg ((eQuery (plQuery q)).map V.d)] := fun m => rpL_cons (rp_qry m q) rfl
 obtain ⟨rx, ry, hrr⟩ := bdR_ex (plQuery q) (bdEnd (plQuery q))
 have hI := t_impl_BestDecomposition q hrr
 have hS := t_spec_BestDecomposition q kq hrr
 have hIV := w_spec_IsValidQuery (plQuery q) hst
 have hAO := w_spec_AllOrders (plQuery q) hst
 have hAc := w_spec_IsAcyclic (plQuery q) hst
 have rQO : ∀ m (o : List Int), rpL m [.agg ((cQuery q).map V.d), .d (pS cI o)] = some [.agg ((eQuery (plQuery q)).map V.d), .d (pS cI o)] := fun m o => rpL_cons (rp_qry m q) (by simp [rpL, rp, er_intsL])
 have rQY : ∀ m (d : PDec), rpL m [.agg ((cQuery q).map V.d), .agg ((eDec d).map V.d)] = some [.agg ((eQuery (plQuery q)).map V.d), .agg ((eDec d).map V.d)] := fun m d => rpL_cons (rp_qry m q) (by simp [eDec, rpL, rp])
 have rQX : ∀ m (d : Dec), rpL m [.agg ((cQuery q).map V.d), .agg ((cDec d).map V.d)] = some [.agg ((eQuery (plQuery q)).map V.d), .agg ((eDec (plDec d)).map V.d)] := fun m d => rpL_cons (rp_qry m q) (rpL_cons (rp_dec m d) rfl)
 obtain ⟨Q0, hQ⟩ : ∃ Q, Q = plQuery q := ⟨_, rfl⟩
 rw [<- hQ] at rQ rQO rQY rQX hrr hI hS hIV hAO hAc hst
 simp only [xQuery] at rQ
 simp only [xQuery] at rQO
 simp only [xQuery, yDec] at rQY
 simp only [xQuery, xDec] at rQX
 simp [xQuery, s3_11, ]
 refine call_some hI (by simp [xQuery]) (by simp [xQuery]) fun n2 hs2 r2 hn2 hm2 hp2 hr2 => ?_
 obtain ⟨x, rfl, px, kx, _⟩ := hp2
 simp [xQuery, xDec, s3_11, ]
 refine call_some hS (by simp [xQuery]) (by simp [xQuery]) fun n3 hs3 r3 hn3 hm3 hp3 hr3 => ?_
 obtain ⟨y, rfl, py⟩ := hp3
 cases hO : bdEnd Q0 with
 | none =>
   have hq0 := bd_none hO
   rw [hq0] at hIV
   simp [bdO, xQuery, xDec, s3_11, ]
   refine call_f hIV (rQ _) rfl fun hs4 hh4 => ?_
   simp [s3_11, ]
 | some c =>
   have hcm : c ∈ allO Q0 := bdT_mem (Nat.le_refl _) hO
   have hco := allO_ok hcm
   have hlen : 0 < (allO Q0).length := List.length_pos_of_mem hcm
   rw [hO] at hrr
   simp only [bdR, List.cons.injEq, V.d.injEq, D.int.injEq, true_and, and_true] at hrr
   obtain ⟨rfl, rfl⟩ := hrr
   simp [bdO, xQuery, xDec, s3_11, ]
   refine call_p hAO (rQ _) fun hs4 hh4 hl4 => ?_
   simp at hh4
   simp [xQuery, xDec, s3_11, ]
   repeat' apply And.intro
   all_goals
    refine call_some (w_laws_at b 0 hk (by omega) (by omega)) rfl (by simp) fun n5 hs5 r5 hn5 hm5 hp5 hr5 => ?_
    obtain ⟨v, rfl, v0, v1⟩ := hp5
    obtain ⟨v, rfl⟩ : ∃ k : Nat, v = k := ⟨v.toNat, by omega⟩
    have hkl := Nat.mod_lt v hlen
    obtain ⟨k, hkk⟩ : ∃ k, k = v % (allO Q0).length := ⟨_, rfl⟩
    rw [<- hkk] at hkl
    have hrm : ((v : Int).tmod ((allO Q0).length : Int)) = (k : Int) := by rw [hkk, Int.tmod_eq_emod_of_nonneg (by omega)]; rfl
    obtain ⟨o, ho⟩ : ∃ o, o = (allO Q0)[k] := ⟨_, rfl⟩
    have hoo := allO_ok (show o ∈ allO Q0 by rw [ho]; exact List.getElem_mem _)
    have hne : ¬ ((allO Q0).length : Int) = 0 := by omega
    have hl0 : (allO Q0).length ≠ 0 := by omega
    simp [hrm, hkl, hl0, <- ho, xQuery, xDec, s3_11, ]
    have hdl := (dec_bags hoo).2
    have hdc := (dec_bags hco).2
    have hW1 := w_impl_DecompositionWidth Q0 (dcP Q0 o) (by omega)
    have hW2 := w_impl_DecompositionWidth Q0 (dcP Q0 c) (by omega)
    rw [dwV_ok hoo] at hW1
    rw [dwV_ok hco] at hW2
    obtain ⟨c', hc', _, hle⟩ := best_min hoo
    rw [hO] at hc'
    obtain rfl := Option.some.inj hc'
    have hcmp : cmpQ (decW Q0 (dcP Q0 c)) (decW Q0 (dcP Q0 o)) ≤ 0 := by
     have := mt cmpQ_gt.1 (_root_.Rat.not_lt.2 hle); omega
    have hCR := w_impl_CompareRationals (decW Q0 (dcP Q0 c)) (decW Q0 (dcP Q0 o)) (decW_sm hco) (decW_sm hoo)
    rw [hO] at px
    simp only [bdD] at px
    repeat' apply And.intro
    all_goals
     refine call_p (w_spec_DecompositionFromOrder Q0 o hst) (rQO _ o) fun hs6 hh6 hl6 => ?_
     simp at hh6
     simp [hoo, yDec, xQuery, xDec, s3_11, ]
     refine call_f hW1 (rQY _ _) rfl fun hs7 hh7 => ?_
     simp [yDec, xQuery, xDec, s3_11, ]
     refine call_f hW2 (by rw [rQX, px]) rfl fun hs8 hh8 => ?_
     simp [yDec, xQuery, xDec, s3_11, ]
     refine call_f hCR (by simp) rfl fun hs9 hh9 => ?_
     simp [hcmp, yDec, xQuery, xDec, s3_11, ]
     refine call_fq hAc (rQ _) (by rintro n r ⟨b, rfl, _⟩; rfl) fun r10 n10 hs10 hh10 hl10 hp10 => ?_
     obtain ⟨ab, rfl, hab⟩ := hp10
     cases ab
     ·simp [s3_11, ]
     ·obtain ⟨c2, hc2, hw1⟩ := acyc_best (hab rfl).1 (hab rfl).2
      rw [hO] at hc2
      obtain rfl := Option.some.inj hc2
      simp [hw1, s3_11, ]
end
end Go.Proofs.YtaoaoijchijlcaaGreatDoor
