/-
  B4B2: a part of a proof of this seat: the value-level semantics of Go code without maps, its walk rules, the frame of a row, facts of types, schedules, walks, plain lemmas (E1 K10 K11 W1 W2 W3 W4 W5 W6 LV2). It holds of every program and state that its hypotheses name.
-/
import Derived.Test.YtohbmjknaeenjaaB4B1
set_option linter.unusedSimpArgs false
set_option linter.unusedVariables false
set_option linter.unnecessarySimpa false
namespace Go.Proofs.Ytohbmjknaeenjaa
open Go.Vs Go.Proofs Go
set_option maxRecDepth 100000
set_option maxHeartbeats 1000000

section
attribute [local simp] plI_id plStr_id map_plI map_plStr pS cP cI cStr cU8 cB eReln eTab eDb eHist
theorem w_impl_sameInts (a b : List (Int)) : VC Try.prog 44 [.d (pS cI a), .d (pS cI b)] (fun _ r => r = .d (.bool (decide (a = b)))) := by
  refine VC.ofL EP s44 (by kernel_rfl) Try.func44 (by rfl) (by kernel_rfl) (by simp [Try.f44]) (by simp [Try.f44]) s44_ok fun B hl => ?_
  simp [pS, maxLen] at hl
  by_cases hle : a.length = b.length
  case neg => simp [Try.f44, s44_6, hle, eqt_len hle]
  simp [Try.f44, s44_6, hle]
  refine loop_rule (X := Nat) (EqTo a b) (fun i => [(0, .d (.pl (a.map (cI)))), (1, .d (.pl (b.map (cI)))), (12, .d (.int .i64 b.length)), (13, .d (.int .i64 i))]) (fun _ => []) (fun i => a.length - i) 0 .zero (by simp [hle]) (by simp) ?_
  intro i hs t m hi hh
  have hia := hi.le
  by_cases hlt : i < a.length
  · have hlb : i < b.length := by omega
    have hwi := wr1 (i := i) (by omega)
    simp [hlt, hlb, s44_6, ]
    by_cases he : a[i] = b[i]
    case neg => simp [he, eqt_bad hlt hlb he]
    simp [he, hwi]
    exact back (i + 1) ⟨by omega, eqt_step hi.eq hlt hlb he⟩ (by omega) rfl (by simp <;> omega) (by simp) (by simp)
  · have hd := eqt_done hi.eq (by omega) hle
    simp [show ¬ i < b.length by omega, hd]
theorem w_impl_sameRows (a b : List (List Int)) : VC Try.prog 43 [.d (pS (cP cI) a), .d (pS (cP cI) b)] (fun _ r => r = .d (.bool (decide (a = b)))) := by
  refine VC.ofL EP s43 (by kernel_rfl) Try.func43 (by rfl) (by kernel_rfl) (by simp [Try.f43]) (by simp [Try.f43]) s43_ok fun B hl => ?_
  simp [pS, maxLen] at hl
  by_cases hle : a.length = b.length
  case neg => simp [Try.f43, s43_6, hle, eqt_len hle]
  simp [Try.f43, s43_6, hle]
  refine loop_rule (X := Nat) (EqTo a b) (fun i => [(0, .d (.pl (a.map ((cP cI))))), (1, .d (.pl (b.map ((cP cI))))), (12, .d (.int .i64 b.length)), (13, .d (.int .i64 i))]) (fun _ => []) (fun i => a.length - i) 0 .zero (by simp [hle]) (by simp) ?_
  intro i hs t m hi hh
  have hia := hi.le
  by_cases hlt : i < a.length
  · have hlb : i < b.length := by omega
    have hwi := wr1 (i := i) (by omega)
    simp [hlt, hlb, s43_6, ]
    refine call_f (w_impl_sameInts a[i] b[i]) (by simp) rfl fun hs1 hh1 => ?_
    simp at hh1
    by_cases he : a[i] = b[i]
    case neg => simp [he, eqt_bad hlt hlb he]
    simp [he, hwi, s43_6, ]
    exact back (i + 1) ⟨by omega, eqt_step hi.eq hlt hlb he⟩ (by omega) rfl (by simp <;> omega) (by simp) (by simp)
  · have hd := eqt_done hi.eq (by omega) hle
    simp [show ¬ i < b.length by omega, hd]
theorem w_spec_EqualRelations (a b : PReln) : VC Try.prog 33 [.agg ((eReln a).map V.d), .agg ((eReln b).map V.d)] (fun _ r => r = .d (.bool (decide (a = b)))) := by
  refine VC.ofL EP s33 (by kernel_rfl) Try.func33 (by rfl) (by kernel_rfl) (by simp [Try.f33]) (by simp [Try.f33]) s33_ok fun B hl => ?_
  simp [pS, maxLen, eHist, eDb, eReln] at hl
  obtain ⟨ah, a⟩ := a
  obtain ⟨bh, b⟩ := b
  simp only at hl
  by_cases h : ah = bh
  case neg => simp [Try.f33, s33_6, h]
  subst h
  by_cases hle : a.length = b.length
  case neg => simp [Try.f33, s33_6, hle, eqt_len hle]
  simp [Try.f33, s33_6, hle]
  refine loop_rule (X := Nat) (EqTo a b) (fun i => [(2, .ptr 2 0 0), (3, .ptr 3 0 0), (5, .d (.int .i64 i))]) (fun i => [(2, some (.box [.d (.int .i64 ah), .d (.pl (a.map (cP cI)))])), (3, some (.box [.d (.int .i64 ah), .d (.pl (b.map (cP cI)))]))]) (fun i => a.length - i) 0 .zero (by simp [hle]) (by simp) ?_
  intro i hs t m hi hh
  have hia := hi.le
  by_cases hlt : i < a.length
  · have hlb : i < b.length := by omega
    have hwi := wr1 (i := i) (by omega)
    simp [hlt, hlb, s33_6, ]
    refine call_f (w_spec_CompareRows a[i] b[i]) (by simp) rfl fun hs1 hh1 => ?_
    simp at hh1
    by_cases he : a[i] = b[i]
    case neg => simp [he, eqt_bad hlt hlb he, cmpL_zero]
    simp [he, hwi, cmpL_self, s33_6, ]
    exact back (i + 1) ⟨by omega, eqt_step hi.eq hlt hlb he⟩ (by omega) rfl (by simp <;> omega) (by simp) (by simp)
  · have hd := eqt_done hi.eq (by omega) hle
    simp [show ¬ i < b.length by omega, hlt, hd]
end

end Go.Proofs.Ytohbmjknaeenjaa

namespace Go.Proofs.Ytohbmjknaeenjaa
open Go.Vs Go.Proofs Go
set_option maxRecDepth 100000
set_option maxHeartbeats 1000000

def neg64 (n : Int) : Int := IntKind.i64.wrap (-n)
def negAt (l : List Int) (i : Nat) : List Int := (l.take i).map neg64 ++ l.drop i
@[simp] theorem negAt_zero (l : List Int) : negAt l 0 = l := by simp [negAt]
@[simp] theorem negAt_length (l : List Int) (i : Nat) : (negAt l i).length = l.length := by simp [negAt]; omega
theorem negAt_all {l : List Int} {i : Nat} (h : i = l.length) : negAt l i = l.map neg64 := by subst h; simp [negAt]
theorem negAt_succ {l : List Int} {i : Nat} (h : i < l.length) : (negAt l i).set i (neg64 l[i]) = negAt l (i + 1) := by
  simp only [negAt]
  rw [List.take_succ_eq_append_getElem h, List.map_append, List.set_append_right _ _ (by simp; omega)]
  have e : l.drop i = l[i] :: l.drop (i + 1) := List.drop_eq_getElem_cons h
  have e0 : i - (List.map neg64 (l.take i)).length = 0 := by simp; omega
  rw [e0, e]
  simp only [List.set_cons_zero, List.map_cons, List.map_nil, List.append_assoc, List.cons_append, List.nil_append]
theorem negAt_get {l : List Int} {i : Nat} (h : i < l.length) : (negAt l i)[i]? = some l[i] := by
  simp only [negAt]
  rw [List.getElem?_append_right (by simp; omega)]
  have : i - (List.map neg64 (l.take i)).length = 0 := by simp; omega
  rw [this]
  simp [h]
theorem negAt_at {l : List Int} {i : Nat} (h : i < l.length) (h' : i < (negAt l i).length) : (negAt l i)[i] = l[i] := by
  have := negAt_get h
  rw [List.getElem?_eq_getElem h'] at this
  exact Option.some.inj this
/-- counts turned, as the machine does it -/
def negW (z : PCnt) : PCnt := ⟨z.ar, z.rows, z.cs.map neg64⟩
section
attribute [local simp] plI_id plStr_id map_plI map_plStr
end

end Go.Proofs.Ytohbmjknaeenjaa

namespace Go.Proofs.Ytohbmjknaeenjaa
open Go.Vs Go.Proofs Go
set_option maxRecDepth 100000
set_option maxHeartbeats 1000000

section
attribute [local simp] plI_id plStr_id map_plI map_plStr pS cP cI cStr cU8 cB eReln eCnt
theorem w_impl_EqualCounted (a b : PCnt) : VC Try.prog 21 [.agg ((eCnt a).map V.d), .agg ((eCnt b).map V.d)] (fun _ r => r = .d (.bool (decide (a = b)))) := by
  refine VC.ofL EP s21 (by kernel_rfl) Try.func21 (by rfl) (by kernel_rfl) (by simp [Try.f21]) (by simp [Try.f21]) s21_ok fun B hl => ?_
  obtain ⟨aa, ar, ac⟩ := a
  obtain ⟨ba, br, bc⟩ := b
  by_cases h : aa = ba
  case neg => simp [Try.f21, h]
  subst h
  simp [Try.f21]
  refine call_f (w_impl_sameRows ar br) (by simp) rfl fun hs1 hh1 => ?_
  simp at hh1
  by_cases h2 : ar = br
  case neg => simp [h2]
  subst h2
  simp
  refine call_f (w_impl_sameInts ac bc) (by simp) rfl fun hs1 hh1 => ?_
  simp
theorem w_spec_EqualCounted (a b : PCnt) : VC Try.prog 16 [.agg ((eCnt a).map V.d), .agg ((eCnt b).map V.d)] (fun _ r => r = .d (.bool (decide (a = b)))) := by
  refine VC.ofL EP s16 (by kernel_rfl) Try.func16 (by rfl) (by kernel_rfl) (by simp [Try.f16]) (by simp [Try.f16]) s16_ok fun B hl => ?_
  obtain ⟨aa, ar, ac⟩ := a
  obtain ⟨ba, br, bc⟩ := b
  by_cases h : aa = ba
  case neg => simp [Try.f16, h]
  subst h
  simp [Try.f16]
  refine call_f (w_spec_EqualRelations ⟨0, ar⟩ ⟨0, br⟩) (by simp) rfl fun hs1 hh1 => ?_
  simp at hh1
  by_cases h2 : ar = br
  case neg => simp [h2]
  subst h2
  simp
  refine call_f (w_spec_CompareRows ac bc) (by simp) rfl fun hs1 hh1 => ?_
  simp
  have := cmpL_zero ac bc
  by_cases h3 : ac = bc <;> simp [h3, this, cmpL_self]
end
theorem cnt_bd {z : PCnt} (h : cntsOk z = true) : ∀ n ∈ z.cs, -1000000 ≤ n ∧ n ≤ 1000000 := fun n hn => by
  simp only [cntsOk, Bool.and_eq_true, decide_eq_true_eq, List.all_eq_true] at h
  have := h.2 n hn
  simp only [cntOk, inR, Bool.and_eq_true, Bool.not_eq_true', beq_eq_false_iff_ne, decide_eq_true_eq] at this
  omega
theorem negW_eq {z : PCnt} (h : cntsOk z = true) : negW z = negP z := by
  have hb := cnt_bd h
  have : z.cs.map neg64 = z.cs.map fun n => -n := List.map_congr_left fun n hn => by
    have := hb n hn
    exact wrap64_of (by omega) (by omega)
  simp only [negW, negP, this]
theorem countOf_bd {z : PCnt} (h : cntsOk z = true) (y : List Int) : -1000000 ≤ countOf z y ∧ countOf z y ≤ 1000000 := by
  rw [countOf_eq h]
  have hc := cz_ok h
  by_cases hy : y ∈ z.rows
  · have e := look_all hc.srt hc.len
    have : lkC z.rows z.cs y ∈ z.cs := by
      have h2 : lkC z.rows z.cs y ∈ z.rows.map (lkC z.rows z.cs) := List.mem_map.2 ⟨y, hy, rfl⟩
      rwa [← e] at h2
    exact cnt_bd h _ this
  · rw [look_none hy]; omega

end Go.Proofs.Ytohbmjknaeenjaa

namespace Go.Proofs.Ytohbmjknaeenjaa
open Go.Vs Go.Proofs Go
set_option maxRecDepth 100000
set_option maxHeartbeats 1000000

theorem erI (l : List Int) : erLL (l.map cI) = l.map cI := by
  have := erLL_map er_cI l
  simpa [plI_id, map_plI] using this
@[simp] theorem start5 (a b c d e : V) (B : Nat) : St.start [a, b, c, d, e] B = ⟨B, B, [], upd (upd (upd (upd (upd (fun _ => .tup []) 4 e) 3 d) 2 c) 1 b) 0 a, fun _ => none⟩ := by
  simp only [St.start, St.mk.injEq, true_and, and_true]
  funext i; match i with | 0 => rfl | 1 => rfl | 2 => rfl | 3 => rfl | 4 => rfl | _ + 5 => rfl
section
attribute [local simp] plI_id plStr_id map_plI map_plStr pS cP cI
theorem e_copyIntsT (l : List Int) (hb : l.length ≤ 4294967296) :
   VC Try.prog 76 [.d (pS cI l)] (fun n r => ∃ g : Option Nat, r = .d (.sl g (some (3, 1)) (l.map cI)) ∧ (l = [] → True) ∧ (∀ k, g = some k → n ≤ k) ∧ (g = none → l = [])) := by
  refine VC.of E s76 (by kernel_rfl) Try.func76 (by rfl) (by kernel_rfl) (by simp [Try.f76]) (by simp [Try.f76]) s76_ok fun B => ?_
  have hL : LenOk 8 l.length := ⟨by omega, by simp only [maxLen]; omega⟩
  have hp : hpLL (l.map cI) = false := hpLL_mapI l
  simp [Try.f76, hL, hp, List.take_of_length_le]
  intro γ hs' h1 hg
  obtain ⟨q1, q2⟩ := gam_at hg (k := 3) (T := 3) (sz := 1) (es := l.map cI) (by simp)
  clear hg
  refine ⟨fun k hk => (q1 k hk).1, fun h => ?_⟩
  exact Classical.byContradiction fun hl => q2 (by simpa using hl) h
def avI (vs : List Int) (i : Nat) : List Int := (rangeI i).filter fun v => vs.contains v
theorem avI_zero (vs : List Int) : avI vs 0 = [] := rfl
theorem w_impl_AtomVariables (a : PAtom) : VC Try.prog 88 [.agg ((eAtom a).map V.d)] (fun _ r => r = .d (pS cI (aVars a.vars))) := by
  obtain ⟨nm, vs⟩ := a
  refine VC.ofL EP s88 (by kernel_rfl) Try.func88 (by rfl) (by kernel_rfl) (by simp [Try.f88]) (by simp [Try.f88]) s88_ok fun B hl => ?_
  simp [Try.f88, eAtom, cStr]
  refine loop_ruleL (X := Nat) (fun i _ => i ≤ 5) (fun i => [(1, .ptr 1 0 0), (3, .own 15 0 (avI vs i).length), (4, .d (.int .i64 i))]) (fun i => [(1, some (.box [.d (.str nm), .d (.pl (vs.map cI))])), (15, some (.row 3 1 ((avI vs i).map cI)))]) (fun i => 5 - i) ?_ ?_
  · refine (lead_slot 3 15 3 1 (by omega) (by omega) (by simp)).bind ?_
    rintro _ rfl
    exact Lead.of ⟨0, by omega, rfl, rfl, Nat.le_refl _, by simp [avI_zero], by simp [avI_zero]⟩
  intro i hs t m hi hh
  by_cases hlt : i < 5
  · have hwi := wr1 (i := i) (by omega)
    have hlz : (i : Int) < 5 := by omega
    have hlen : (avI vs i).length ≤ i := by
      have := List.length_filter_le (fun v => vs.contains v) (rangeI i)
      rw [rangeI_len] at this
      exact this
    have hL : LenOk 8 ((avI vs i).length + 1) := ⟨by omega, by simp only [maxLen]; omega⟩
    have hs' : avI vs (i + 1) = avI vs i ++ if vs.contains (i : Int) then [(i : Int)] else [] := by
      rw [avI, avI, rangeI_succ, List.filter_append]
      cases h : vs.contains (i : Int) <;> simp only [List.filter_cons, List.filter_nil, h] <;> rfl
    obtain ⟨L, hLd⟩ : ∃ L, L = avI vs i := ⟨_, rfl⟩
    rw [← hLd] at hL hs' hlen ⊢
    refine anyQ2 fun Q => ?_
    simp [hlz, ]
    refine call_f (w_impl_ContainsVariable ⟨nm, vs⟩ i) (by simp [eAtom, cStr]) rfl fun hs1 hh1 => ?_
    simp at hh1
    cases hc : vs.contains (i : Int)
    · rw [hc] at hs'
      simp only [Bool.false_eq_true, if_false, List.append_nil] at hs'
      simp [hwi, ]
      refine back2 (i + 1) (by omega) (by omega) rfl (by simp <;> omega) ?_ ?_
      · rw [hs']; simp
      · rw [hs']; simp
    · rw [hc] at hs'
      simp only [if_true] at hs'
      simp [hwi, hL, List.take_of_length_le, ]
      refine back2 (i + 1) (by omega) (by omega) rfl (by simp <;> omega) ?_ ?_
      · rw [hs']; simp
      · rw [hs']; simp
  · have hn : i = 5 := by omega
    subst hn
    have e : avI vs 5 = aVars vs := rfl
    rw [e]
    simp [List.take_of_length_le, ]
theorem w_impl_glue (u a r b s : List Int) (hu : u.length ≤ 1000) (hua : ∀ v ∈ u, v ∈ a ∨ v ∈ b) (hr : r.length = a.length) (hs : s.length = b.length) :
   VC Try.prog 67 [.d (pS cI u), .d (pS cI a), .d (pS cI r), .d (pS cI b), .d (pS cI s)] (fun _ v => v = .tup [.d (pS cI (if glB u a r b s then glR u a r b s else [])), .d (.bool (glB u a r b s))]) := by
  refine VC.ofL EP s67 (by kernel_rfl) Try.func67 (by rfl) (by kernel_rfl) (by simp [Try.f67]) (by simp [Try.f67]) s67_ok fun B hl => ?_
  simp [Try.f67, s67_7]
  refine loop_rule (X := Nat) (fun i => i ≤ u.length ∧ AllTo (glV a r b s) u i) (fun i => [(1, .d (.pl (a.map cI))), (2, .d (.pl (r.map cI))), (3, .d (.pl (b.map cI))), (4, .d (.pl (s.map cI))), (12, .own 17 0 i), (18, .d (.pl (u.map cI))), (19, .d (.int .i64 u.length)), (20, .d (.int .i64 i))]) (fun i => [(17, some (.row 3 1 ((glR (u.take i) a r b s).map cI)))]) (fun i => u.length - i) 0 ⟨by simp, allTo_zero⟩ (by simp) (by simp [glR]) ?_
  rintro i hs0 t m ⟨hi, hal⟩ hh
  by_cases hlt : i < u.length
  · have hwi := wr1 (i := i) (by omega)
    have hL : LenOk 8 (i + 1) := ⟨by omega, by simp only [maxLen]; omega⟩
    have hgl : (glR (u.take i) a r b s).length = i := by simp [glR]; omega
    have hst : glR (u.take (i + 1)) a r b s = glR (u.take i) a r b s ++ [if a.contains u[i] then lookV a r u[i] else lookV b s u[i]] := by
      rw [List.take_succ_eq_append_getElem hlt]; simp only [glR, List.map_append, List.map_cons, List.map_nil]
    obtain ⟨G, hG⟩ : ∃ G, G = glR (u.take i) a r b s := ⟨_, rfl⟩
    rw [← hG] at hst hgl ⊢
    have hm := hua _ (List.getElem_mem hlt)
    obtain ⟨v, hv⟩ : ∃ v, v = u[i] := ⟨_, rfl⟩
    rw [← hv] at hm hst
    have key : ∀ (x y : List Int), y.length = x.length → v ∈ x → ∃ p : Nat, idxL x v = p ∧ ∃ h : p < y.length, lookV x y v = y[p] := fun x y hl hx => by
      have h1 := (idxL_mem hx).1
      have h0 : 0 ≤ idxL x v := by rw [idxL, if_pos hx]; omega
      exact ⟨(idxL x v).toNat, (Int.toNat_of_nonneg h0).symm, by omega, by rw [lookV, getD_el _ (by omega)]⟩
    have kno : ∀ x : List Int, v ∉ x → idxL x v = -1 := fun x hx => by rw [idxL, if_neg hx]
    simp [hlt, ← hv, s67_7, ]
    refine call_f (w_impl_indexOf a v) (by simp) rfl fun hs1 hh1 => ?_
    simp at hh1
    simp [s67_7, ]
    refine call_f (w_impl_indexOf b v) (by simp) rfl fun hs2 hh2 => ?_
    simp at hh2
    by_cases hva : v ∈ a
    · obtain ⟨p, hpa, hp, hpr⟩ := key a r hr hva
      have hca : a.contains v = true := List.contains_iff_mem.2 hva
      rw [hca, if_pos rfl, hpr] at hst
      by_cases hvb : v ∈ b
      · obtain ⟨q, hqb, hq, hqr⟩ := key b s hs hvb
        have hcb : b.contains v = true := List.contains_iff_mem.2 hvb
        have hgv : glV a r b s v = decide (r[p] = s[q]) := by rw [glV, hca, hcb, hpr, hqr]; simp
        by_cases he : r[p] = s[q]
        · simp [hpa, hqb, hp, hq, he, hwi, hL, hgl, List.take_of_length_le, s67_7, ]
          exact back (i + 1) ⟨by omega, allTo_step hal hlt (by rw [← hv, hgv]; simp [he])⟩ (by omega) rfl (by simp <;> omega) (by simp) (by simp [hst, he])
        · have hbad := all_bad (p := glV a r b s) hlt (by rw [← hv, hgv]; simp [he])
          have hg : glB u a r b s = false := hbad
          simp [hpa, hqb, hp, hq, he, hg, s67_7, ]
      · have hqb := kno b hvb
        have hcb : b.contains v = false := by simpa using hvb
        have hgv : glV a r b s v = true := by rw [glV, hcb]; simp
        simp [hpa, hqb, hp, hwi, hL, hgl, List.take_of_length_le, s67_7, ]
        exact back (i + 1) ⟨by omega, allTo_step hal hlt (by rw [← hv, hgv])⟩ (by omega) rfl (by simp <;> omega) (by simp) (by simp [hst])
    · have hpa := kno a hva
      have hca : a.contains v = false := by simpa using hva
      have hvb := hm.resolve_left hva
      obtain ⟨q, hqb, hq, hqr⟩ := key b s hs hvb
      rw [hca, hqr] at hst
      simp only [Bool.false_eq_true, if_false] at hst
      have hgv : glV a r b s v = true := by rw [glV, hca]; simp
      simp [hpa, hqb, hq, hwi, hL, hgl, List.take_of_length_le, s67_7, ]
      exact back (i + 1) ⟨by omega, allTo_step hal hlt (by rw [← hv, hgv])⟩ (by omega) rfl (by simp <;> omega) (by simp) (by simp [hst])
  · have hd := allTo_done hal (by omega)
    have hg : glB u a r b s = true := hd
    have hn : i = u.length := by omega
    subst hn
    simp [hg, List.take_of_length_le, glR, s67_7, ]
end
section
attribute [local simp] plI_id plStr_id map_plI map_plStr pS cP cI dSl
theorem uniL_snoc {a b : List Int} {i : Nat} (h : i < b.length) : uniL a (b.take (i + 1)) = insI (uniL a (b.take i)) b[i] := by
  rw [List.take_succ_eq_append_getElem h, uniL, List.foldl_append]; rfl
theorem insI_len (l : List Int) (n : Int) : (insI l n).length ≤ l.length + 1 := by
  rw [insI]
  split
  · omega
  · simp only [List.length_append, List.length_take, List.length_cons, List.length_drop]; omega
theorem uniL_len (a : List Int) : ∀ (b : List Int), (uniL a b).length ≤ a.length + b.length := by
  intro b
  induction b generalizing a with
  | nil => simp [uniL]
  | cons x r ih =>
    have h1 := ih (insI a x)
    have h2 := insI_len a x
    have : uniL a (x :: r) = uniL (insI a x) r := rfl
    rw [this, List.length_cons]; omega
theorem t_impl_unite (a b : Ints) (hl : a.xs.length + b.xs.length ≤ 1000) : VC Try.prog 66 [.d (dSl cI a), .d (dSl cI b)] (fun _ r => ∃ y : Ints, r = .d (dSl cI y) ∧ y.xs = uniL a.xs b.xs) := by
  refine VC.ofB E s66 (by kernel_rfl) Try.func66 (by rfl) (by kernel_rfl) (by simp [Try.f66]) (by simp [Try.f66]) s66_ok fun B hB => ?_
  obtain ⟨aid, aT, al⟩ := a
  obtain ⟨bid, bT, bl⟩ := b
  simp only at hl
  have hbB : ∀ g, bid = some g → g < B := fun g h => hB g (by simp [idsVL, V.ids, D.ids, h])
  simp [Try.f66, s66_9]
  refine call_some ((e_copyIntsT al (by omega)).er (As := [.d (dSl cI ⟨aid, aT, al⟩)]) (by simp [erI])) (by simp) (by simp) fun n1 hs1 r1 hn1 hm1 hp1 hr1 => ?_
  obtain ⟨g1, rfl, _, hg1, hg1n⟩ := hp1
  have hi1 : ∀ k, g1 = some k → k < hs1 := fun k hk => hr1 k (by simp [V.ids, D.ids, hk])
  simp at hn1
  simp [s66_9, ]
  refine loop_ruleL (X := Nat × Option Nat) (fun p h => p.1 ≤ bl.length ∧ (∀ g, p.2 = some g → B ≤ g ∧ g < h) ∧ (p.2 = none → uniL al (bl.take p.1) = [])) (fun p => [(5, .d (.sl p.2 (some (3, 1)) ((uniL al (bl.take p.1)).map cI))), (11, .d (.sl bid bT (bl.map cI))), (12, .d (.int .i64 bl.length)), (13, .d (.int .i64 p.1))]) (fun _ => []) (fun p => bl.length - p.1) ?_ ?_
  · exact Lead.of ⟨(0, g1), ⟨by simp, fun g hg => ⟨by have := hg1 g hg; omega, hi1 g hg⟩, fun h => by simpa [uniL] using hg1n h⟩, rfl, rfl, Nat.le_refl _, by simp [uniL], by simp⟩
  rintro ⟨i, id⟩ hs t m ⟨hi, hid, hnone⟩ hh
  simp only at hi hid hnone
  by_cases hlt : i < bl.length
  · have hwi := wr1 (i := i) (by omega)
    have hst := uniL_snoc (a := al) hlt
    have hul := uniL_len al (bl.take i)
    rw [List.length_take] at hul
    obtain ⟨l, hld⟩ : ∃ l, l = uniL al (bl.take i) := ⟨_, rfl⟩
    obtain ⟨n, hn⟩ : ∃ n, n = bl[i] := ⟨_, rfl⟩
    rw [← hld, ← hn] at hst
    rw [← hld] at hul hnone ⊢
    refine anyQ2 fun Q => ?_
    simp [hlt, ← hn, s66_9, ]
    refine loop_rule (X := Nat) (fun k => k ≤ l.length ∧ AllTo (fun x => decide (x < n)) l k) (fun k => [(5, .d (.sl id (some (3, 1)) (l.map cI))), (7, .d (.int .i64 n)), (8, .d (.int .i64 k)), (11, .d (.sl bid bT (bl.map cI))), (12, .d (.int .i64 bl.length)), (13, .d (.int .i64 i))]) (fun _ => []) (fun k => l.length - k) 0 ⟨by simp, allTo_zero⟩ (by simp) (by simp) ?_
    rintro k hs2 t2 m2 ⟨hk, hal⟩ hh2
    by_cases hkl : k < l.length
    · by_cases hless : l[k] < n
      · have hwk := wr1 (i := k) (by omega)
        refine anyQ fun Q => ?_
        simp [hkl, hless, hwk, s66_9, ]
        exact back (k + 1) ⟨by omega, allTo_step hal hkl (by simp [hless])⟩ (by omega) rfl (by simp <;> omega) (by simp) (by simp)
      have hK : (l.takeWhile fun x => decide (x < n)).length = k := takeWhile_at hal hk fun h => by simp [hless]
      by_cases heq : l[k] = n
      · have hins : insI l n = l := by rw [insI, hK, getD_el _ hkl, if_pos heq]
        simp [hkl, hless, heq, hwi, show ¬ (k : Int) = l.length by omega, s66_9, ]
        refine back2 (i + 1, id) ⟨by simp only; omega, fun g hg => ?_, fun h => ?_⟩ (by simp only; omega) rfl (by simp <;> omega) (by simp [hst, hins]) (by simp)
        · have := hid g hg; exact ⟨this.1, by simp; omega⟩
        · rw [hst, hins]; exact hnone h
      · have hins : insI l n = l.take k ++ n :: l.drop k := by rw [insI, hK, getD_el _ hkl, if_neg heq]
        simp [hkl, hless, heq, hwi, show ¬ (k : Int) = l.length by omega, show k ≤ l.length by omega, s66_9, ]
        have hki : k ≤ l.length := hk
        have L1 : LenOk 8 (k + 1) := ⟨by omega, by simp only [maxLen]; omega⟩
        have L1' : LenOk 8 1 := ⟨by omega, by simp only [maxLen]; omega⟩
        have L2 : LenOk 8 (k + 1 + (l.length - k)) := ⟨by omega, by simp only [maxLen]; omega⟩
        have L2' : LenOk 8 (1 + l.length) := ⟨by omega, by simp only [maxLen]; omega⟩
        have hmn : min k l.length = k := by omega
        have hpl : ∀ L : List Int, hpLL (L.map cI) = false := fun L => hpLL_mapI L
        repeat' apply And.intro
        all_goals
          refine call_some ((e_copyIntsT (l.take k) (by simp; omega)).er (by simp only [← List.map_take]; simp [-List.map_take, erI])) (by simp) (by simp) fun n2 hs3 r2 hn2 hm2 hp2 hr2 => ?_
          obtain ⟨g2, rfl, _, hg2, hg2n⟩ := hp2
          have hn2' : hs2 ≤ n2 := hn2
          have hins2 : l.take k ++ n :: l.drop k = insI l n := hins.symm
          cases g2 with
          | none =>
            have hk0 : k = 0 := by
              have := congrArg List.length (hg2n rfl)
              simp only [List.length_take, List.length_nil] at this
              by_cases h : l.length = 0
              · omega
              · omega
            subst hk0
            have hins3 : insI l n = n :: l := by simpa using hins
            simp [L1', L2', hwi, List.take_of_length_le, s66_9, ]
            refine Back2.lead (lead_frz 49 (T := 3) (sz := 1) (es := (n :: l).map cI) (by simp)) ?_
            rintro _ ⟨γ, hs', h2, hg, rfl⟩
            obtain ⟨q1, q2⟩ := gam_at hg (k := 49) (T := 3) (sz := 1) (es := (n :: l).map cI) (by simp)
            clear hg
            simp only at h2 q1
            have hp0 := hpl (n :: l)
            have hp1 := hpl l
            refine back2 (i + 1, γ 49) ⟨by simp only; omega, fun g hg => ?_, fun h => absurd h (q2 (by simp))⟩ (by simp only; omega) rfl (by simp <;> omega) (by simp [hst, hins3, hp0, hp1, Vs.frz, St.frz, Nat.add_comm 1, List.take_of_length_le]) (by simp)
            exact ⟨(q1 g hg).1, by simpa using (q1 g hg).2⟩
          | some g =>
            have hgn := hg2 g rfl
            have kg : ∀ j, j < n2 → kphi (some g) j = none := fun j hj => by simp only [kphi]; rw [if_neg (by simp; omega)]
            have e5 : reV (kphi (some g)) (.d (.sl id (some (3, 1)) (l.map cI))) = .d (.sl id (some (3, 1)) (l.map cI)) := reV_id (.d (dSl cI ⟨id, some (3, 1), l⟩)) fun j hj => kg j (by
              rcases mem_sl_ids.1 hj with h | h
              · have := (hid j h).2; omega
              · simp at h)
            have eD : ∀ (T0 : Option (TypeId × Nat)) (L : List Int), reV (kphi (some g)) (.d (.sl id T0 (L.map cI))) = .d (.sl id T0 (L.map cI)) := fun T0 L => reV_id (.d (dSl cI ⟨id, T0, L⟩)) fun j hj => kg j (by
              rcases mem_sl_ids.1 hj with h | h
              · have := (hid j h).2; omega
              · simp at h)
            have e11 : reV (kphi (some g)) (.d (.sl bid bT (bl.map cI))) = .d (.sl bid bT (bl.map cI)) := reV_id (.d (dSl cI ⟨bid, bT, bl⟩)) fun j hj => kg j (by
              rcases mem_sl_ids.1 hj with h | h
              · have := hbB j h; omega
              · simp at h)
            have hgB : B ≤ g := by omega
            have hids : ∀ L : List Int, g ∉ idsLL (L.map cI) := fun L => by simp
            simp [hgB, L1, L2, hmn, hwi, St.kill, e5, e11, eD, ← List.map_take, ← List.map_drop, List.take_of_length_le, s66_9, ]
            refine ⟨by simp [idsLL, idsL, D.ids], ?_⟩
            have a1 : k + 1 + (l.length - k) = l.length + 1 := by omega
            have hil : (insI l n).length = l.length + 1 := by rw [hins]; simp; omega
            refine Back2.lead (lead_frz 49 (T := 3) (sz := 1) (es := (insI l n).map cI) (by rw [hins]; simp [List.map_take, List.map_drop])) ?_
            rintro _ ⟨γ, hs', h2, hg, rfl⟩
            obtain ⟨q1, q2⟩ := gam_at hg (k := 49) (T := 3) (sz := 1) (es := (insI l n).map cI) (by rw [hins]; simp [List.map_take, List.map_drop])
            clear hg
            simp only at h2 q1
            have hp0 := hpl (insI l n)
            refine back2 (i + 1, γ 49) ⟨by simp only; omega, fun g hg => ?_, fun h => absurd h (q2 (by rw [hins]; simp))⟩ (by simp only; omega) rfl (by simp <;> omega) ?_ (by simp)
            · exact ⟨(q1 g hg).1, by simpa using (q1 g hg).2⟩
            · simp [hst, hp0, hil, a1, Vs.frz, St.frz, List.take_of_length_le]
    · have hkn : k = l.length := by omega
      subst hkn
      have hK : (l.takeWhile fun x => decide (x < n)).length = l.length := takeWhile_at hal hk fun h => absurd h hkl
      have hins : insI l n = l ++ [n] := by
        have h0 : l.getD l.length (n + 1) ≠ n := by simp [List.getD]; omega
        rw [insI, hK, if_neg h0]; simp
      simp [hwi, s66_9, ]
      have L1 : LenOk 8 (l.length + 1) := ⟨by omega, by simp only [maxLen]; omega⟩
      have L1' : LenOk 8 1 := ⟨by omega, by simp only [maxLen]; omega⟩
      have hpl : ∀ L : List Int, hpLL (L.map cI) = false := fun L => hpLL_mapI L
      repeat' apply And.intro
      all_goals
        refine call_some ((e_copyIntsT l (by omega)).er (by simp [erI, List.take_of_length_le])) (by simp) (by simp) fun n2 hs3 r2 hn2 hm2 hp2 hr2 => ?_
        obtain ⟨g2, rfl, _, hg2, hg2n⟩ := hp2
        have hn2' : hs2 ≤ n2 := hn2
        cases g2 with
        | none =>
          have hl0 : l = [] := hg2n rfl
          subst hl0
          have hins3 : insI [] n = [n] := by simpa using hins
          simp [L1', hwi, List.take_of_length_le, s66_9, ]
          refine Back2.lead (lead_frz 49 (T := 3) (sz := 1) (es := [n].map cI) (by simp)) ?_
          rintro _ ⟨γ, hs', h2, hg, rfl⟩
          obtain ⟨q1, q2⟩ := gam_at hg (k := 49) (T := 3) (sz := 1) (es := [n].map cI) (by simp)
          clear hg
          simp only at h2 q1
          have hp0 := hpl [n]
          refine back2 (i + 1, γ 49) ⟨by simp only; omega, fun g hg => ?_, fun h => absurd h (q2 (by simp))⟩ (by simp only; omega) rfl (by simp <;> omega) (by simp [hst, hins3, hp0, Vs.frz, St.frz, List.take_of_length_le]) (by simp)
          exact ⟨(q1 g hg).1, by simpa using (q1 g hg).2⟩
        | some g =>
          have hgn := hg2 g rfl
          have kg : ∀ j, j < n2 → kphi (some g) j = none := fun j hj => by simp only [kphi]; rw [if_neg (by simp; omega)]
          have eD : ∀ (T0 : Option (TypeId × Nat)) (L : List Int), reV (kphi (some g)) (.d (.sl id T0 (L.map cI))) = .d (.sl id T0 (L.map cI)) := fun T0 L => reV_id (.d (dSl cI ⟨id, T0, L⟩)) fun j hj => kg j (by
            rcases mem_sl_ids.1 hj with h | h
            · have := (hid j h).2; omega
            · simp at h)
          have e11 : reV (kphi (some g)) (.d (.sl bid bT (bl.map cI))) = .d (.sl bid bT (bl.map cI)) := reV_id (.d (dSl cI ⟨bid, bT, bl⟩)) fun j hj => kg j (by
            rcases mem_sl_ids.1 hj with h | h
            · have := hbB j h; omega
            · simp at h)
          have eD0 : ∀ (T0 : Option (TypeId × Nat)), reV (kphi (some g)) (.d (.sl id T0 [])) = .d (.sl id T0 []) := fun T0 => eD T0 []
          have hgB : B ≤ g := by omega
          simp [hgB, L1, hwi, St.kill, eD, eD0, e11, List.take_of_length_le, s66_9, ]
          refine ⟨by simp [idsLL, idsL, D.ids], ?_⟩
          refine Back2.lead (lead_frz 49 (T := 3) (sz := 1) (es := (insI l n).map cI) (by rw [hins]; simp)) ?_
          rintro _ ⟨γ, hs', h2, hg, rfl⟩
          obtain ⟨q1, q2⟩ := gam_at hg (k := 49) (T := 3) (sz := 1) (es := (insI l n).map cI) (by rw [hins]; simp)
          clear hg
          simp only at h2 q1
          have hp0 := hpl (insI l n)
          have hil : (insI l n).length = l.length + 1 := by rw [hins]; simp
          refine back2 (i + 1, γ 49) ⟨by simp only; omega, fun g hg => ?_, fun h => absurd h (q2 (by rw [hins]; simp))⟩ (by simp only; omega) rfl (by simp <;> omega) ?_ (by simp)
          · exact ⟨(q1 g hg).1, by simpa using (q1 g hg).2⟩
          · simp [hst, hp0, hil, Vs.frz, St.frz, List.take_of_length_le]
  · have hn : i = bl.length := by omega
    subst hn
    simp [hlt, List.take_of_length_le, s66_9, ]
    exact ⟨⟨id, some (3, 1), uniL al bl⟩, ⟨rfl, rfl, rfl⟩, rfl⟩
end

end Go.Proofs.Ytohbmjknaeenjaa

namespace Go.Proofs.Ytohbmjknaeenjaa
open Go.Vs Go.Proofs Go
set_option maxRecDepth 100000
set_option maxHeartbeats 1000000

section
attribute [local simp] plI_id plStr_id map_plI map_plStr pS cP cI
theorem p_impl_pick (row cols : List Int) (hb : cols.length ≤ 4294967296) (hc : ∀ c ∈ cols, 0 ≤ c ∧ c < row.length) : VC Try.prog 74 [.d (pS cI row), .d (pS cI cols)] (fun _ r => r = .d (pS cI (pickR cols row))) := by
  refine VC.ofL EP s74 (by kernel_rfl) Try.func74 (by rfl) (by kernel_rfl) (by simp [Try.f74]) (by simp [Try.f74]) s74_ok fun B hl => ?_
  simp [Try.f74]
  refine loop_rule (X := Nat) (fun i => i ≤ cols.length) (fun i => [(0, .d (.pl (row.map cI))), (5, .own 8 0 i), (9, .d (.pl (cols.map cI))), (10, .d (.int .i64 cols.length)), (11, .d (.int .i64 i))])
    (fun i => [(8, some (.row 3 1 ((pickR (cols.take i) row).map cI)))]) (fun i => cols.length - i) 0 (by simp) (by simp) (by simp [pickR]) ?_
  intro i hs t m hi hh
  by_cases hlt : i < cols.length
  · have hwi := wr1 (i := i) (by omega)
    have h1 := hc _ (List.getElem_mem hlt)
    have hst := pickR_step hlt hc
    obtain ⟨k, hk⟩ : ∃ k : Nat, cols[i] = (k : Int) := ⟨cols[i].toNat, by omega⟩
    have hkl : k < row.length := by omega
    have hL : LenOk 8 (i + 1) := ⟨by omega, by simp only [maxLen]; omega⟩
    have hpl : (pickR (cols.take i) row).length = i := by rw [pickR_len, List.length_take]; omega
    simp only [hk, Int.toNat_natCast] at hst
    simp [hlt, hk, hkl, hL, hwi, hpl, ]
    exact back (i + 1) (by omega) (by omega) rfl (by simp <;> omega) (by simp) (by simp [hst])
  · have hn : i = cols.length := by omega
    subst hn
    simp [List.take_of_length_le, pickR_len]
theorem w_impl_sorted (l : List (List Int)) (h1 : l.length ≤ 4294967296) (h2 : ∀ r ∈ l, r.length ≤ 4294967296) : VC Try.prog 68 [.d (pS (cP cI) l)] (fun _ r => r = .d (pS (cP cI) (srtU l))) :=
  VC.plain (e_impl_sorted _ l (Nat.le_refl _) h1 h2) (fun n r h => by
    obtain ⟨y, rfl, hp, _, _⟩ := h
    have e := er_cS (c := cS cI) (e := cP cI) (pl := plS plI) (fun s => er_cS er_cI s) y
    rw [hp] at e
    simp only [cS, cP, erL, List.cons.injEq, and_true] at e
    simp only [rp, e, pS]) (by rw [pS]; rfl)
theorem w_impl_AtomBindings (d : PDb) (a : PAtom) (hlk : lkB d a.rel = true) (har : (lkR d a.rel).ar = a.vars.length) (hv5 : a.vars.length ≤ 5) (hv : ∀ v ∈ a.vars, 0 ≤ v ∧ v < 5) :
   VC Try.prog 89 [.agg ((eDb d).map V.d), .agg ((eAtom a).map V.d)] (fun _ r => r = .agg ((eReln ⟨(aVars a.vars).length, abR d a⟩).map V.d)) := by
  have hr := lk_ok hlk
  have hr16 := lk_rows hlk
  obtain ⟨dl, hdl⟩ : ∃ dl, dl = d.tabs := ⟨_, rfl⟩
  have hde : (eDb d).map V.d = [V.d (.pl (dl.map eTab))] := by rw [hdl]; simp [eDb]
  obtain ⟨nm, vs⟩ := a
  simp only at hlk har hv5 hv hr hr16
  have hav : (aVars vs).length ≤ 5 := by
    have := List.length_filter_le (fun v => vs.contains v) (rangeI 5)
    rw [rangeI_len] at this
    exact this
  have hAVm : ∀ c ∈ aVars vs, 0 ≤ c ∧ c < ((5 : Nat) : Int) := fun c hc => by
    have := (List.mem_filter.1 hc).1
    have := rangeI_mem.1 this
    omega
  have hrl := fun (t : List Int) (ht : t ∈ (lkR d nm).rows) => (rowsOk_mem hr ht).1
  refine VC.ofL EP s89 (by kernel_rfl) Try.func89 (by rfl) (by kernel_rfl) (by simp [Try.f89]) (by simp [Try.f89]) s89_ok fun B hl => ?_
  simp [Try.f89, s89_16, eAtom, cStr, hde]
  refine call_p (w_impl_AtomVariables ⟨nm, vs⟩) (by simp [eAtom, cStr]) fun hs1 hh1 hl1 => ?_
  simp at hh1
  obtain ⟨AV, hAV⟩ : ∃ AV, AV = aVars vs := ⟨_, rfl⟩
  rw [← hAV] at hl1 hav hAVm ⊢
  simp [s89_16, ]
  refine call_p (w_impl_LookupRelation d nm) (by simp [hde]) fun hs2 hh2 hl2 => ?_
  simp at hh2
  obtain ⟨R, hR⟩ : ∃ R, R = lkR d nm := ⟨_, rfl⟩
  have hab : abR d ⟨nm, vs⟩ = srtU (abL vs R.rows) := by rw [hR]; rfl
  rw [← hR] at hl2 har hr16 hrl ⊢
  rw [hab, hlk]
  obtain ⟨ra, rl⟩ := R
  simp only at har hr16 hrl
  subst har
  have hco : colsOk 5 vs = true := by
    simp only [colsOk, Bool.and_eq_true, decide_eq_true_eq, List.all_eq_true, inR]
    refine ⟨hv5, fun v hm => ?_⟩
    have := hv v hm
    have hw : IntKind.i64.wrap (5 - 1) = 4 := by decide
    rw [hw]; omega
  simp [eReln, s89_16, ]
  refine call_f (w_impl_columnsFit 5 vs) (by simp) rfl fun hs3 hh3 => ?_
  simp at hh3
  rw [hco]
  simp [s89_16, ]
  refine loop_ruleL (X := Nat) (fun i _ => i ≤ rl.length) (fun i => [(3, .ptr 3 0 0), (4, .ptr 4 0 0), (5, .d (.pl (AV.map cI))), (6, .ptr 6 0 0), (9, .own 92 0 (abL vs (rl.take i)).length), (47, .d (.pl (rl.map (cP cI)))), (48, .d (.int .i64 rl.length)), (49, .d (.int .i64 i))])
    (fun i => [(3, some (.box [.d (.str nm), .d (.pl (vs.map cI))])), (4, some (.box [.d (.int .i64 0), .d (.sl none none [])])), (6, some (.box [.d (.int .i64 AV.length), .d (.sl none none [])])), (92, some (.row 26 1 ((abL vs (rl.take i)).map (cP cI))))]) (fun i => rl.length - i) ?_ ?_
  · refine (lead_slot 9 92 26 1 (by omega) (by omega) (by simp)).bind ?_
    rintro _ rfl
    exact Lead.of ⟨0, by omega, rfl, rfl, Nat.le_refl _, by simp [abL], by simp [abL]⟩
  intro i hs t m hi hh
  by_cases hlt : i < rl.length
  · have hwi := wr1 (i := i) (by omega)
    have hst := abL_succ (vs := vs) hlt
    have hal := abL_len vs (rl.take i)
    rw [List.length_take] at hal
    obtain ⟨row, hrow⟩ : ∃ row, row = rl[i] := ⟨_, rfl⟩
    have hrvl : row.length = vs.length := by
      have := hrl _ (List.getElem_mem hlt)
      rw [← hrow] at this; omega
    rw [← hrow] at hst
    obtain ⟨AL, hAL⟩ : ∃ AL, AL = abL vs (rl.take i) := ⟨_, rfl⟩
    rw [← hAL] at hst hal ⊢
    have hL : LenOk 24 (AL.length + 1) := ⟨by omega, by simp only [maxLen]; omega⟩
    have L5 : LenOk 8 5 := ⟨by omega, by simp only [maxLen]; omega⟩
    refine anyQ2 fun Q => ?_
    simp [hlt, ← hrow, L5, s89_16, ]
    refine loop_rule (X := Nat) (fun j => j ≤ vs.length) (fun j => [(3, .ptr 3 0 0), (4, .ptr 4 0 0), (5, .d (.pl (AV.map cI))), (6, .ptr 6 0 0), (9, .own 92 0 AL.length), (11, .d (.pl (row.map cI))), (12, .own 53 0 5), (13, .d (.bool (fitJ vs row j))), (47, .d (.pl (rl.map (cP cI)))), (48, .d (.int .i64 rl.length)), (49, .d (.int .i64 i)), (55, .d (.pl (vs.map cI))), (56, .d (.int .i64 vs.length)), (57, .d (.int .i64 j))])
      (fun j => [(3, some (.box [.d (.str nm), .d (.pl (vs.map cI))])), (4, some (.box [.d (.int .i64 0), .d (.sl none none [])])), (6, some (.box [.d (.int .i64 AV.length), .d (.sl none none [])])), (53, some (.row 3 1 ((valJ vs row j).map cI))), (92, some (.row 26 1 (AL.map (cP cI))))]) (fun j => vs.length - j) 0 (by simp) (by simp [fitJ_zero]) (by simp [valJ_zero]) ?_
    intro j hs4 t m hj hh4
    by_cases hjl : j < vs.length
    · have hwj := wr1 (i := j) (by omega)
      have hjr : j < row.length := by omega
      have hvj := hv _ (List.getElem_mem hjl)
      obtain ⟨v, hve⟩ : ∃ v : Nat, vs[j] = (v : Int) := ⟨vs[j].toNat, by omega⟩
      have hv5' : v < 5 := by omega
      have hix := (idxL_mem (List.getElem_mem hjl)).1
      obtain ⟨p, hp⟩ : ∃ p : Nat, idxL vs (v : Int) = (p : Int) := by
        rw [← hve]
        have := idxL_ge vs vs[j]
        have h2 : vs.contains vs[j] = true := by simp
        rw [h2] at this
        exact ⟨(idxL vs vs[j]).toNat, by have := of_decide_eq_true this; omega⟩
      have hpr : p < row.length := by rw [hve, hp] at hix; omega
      have hf := fitJ_succ vs row j
      have hvs := valJ_succ (vs := vs) (row := row) hjl hjr
      have hvl := valJ_len vs row j
      rw [getD_el _ hjl, getD_el _ hjr, lookV, hve, hp, Int.toNat_natCast, getD_el _ hpr] at hf
      rw [hve, Int.toNat_natCast] at hvs
      simp [hjl, hve, s89_16, ]
      refine call_f (w_impl_indexOf vs v) (by simp) rfl fun hs5 hh5 => ?_
      simp at hh5
      rw [hp]
      cases hfj : fitJ vs row j
      · rw [hfj] at hf
        simp [hwj, hjr, hpr, hv5', hvl, -List.map_set, s89_16, ]
        exact back (j + 1) (by omega) (by omega) rfl (by simp <;> omega) (by simp [hf]) (by rw [hvs]; simp)
      · rw [hfj] at hf
        simp [hwj, hjr, hpr, hv5', hvl, -List.map_set, s89_16, ]
        exact back (j + 1) (by omega) (by omega) rfl (by simp <;> omega) (by simp [hf]) (by rw [hvs]; simp)
    · have hn : j = vs.length := by omega
      subst hn
      have hvl5 := valJ_len vs row vs.length
      rw [valJ_all hrvl] at hvl5
      rw [fitJ_all hrvl, valJ_all hrvl]
      cases hfr : fitR vs row
      · simp [hwi, s89_16, ]
        refine back2 (i + 1) (by omega) (by omega) rfl (by simp <;> omega) ?_ ?_
        · rw [hst, hfr]; simp
        · rw [hst, hfr]; simp
      · simp [hwi, s89_16, ]
        refine call_p (p_impl_pick (valL vs row) AV (by omega) (fun c hc => by rw [hvl5]; exact hAVm c hc)) (by simp [List.take_of_length_le, hvl5]) fun hs5 hh5 hl5 => ?_
        simp at hh5
        simp [hwi, hL, List.take_of_length_le, s89_16, ]
        refine back2 (i + 1) (by omega) (by omega) rfl (by simp <;> omega) ?_ ?_
        · rw [hst, hfr]; simp [hAV]
        · rw [hst, hfr]; simp [hAV]
  · have hn : i = rl.length := by omega
    subst hn
    simp [s89_16, ]
    refine call_p (w_impl_sorted (abL vs rl) (by have := abL_len vs rl; omega) (fun r hr => by have := abL_el r hr; omega)) (by simp [List.take_of_length_le]) fun hs5 hh5 hl5 => ?_
    simp at hh5
    simp [s89_16, ]
end

end Go.Proofs.Ytohbmjknaeenjaa

namespace Go.Proofs.Ytohbmjknaeenjaa
open Go.Vs Go.Proofs Go
set_option maxRecDepth 100000
set_option maxHeartbeats 1000000

section
attribute [local simp] plI_id plStr_id map_plI map_plStr pS cP cI
theorem p_impl_unite (a b : List Int) (hl : a.length + b.length ≤ 1000) : VC Try.prog 66 [.d (pS cI a), .d (pS cI b)] (fun _ r => r = .d (pS cI (uniL a b))) := by
  refine VC.plain (post := fun _ r => ∃ y : Ints, r = .d (dSl cI y) ∧ y.xs = uniL a b) ?_ (fun n r h => ?_) (by rw [pS]; rfl)
  · refine VC.untrack (t_impl_unite ⟨none, none, []⟩ ⟨none, none, []⟩ (by simp)) (by simp [pnVL, V.pn, D.pn]) fun As h1 h2 h3 => ?_
    obtain ⟨x, y, rfl, ⟨hx, tx, _⟩, hy, ty, _⟩ := rp_args2 h1 h2 h3
    obtain ⟨s, rfl, e1⟩ := rp_sl tk_I hx tx
    obtain ⟨t, rfl, e2⟩ := rp_sl tk_I hy ty
    simp [plS] at e1 e2
    have := t_impl_unite s t (by rw [e1, e2]; exact hl)
    rw [e1, e2] at this
    exact this
  · obtain ⟨y, rfl, e1⟩ := h
    have e := er_cS (c := cI) (e := cI) (pl := plI) er_cI y
    simp [plS, e1, cS, erL] at e
    simp only [rp, e, pS]
theorem w_impl_AtomRelation (d : PDb) (a : PAtom) (hlk : lkB d a.rel = true) (har : (lkR d a.rel).ar = a.vars.length) (hv5 : a.vars.length ≤ 5) (hv : ∀ v ∈ a.vars, 0 ≤ v ∧ v < 5) :
   VC Try.prog 65 [.agg ((eDb d).map V.d), .agg ((eAtom a).map V.d)] (fun _ r => r = .agg ((eVRel ⟨aVars a.vars, ⟨(aVars a.vars).length, abR d a⟩⟩).map V.d)) := by
  obtain ⟨dl, hdl⟩ : ∃ dl, dl = d.tabs := ⟨_, rfl⟩
  have hde : (eDb d).map V.d = [V.d (.pl (dl.map eTab))] := by rw [hdl]; simp [eDb]
  obtain ⟨nm, vs⟩ := a
  refine VC.ofL EP s65 (by kernel_rfl) Try.func65 (by rfl) (by kernel_rfl) (by simp [Try.f65]) (by simp [Try.f65]) s65_ok fun B hl => ?_
  simp [Try.f65, s65_1, eAtom, cStr, hde]
  refine call_p (w_impl_AtomVariables ⟨nm, vs⟩) (by simp [eAtom, cStr]) fun hs1 hh1 hl1 => ?_
  simp at hh1
  simp [s65_1, ]
  refine call_p (w_impl_AtomBindings d ⟨nm, vs⟩ hlk har hv5 hv) (by simp [eAtom, cStr, hde]) fun hs2 hh2 hl2 => ?_
  simp at hh2
  simp [eReln, eVRel, s65_1, ]
theorem w_impl_IsQueryFor (d : PDb) (q : PQuery) : VC Try.prog 64 [.agg ((eDb d).map V.d), .agg ((eQuery q).map V.d)] (fun _ r => r = .d (.bool (qryFor d q))) := by
  obtain ⟨dl, hdl⟩ : ∃ dl, dl = d.tabs := ⟨_, rfl⟩
  have hde : (eDb d).map V.d = [V.d (.pl (dl.map eTab))] := by rw [hdl]; simp [eDb]
  have hqe : (eQuery q).map V.d = [V.d (.int .i64 q.n), V.d (.pl (q.atoms.map eAtom)), V.d (.pl (q.out.map cI))] := by simp [eQuery]
  refine VC.ofL EP s64 (by kernel_rfl) Try.func64 (by rfl) (by kernel_rfl) (by simp [Try.f64]) (by simp [Try.f64]) s64_ok fun B hl => ?_
  simp [Try.f64, hde, hqe]
  refine call_f (w_impl_IsValidQuery q) (by simp [hqe]) rfl fun hs1 hh1 => ?_
  simp at hh1
  cases hq : queryOk q
  · simp [qryFor, hq, ]
  simp []
  refine call_f (w_impl_IsValidDatabase d) (by simp [hde]) rfl fun hs2 hh2 => ?_
  simp at hh2
  cases hd : dbOk d
  · simp [qryFor, hq, hd, ]
  simp []
  have hb : ∀ b, qryFor d q = b ↔ (q.atoms.all fun a => lkB d a.rel && decide ((lkR d a.rel).ar = a.vars.length)) = b := fun b => by simp only [qryFor, hq, hd, Bool.true_and]
  refine loop_rule (X := Nat) (fun i => i ≤ q.atoms.length ∧ AllTo (fun a => lkB d a.rel && decide ((lkR d a.rel).ar = a.vars.length)) q.atoms i) (fun i => [(2, .ptr 2 0 0), (3, .ptr 3 0 0), (18, .d (.pl (q.atoms.map eAtom))), (19, .d (.int .i64 q.atoms.length)), (20, .d (.int .i64 i))])
    (fun i => [(2, some (.box [.d (.pl (dl.map eTab))])), (3, some (.box [.d (.int .i64 q.n), .d (.pl (q.atoms.map eAtom)), .d (.pl (q.out.map cI))]))]) (fun i => q.atoms.length - i) 0 ⟨by simp, allTo_zero⟩ (by simp) (by simp) ?_
  rintro i hs t m ⟨hi, hat⟩ hh
  have hal : q.atoms.length ≤ 4 := queryOk_a4 hq
  by_cases hlt : i < q.atoms.length
  · have hwi := wr1 (i := i) (by omega)
    obtain ⟨⟨nm, vs⟩, ha⟩ : ∃ a, a = q.atoms[i] := ⟨_, rfl⟩
    have hnot := fun h => all_bad (l := q.atoms) (p := fun a => lkB d a.rel && decide ((lkR d a.rel).ar = a.vars.length)) hlt h
    have hst := allTo_step hat hlt
    rw [← ha] at hnot hst
    simp [hlt, ← ha, eAtom, cStr]
    refine call_p (w_impl_LookupRelation d nm) (by simp [hde]) fun hs3 hh3 hl3 => ?_
    simp at hh3
    cases hlk : lkB d nm
    · have := hnot (by simp [hlk])
      simp [this, hb, eReln, ]
    by_cases har : (lkR d nm).ar = vs.length
    · simp [hwi, har, eReln, ]
      exact back (i + 1) ⟨by omega, hst (by simp [hlk, har])⟩ (by omega) rfl (by simp <;> omega) (by simp) (by simp)
    · have := hnot (by simp [hlk, har])
      simp [this, har, hb, eReln, ]
  · have := allTo_done hat (by omega)
    simp [hlt, this, hb, ]
theorem w_impl_bindings (d : PDb) (q : PQuery) : VC Try.prog 39 [.agg ((eDb d).map V.d), .agg ((eQuery q).map V.d)] (fun _ r => r = .tup [.agg ((eReln (bdP d q)).map V.d), .d (.bool (bdB d q))]) := by
  obtain ⟨dl, hdl⟩ : ∃ dl, dl = d.tabs := ⟨_, rfl⟩
  have hde : (eDb d).map V.d = [V.d (.pl (dl.map eTab))] := by rw [hdl]; simp [eDb]
  have hqe : (eQuery q).map V.d = [V.d (.int .i64 q.n), V.d (.pl (q.atoms.map eAtom)), V.d (.pl (q.out.map cI))] := by simp [eQuery]
  refine VC.ofL EP s39 (by kernel_rfl) Try.func39 (by rfl) (by kernel_rfl) (by simp [Try.f39]) (by simp [Try.f39]) s39_ok fun B hl => ?_
  simp [Try.f39, s39_25, hde, hqe]
  refine call_f (w_impl_IsQueryFor d q) (by simp [hde, hqe]) rfl fun hs1 hh1 => ?_
  simp at hh1
  cases hqf : qryFor d q
  · simp [bdB, bdP, hqf, eReln, s39_25, ]
  have f := qf_of hqf
  simp [s39_25, ]
  have ha4 := f.a4
  refine loop_ruleL (X := Nat) (fun i _ => i ≤ q.atoms.length) (fun i => [(2, .ptr 2 0 0), (3, .ptr 3 0 0), (4, .ptr 4 0 0), (6, .d (.pl ((binds d (q.atoms.take i)).2.map (cP cI)))), (7, .d (.pl ((binds d (q.atoms.take i)).1.map cI))), (29, .d (.pl (q.atoms.map eAtom))), (30, .d (.int .i64 q.atoms.length)), (31, .d (.int .i64 i))])
    (fun i => [(2, some (.box [.d (.pl (dl.map eTab))])), (3, some (.box [.d (.int .i64 q.n), .d (.pl (q.atoms.map eAtom)), .d (.pl (q.out.map cI))])), (4, some (.box [.d (.int .i64 0), .d (.sl none none [])]))]) (fun i => q.atoms.length - i) ?_ ?_
  · refine (lead_frp 26 (T := 26) (sz := 1) (es := [[.pl []]]) (by simp)).bind ?_
    rintro _ rfl
    refine (lead_frp 27 (T := 3) (sz := 1) (es := []) (by simp)).bind ?_
    rintro _ rfl
    exact Lead.of ⟨0, by omega, rfl, rfl, Nat.le_refl _, by simp [binds], by simp⟩
  intro i hs t m hi hh
  by_cases hlt : i < q.atoms.length
  · have hwi := wr1 (i := i) (by omega)
    have hmem := List.getElem_mem hlt
    obtain ⟨⟨nm, vs⟩, ha⟩ : ∃ a, a = q.atoms[i] := ⟨_, rfl⟩
    have hsc := binds_succ d hlt
    have hl5 := binds_len5 f i
    have hle := binds_le f (i := i) (by omega)
    have hjn := binds_jn_take f i
    rw [← ha] at hmem hsc
    have hlk := f.lk _ hmem
    have har := f.ar _ hmem
    have hvl := f.vlen _ hmem
    have hvi : ∀ v ∈ vs, 0 ≤ v ∧ v < 5 := fun v hv => by have := f.vin _ hmem v hv; have := f.n5; omega
    have hab := abR_size f hmem
    have hav := aVars_len5 vs
    have hul := jn_len5 f (hjn.step (a := ⟨nm, vs⟩) hvi) (fun b hb => by
      rcases List.mem_append.1 hb with h | h
      · exact List.mem_of_mem_take h
      · rw [List.mem_singleton] at h; rw [h]; exact hmem)
    have huv := uniL_pw (aVars vs) hjn.pw
    have hal : ∀ s ∈ abR d ⟨nm, vs⟩, s.length = (aVars vs).length := ab_len
    have hrl := hjn.len
    simp only at hlk har hvl
    obtain ⟨⟨A, R⟩, hAR⟩ : ∃ p, p = binds d (q.atoms.take i) := ⟨_, rfl⟩
    obtain ⟨BV, hBV⟩ : ∃ b, b = aVars vs := ⟨_, rfl⟩
    obtain ⟨L, hL⟩ : ∃ l, l = abR d ⟨nm, vs⟩ := ⟨_, rfl⟩
    obtain ⟨U, hU⟩ : ∃ u, u = uniL A BV := ⟨_, rfl⟩
    simp only [joinS, ← hAR, ← hBV, ← hL, ← hU] at hsc hl5 hle hab hav hul huv hal hrl ⊢
    refine anyQ2 fun Q => ?_
    simp [hlt, ← ha, s39_25, eAtom, cStr]
    refine call_p (w_impl_AtomRelation d ⟨nm, vs⟩ hlk har hvl.2 hvi) (by simp [hde, eAtom, cStr]) fun hs2 hh2 hl2 => ?_
    simp at hh2
    rw [← hBV, ← hL]
    simp [s39_25, eVRel, eReln]
    refine call_p (p_impl_unite A BV (by omega)) (by simp) fun hs3 hh3 hl3 => ?_
    simp at hh3
    rw [← hU]
    simp [s39_25, ]
    refine loop_ruleL (X := Nat) (fun k _ => k ≤ R.length) (fun k => [(2, .ptr 2 0 0), (3, .ptr 3 0 0), (4, .ptr 4 0 0), (7, .d (.pl (A.map cI))), (10, .ptr 10 0 0), (11, .own 70 0 (joinL U A (R.take k) BV L).length), (12, .d (.pl (U.map cI))), (29, .d (.pl (q.atoms.map eAtom))), (30, .d (.int .i64 q.atoms.length)), (31, .d (.int .i64 i)), (42, .d (.pl (R.map (cP cI)))), (43, .d (.int .i64 R.length)), (44, .d (.int .i64 k))])
      (fun k => [(2, some (.box [.d (.pl (dl.map eTab))])), (3, some (.box [.d (.int .i64 q.n), .d (.pl (q.atoms.map eAtom)), .d (.pl (q.out.map cI))])), (4, some (.box [.d (.int .i64 0), .d (.sl none none [])])), (10, some (.box [.d (.pl (BV.map cI)), .d (.int .i64 BV.length), .d (.pl (L.map (cP cI)))])), (70, some (.row 26 1 ((joinL U A (R.take k) BV L).map (cP cI))))]) (fun k => R.length - k) ?_ ?_
    · refine (lead_slot 11 70 26 1 (by omega) (by omega) (by simp)).bind ?_
      rintro _ rfl
      exact Lead.of ⟨0, by omega, rfl, rfl, Nat.le_refl _, by simp [joinL_nil], by simp [joinL_nil]⟩
    intro k hs4 t m hk hh4
    by_cases hkl : k < R.length
    · have hwk := wr1 (i := k) (by omega)
      have hrk := hrl _ (List.getElem_mem hkl)
      obtain ⟨r, hr⟩ : ∃ r, r = R[k] := ⟨_, rfl⟩
      have hgd : R.getD k [] = r := by rw [hr, List.getD_eq_getElem?_getD, List.getElem?_eq_getElem hkl]; rfl
      have hz := jnI_zero U A R BV L k
      have hA := jnI_all (u := U) (a := A) (b := BV) (list := L) hkl
      rw [← hr] at hrk
      refine anyQ2 fun Q2 => ?_
      simp [hkl, ← hr, s39_25, ]
      refine loop_rule (X := Nat) (fun j => j ≤ L.length) (fun j => [(2, .ptr 2 0 0), (3, .ptr 3 0 0), (4, .ptr 4 0 0), (7, .d (.pl (A.map cI))), (10, .ptr 10 0 0), (11, .own 70 0 (jnI U A R BV L k j).length), (12, .d (.pl (U.map cI))), (14, .d (.pl (r.map cI))), (29, .d (.pl (q.atoms.map eAtom))), (30, .d (.int .i64 q.atoms.length)), (31, .d (.int .i64 i)), (42, .d (.pl (R.map (cP cI)))), (43, .d (.int .i64 R.length)), (44, .d (.int .i64 k)), (50, .d (.pl (L.map (cP cI)))), (51, .d (.int .i64 L.length)), (52, .d (.int .i64 j))])
        (fun j => [(2, some (.box [.d (.pl (dl.map eTab))])), (3, some (.box [.d (.int .i64 q.n), .d (.pl (q.atoms.map eAtom)), .d (.pl (q.out.map cI))])), (4, some (.box [.d (.int .i64 0), .d (.sl none none [])])), (10, some (.box [.d (.pl (BV.map cI)), .d (.int .i64 BV.length), .d (.pl (L.map (cP cI)))])), (70, some (.row 26 1 ((jnI U A R BV L k j).map (cP cI))))]) (fun j => L.length - j) 0 (by simp) (by simp [hz]) (by simp [hz]) ?_
      intro j hs5 t m hj hh5
      by_cases hjl : j < L.length
      · have hwj := wr1 (i := j) (by omega)
        have hsl := hal _ (List.getElem_mem hjl)
        obtain ⟨s, hs'⟩ : ∃ s, s = L[j] := ⟨_, rfl⟩
        have hsu := jnI_succ (u := U) (a := A) (rows := R) (b := BV) (k := k) hjl
        have hjle := jnI_len (u := U) (a := A) (rows := R) (b := BV) (list := L) (k := k) (j := j) (by omega) hab
        rw [← hs'] at hsl hsu
        rw [hgd] at hsu
        obtain ⟨X, hX⟩ : ∃ x, x = jnI U A R BV L k j := ⟨_, rfl⟩
        rw [← hX] at hsu hjle ⊢
        have hLo : LenOk 24 (X.length + 1) := ⟨by omega, by simp only [maxLen]; omega⟩
        simp [hjl, ← hs', s39_25, ]
        refine call_p (w_impl_glue U A r BV s (by omega) (fun v hv => (huv.2 v).1 hv) hrk hsl) (by simp) fun hs6 hh6 hl6 => ?_
        simp at hh6
        cases hg : glB U A r BV s
        · rw [hg] at hsu
          simp [hwj, s39_25, ]
          exact back (j + 1) (by omega) (by omega) rfl (by simp <;> omega) (by simp [hsu]) (by simp [hsu])
        · rw [hg] at hsu
          simp [hwj, hLo, List.take_of_length_le, s39_25, ]
          exact back (j + 1) (by omega) (by omega) rfl (by simp <;> omega) (by simp [hsu]) (by simp [hsu])
      · have hn : j = L.length := by omega
        subst hn
        simp [hwk, s39_25, ]
        exact back2 (k + 1) (by omega) (by omega) rfl (by simp <;> omega) (by simp [hA]) (by simp [hA])
    · have hn : k = R.length := by omega
      subst hn
      rw [List.take_of_length_le (Nat.le_refl _)]
      simp [hwi, s39_25, ]
      refine Back2.lead (lead_frp 70 (T := 26) (sz := 1) (es := (joinL U A R BV L).map (cP cI)) (by simp)) ?_
      rintro _ rfl
      exact back2 (i + 1) (by omega) (by omega) rfl (by simp <;> omega) (by simp [hsc, List.take_of_length_le]) (by simp)
  · have hn : i = q.atoms.length := by omega
    subst hn
    simp [s39_25, ]
    have hle := binds_le f (i := q.atoms.length) (by omega)
    have hjn := binds_jn f
    have hv5 := binds_len5 f q.atoms.length
    rw [List.take_of_length_le (Nat.le_refl _)] at hle hv5
    refine ⟨?_, ?_⟩
    all_goals
      refine call_p (w_impl_sorted (binds d q.atoms).2 (by omega) (fun r hr => by have := hjn.len r hr; omega)) (by simp) fun hs2 hh2 hl2 => ?_
      simp at hh2
      simp [s39_25, ]
      refine call_f (w_impl_IsValidRelation ⟨q.n, srtU (binds d q.atoms).2⟩) (by simp [eReln]) rfl fun hs3 hh3 => ?_
      simp at hh3
      cases hv : rowsOk q.n (srtU (binds d q.atoms).2)
      · simp [bdB, bdP, hqf, hv, eReln, s39_25, ]
      · simp [bdB, bdP, hqf, hv, eReln, s39_25, ]
end

end Go.Proofs.Ytohbmjknaeenjaa

namespace Go.Proofs.Ytohbmjknaeenjaa
open Go.Vs Go.Proofs Go
set_option maxRecDepth 100000
set_option maxHeartbeats 1000000

section
attribute [local simp] plI_id plStr_id map_plI map_plStr pS cP cI
theorem w_spec_IsQueryFor (d : PDb) (q : PQuery) (hst : ∀ t ∈ d.tabs, t.name.length ≤ maxLen) (hsq : ∀ a ∈ q.atoms, a.rel.length ≤ maxLen) : VC Try.prog 30 [.agg ((eDb d).map V.d), .agg ((eQuery q).map V.d)] (fun _ r => r = .d (.bool (qryFor d q))) := by
  obtain ⟨dl, hdl⟩ : ∃ dl, dl = d.tabs := ⟨_, rfl⟩
  have hde : (eDb d).map V.d = [V.d (.pl (dl.map eTab))] := by rw [hdl]; simp [eDb]
  have hqe : (eQuery q).map V.d = [V.d (.int .i64 q.n), V.d (.pl (q.atoms.map eAtom)), V.d (.pl (q.out.map cI))] := by simp [eQuery]
  refine VC.ofL EP s30 (by kernel_rfl) Try.func30 (by rfl) (by kernel_rfl) (by simp [Try.f30]) (by simp [Try.f30]) s30_ok fun B hl => ?_
  simp [hde, hqe, lnVL, V.ln, D.ln, maxLen] at hl
  simp [Try.f30, s30_4, s30_5, hde, hqe]
  refine loop_rule (X := Nat) (fun i => i ≤ q.atoms.length ∧ AllTo (fun a => lkB d a.rel && decide ((lkR d a.rel).ar = a.vars.length)) q.atoms i) (fun i => [(2, .ptr 2 0 0), (3, .ptr 3 0 0), (5, .d (.int .i64 i))])
    (fun i => [(2, some (.box [.d (.pl (dl.map eTab))])), (3, some (.box [.d (.int .i64 q.n), .d (.pl (q.atoms.map eAtom)), .d (.pl (q.out.map cI))]))]) (fun i => q.atoms.length - i) 0 ⟨by simp, allTo_zero⟩ (by simp) (by simp) ?_
  rintro i hs t m ⟨hi, hat⟩ hh
  by_cases hlt : i < q.atoms.length
  · have hwi := wr1 (i := i) (by omega)
    obtain ⟨⟨nm, vs⟩, ha⟩ : ∃ a, a = q.atoms[i] := ⟨_, rfl⟩
    have hnot := fun h => all_bad (l := q.atoms) (p := fun a => lkB d a.rel && decide ((lkR d a.rel).ar = a.vars.length)) hlt h
    have hst' := allTo_step hat hlt
    have hb : (q.atoms.all fun a => lkB d a.rel && decide ((lkR d a.rel).ar = a.vars.length)) = false → qryFor d q = false := fun h => by simp only [qryFor, h, Bool.and_false]
    rw [← ha] at hnot hst'
    simp [hlt, ← ha, s30_5, eAtom, cStr]
    refine cutT (X := Unit) (fun _ _ => True) (fun _ => [(2, .ptr 2 0 0), (3, .ptr 3 0 0), (5, .d (.int .i64 i)), (6, .ptr 6 0 0), (7, .d (.bool (lkB d nm)))])
      (fun _ => [(2, some (.box [.d (.pl (dl.map eTab))])), (3, some (.box [.d (.int .i64 q.n), .d (.pl (q.atoms.map eAtom)), .d (.pl (q.out.map cI))])), (6, some (.box ((eReln (lkR d nm)).map V.d)))]) ?_ ?_
    · intro K hK
      simp [hlt, ← ha, eAtom, cStr, s30_4, ]
      repeat' apply And.intro
      all_goals
        refine call_p (w_spec_LookupRelation d nm hst) (by simp [hde]) fun hs3 hh3 hl3 => ?_
        simp at hh3
        simp [eReln, s30_4, ]
        exact hK () _ trivial rfl rfl (by simp <;> omega) (by simp) (by simp [eReln])
    rintro ⟨⟩ hs3 t m - hh3
    cases hlk : lkB d nm
    · have := hb (hnot (by simp [hlk]))
      simp [this, eReln, s30_4, s30_5, ]
    by_cases har : (lkR d nm).ar = vs.length
    · simp [hwi, har, hlt, ← ha, eAtom, cStr, eReln, s30_4, s30_5, ]
      exact back (i + 1) ⟨by omega, hst' (by simp [hlk, har])⟩ (by omega) rfl (by simp <;> omega) (by simp) (by simp)
    · have := hb (hnot (by simp [hlk, har]))
      simp [this, har, hlt, ← ha, eAtom, cStr, eReln, s30_4, s30_5, ]
  · have := allTo_done hat (by omega)
    simp [hlt, s30_4, s30_5, ]
    refine call_f (w_spec_IsValidQuery q hsq) (by simp [hqe]) rfl fun hs1 hh1 => ?_
    simp at hh1
    cases hq : queryOk q
    · simp [qryFor, hq, s30_4, s30_5, ]
    simp [s30_4, s30_5, ]
    refine call_f (w_spec_IsValidDatabase d hst) (by simp [hde]) rfl fun hs2 hh2 => ?_
    simp at hh2
    simp [qryFor, hq, this, s30_4, s30_5, ]
theorem w_spec_l8Walk (d : PDb) (q : PQuery) (f : Qf d q) (hst : ∀ t ∈ d.tabs, t.name.length ≤ maxLen) (row : List Int) (hrow : row.length = q.n.toNat) : ∀ (k n : Nat), n + k = q.atoms.length → 
   VC Try.prog 52 [.agg ((eDb d).map V.d), .agg ((eQuery q).map V.d), .d (.int .i64 n), .d (pS cI row)] (fun _ r => r = .d (pS (cP cI) (walkL d (q.atoms.drop n) row))) := by
  obtain ⟨dl, hdl⟩ : ∃ dl, dl = d.tabs := ⟨_, rfl⟩
  have hde : (eDb d).map V.d = [V.d (.pl (dl.map eTab))] := by rw [hdl]; simp [eDb]
  have hqe : (eQuery q).map V.d = [V.d (.int .i64 q.n), V.d (.pl (q.atoms.map eAtom)), V.d (.pl (q.out.map cI))] := by simp [eQuery]
  intro k
  induction k generalizing row with
  | zero =>
    intro n hn
    refine VC.ofL EP s52 (by kernel_rfl) Try.func52 (by rfl) (by kernel_rfl) (by simp [Try.f52]) (by simp [Try.f52]) s52_ok fun B hl => ?_
    have hn : n = q.atoms.length := by omega
    subst hn
    simp [pS, lnVL, V.ln, D.ln] at hl
    have hn5 := f.n5
    have hL : LenOk 8 row.length := ⟨by omega, by simp only [maxLen]; omega⟩
    simp [Try.f52, s52_4, s52_14, hde, hqe, hL, List.take_of_length_le, walkL, List.drop_length]
  | succ k ih =>
    intro n hn
    have hlt : n < q.atoms.length := by omega
    have hmem := List.getElem_mem hlt
    obtain ⟨⟨nm, vs⟩, ha⟩ : ∃ a, a = q.atoms[n] := ⟨_, rfl⟩
    rw [← ha] at hmem
    have hlk := f.lk _ hmem
    have har := f.ar _ hmem
    have hvl := f.vlen _ hmem
    have hvi := f.vin _ hmem
    have hn5 := f.n5
    have ha4 := f.a4
    have hr16 := lk_rows hlk
    have hro := lk_ok hlk
    have hdr : q.atoms.drop n = ⟨nm, vs⟩ :: q.atoms.drop (n + 1) := by rw [ha]; exact List.drop_eq_getElem_cons hlt
    have hne : ¬ n = q.atoms.length := by omega
    have hwn := wr1 (i := n) (by omega)
    have h16 : ∀ a ∈ q.atoms.drop (n + 1), (lkR d a.rel).rows.length ≤ 16 := fun a h => lk_rows (f.lk a (List.mem_of_mem_drop h))
    have hd4 : (q.atoms.drop (n + 1)).length ≤ 4 := by rw [List.length_drop]; omega
    have hwa := fun (ts : List (List Int)) => wkF_all (d := d) (al := q.atoms.drop (n + 1)) (vs := vs) (row := row) (ts := ts) h16 hd4
    rw [hdr, walkL_cons]
    simp only at hlk har hvl hvi
    have hrl := fun (t : List Int) (ht : t ∈ (lkR d nm).rows) => (rowsOk_mem hro ht).1
    obtain ⟨R, hR⟩ : ∃ R, R = lkR d nm := ⟨_, rfl⟩
    simp only [← hR] at hrl hr16 har ⊢
    obtain ⟨ra, rl⟩ := R
    simp only at hrl hr16 har
    subst har
    refine VC.ofL EP s52 (by kernel_rfl) Try.func52 (by rfl) (by kernel_rfl) (by simp [Try.f52]) (by simp [Try.f52]) s52_ok fun B hl => ?_
    simp [Try.f52, s52_14, s52_14, hde, hqe, hlt, ← ha, hne]
    refine cutT (X := Unit) (fun _ _ => True) (fun _ => [(2, .d (.int .i64 n)), (3, .d (.pl (row.map cI))), (4, .ptr 4 0 0), (5, .ptr 5 0 0), (8, .d (.sl none none [])), (9, .own 26 0 0), (10, .ptr 10 0 0)])
      (fun _ => [(4, some (.box [.d (.pl (dl.map eTab))])), (5, some (.box [.d (.int .i64 q.n), .d (.pl (q.atoms.map eAtom)), .d (.pl (q.out.map cI))])), (10, some (.box [.d (.int .i64 vs.length), .d (.pl (rl.map (cP cI)))])), (26, some (.row 26 1 []))]) ?_ ?_
    · intro K hK
      simp [hlt, ← ha, eAtom, cStr, s52_4, ]
      repeat' apply And.intro
      all_goals
        refine call_p (w_spec_LookupRelation d nm hst) (by simp [hde]) fun hs1 hh1 hl1 => ?_
        simp at hh1
        simp [← hR, eReln, s52_4, ]
        exact hK () _ trivial rfl rfl (by simp <;> omega) (by simp) (by simp)
    rintro ⟨⟩ hs0 t m - hh0
    obtain ⟨G, hG⟩ : ∃ G : Nat → List (List Int), ∀ i, G i = (rl.take i).flatMap (wkF d (q.atoms.drop (n + 1)) vs row) := ⟨_, fun _ => rfl⟩
    have hG0 : G 0 = [] := by rw [hG]; rfl
    have hGs : ∀ i (h : i < rl.length), G (i + 1) = G i ++ wkF d (q.atoms.drop (n + 1)) vs row rl[i] := fun i h => by rw [hG, hG]; exact flatMap_succ h
    have hGe : rl.flatMap (wkF d (q.atoms.drop (n + 1)) vs row) = G rl.length := by rw [hG, List.take_of_length_le (Nat.le_refl _)]
    have hGl : ∀ i, (G i).length ≤ min i rl.length * 65536 := fun i => by have := hwa (rl.take i); rwa [List.length_take, ← hG] at this
    rw [hGe]
    simp [s52_4, s52_14, ]
    refine loop_rule (X := Nat) (fun i => i ≤ rl.length) (fun i => [(2, .d (.int .i64 n)), (3, .d (.pl (row.map cI))), (4, .ptr 4 0 0), (5, .ptr 5 0 0), (8, .d (.sl none none [])), (9, .own 26 0 (G i).length), (10, .ptr 10 0 0), (12, .d (.int .i64 i))])
      (fun i => [(4, some (.box [.d (.pl (dl.map eTab))])), (5, some (.box [.d (.int .i64 q.n), .d (.pl (q.atoms.map eAtom)), .d (.pl (q.out.map cI))])), (10, some (.box [.d (.int .i64 vs.length), .d (.pl (rl.map (cP cI)))])), (26, some (.row 26 1 ((G i).map (cP cI))))]) (fun i => rl.length - i) 0 (by simp) (by simp [hG0]) (by simp [hG0]) ?_
    intro i hs t m hi hh
    by_cases hil : i < rl.length
    · have hwi := wr1 (i := i) (by omega)
      have htl := hrl _ (List.getElem_mem hil)
      obtain ⟨tt, ht⟩ : ∃ tt, tt = rl[i] := ⟨_, rfl⟩
      have hsu := hGs i hil
      have hln := hGl i
      rw [← ht] at htl hsu
      obtain ⟨O, hO⟩ : ∃ O, O = G i := ⟨_, rfl⟩
      rw [← hO] at hsu hln ⊢
      have hLr : LenOk 8 row.length := ⟨by omega, by simp only [maxLen]; omega⟩
      simp [hil, hLr, List.take_of_length_le, s52_4, s52_14, ]
      refine loop_rule (X := Nat × List Int × Bool) (fun p => AsS row vs tt p.1 p.2.1 p.2.2) (fun p => [(2, .d (.int .i64 n)), (3, .d (.pl (row.map cI))), (4, .ptr 4 0 0), (5, .ptr 5 0 0), (8, .d (.sl none none [])), (9, .own 26 0 O.length), (10, .ptr 10 0 0), (12, .d (.int .i64 i)), (13, .own 45 0 row.length), (14, .d (.bool p.2.2)), (15, .d (.int .i64 p.1))])
        (fun p => [(4, some (.box [.d (.pl (dl.map eTab))])), (5, some (.box [.d (.int .i64 q.n), .d (.pl (q.atoms.map eAtom)), .d (.pl (q.out.map cI))])), (10, some (.box [.d (.int .i64 vs.length), .d (.pl (rl.map (cP cI)))])), (26, some (.row 26 1 (O.map (cP cI)))), (45, some (.row 3 1 (p.2.1.map cI)))]) (fun p => vs.length - p.1) (0, row, true) .zero (by simp) (by simp) ?_
      rintro ⟨j, x, fits⟩ hs4 t m hA hh4
      simp only at hA
      have hle := hA.le
      have hxl := hA.len
      by_cases hc : fits = true ∧ j < vs.length
      · obtain ⟨rfl, hjl⟩ := hc
        have hwj := wr1 (i := j) (by omega)
        have hvj := hvi _ (List.getElem_mem hjl)
        have hjt : j < tt.length := by omega
        have hsp := hA.step hjl hjt
        obtain ⟨v, hv⟩ : ∃ v : Nat, vs[j] = (v : Int) := ⟨vs[j].toNat, by omega⟩
        have hvx : v < x.length := by omega
        rw [hv, Int.toNat_natCast, getD_el _ hvx] at hsp
        by_cases h1 : x[v] = -1
        · simp only [h1, true_or, decide_true] at hsp
          rw [hxl] at hvx
          simp [hjl, hv, h1, hlt, ← ha, ← ht, eAtom, hwj, hvx, hjt, hil, hxl, -List.map_set, s52_4, s52_14, ]
          exact back (j + 1, x.set v tt[j], true) hsp (by simp only; omega) rfl (by simp <;> omega) (by simp) (by simp)
        · simp only [h1, false_or] at hsp
          rw [hxl] at hvx
          simp [hjl, hv, h1, hlt, ← ha, ← ht, eAtom, hwj, hvx, hjt, hil, hxl, -List.map_set, s52_4, s52_14, ]
          exact back (j + 1, x.set v tt[j], decide (x[v] = tt[j])) hsp (by simp only; omega) rfl (by simp <;> omega) (by simp) (by simp)
      · have hdn := hA.done (fun h => Nat.le_of_not_lt fun h2 => hc ⟨h, h2⟩)
        cases fits
        · by_cases hjl : j < vs.length
          · simp [hjl, hwi, s52_4, s52_14, ]
            exact back (i + 1) (by omega) (by omega) rfl (by simp <;> omega) (by simp [hsu, wkF, hdn]) (by simp [hsu, wkF, hdn])
          · simp [hjl, hwi, s52_4, s52_14, ]
            exact back (i + 1) (by omega) (by omega) rfl (by simp <;> omega) (by simp [hsu, wkF, hdn]) (by simp [hsu, wkF, hdn])
        · have hjl : ¬ j < vs.length := fun h => hc ⟨rfl, h⟩
          simp [hjl, hwi, hwn, s52_4, s52_14, ]
          have hx2 : (x.map cI).take row.length = x.map cI := List.take_of_length_le (by simp [hxl])
          have hwl := wkF_len (d := d) (al := q.atoms.drop (n + 1)) (vs := vs) (row := row) (t := tt) h16 hd4
          rw [if_pos rfl] at hdn
          have hwe : wkF d (q.atoms.drop (n + 1)) vs row tt = walkL d (q.atoms.drop (n + 1)) x := by rw [wkF, hdn]
          rw [hwe] at hsu hwl
          have hLw : LenOk 24 (O.length + (walkL d (q.atoms.drop (n + 1)) x).length) := ⟨by omega, by simp only [maxLen]; omega⟩
          refine call_p (ih x (by omega) (n + 1) (by omega)) (by simp [hde, hqe, hx2, show row.length ≤ x.length by omega]) fun hs5 hh5 hl5 => ?_
          simp at hh5
          simp [hwi, hLw, s52_4, s52_14, ]
          exact back (i + 1) (by omega) (by omega) rfl (by simp <;> omega) (by simp [hsu]) (by simp [hsu, List.take_of_length_le])
    · have hn : i = rl.length := by omega
      subst hn
      obtain ⟨O, hO⟩ : ∃ O, O = G rl.length := ⟨_, rfl⟩
      rw [← hO]
      simp [List.take_of_length_le, s52_4, s52_14, ]
theorem w_spec_AllBindings (d : PDb) (q : PQuery) (hst : ∀ t ∈ d.tabs, t.name.length ≤ maxLen) (hsq : ∀ a ∈ q.atoms, a.rel.length ≤ maxLen) : VC Try.prog 29 [.agg ((eDb d).map V.d), .agg ((eQuery q).map V.d)] (fun _ r => r = .agg ((eReln (abP d q)).map V.d)) := by
  obtain ⟨dl, hdl⟩ : ∃ dl, dl = d.tabs := ⟨_, rfl⟩
  have hde : (eDb d).map V.d = [V.d (.pl (dl.map eTab))] := by rw [hdl]; simp [eDb]
  have hqe : (eQuery q).map V.d = [V.d (.int .i64 q.n), V.d (.pl (q.atoms.map eAtom)), V.d (.pl (q.out.map cI))] := by simp [eQuery]
  refine VC.ofL EP s29 (by kernel_rfl) Try.func29 (by rfl) (by kernel_rfl) (by simp [Try.f29]) (by simp [Try.f29]) s29_ok fun B hl => ?_
  simp [Try.f29, s29_6, hde, hqe]
  refine call_f (w_spec_IsQueryFor d q hst hsq) (by simp [hde, hqe]) rfl fun hs1 hh1 => ?_
  simp at hh1
  cases hqf : qryFor d q
  · simp [abP, hqf, eReln, s29_6, ]
  have f := qf_of hqf
  have hn5 := f.n5
  obtain ⟨N, hN⟩ : ∃ N : Nat, q.n = (N : Int) := ⟨q.n.toNat, by omega⟩
  have hNt : q.n.toNat = N := by omega
  have hwm := fun z => (walk_mem f z).1
  have hws : (walkL d q.atoms (List.replicate q.n.toNat (-1))).length ≤ 65536 := by
    refine Nat.le_trans (walk_size _ _ fun a ha => lk_rows (f.lk a ha)) ?_
    have : 16 ^ q.atoms.length ≤ 16 ^ 4 := Nat.pow_le_pow_right (by omega) f.a4.2
    simpa using this
  have hwk := w_spec_l8Walk d q f hst (List.replicate q.n.toNat (-1)) (by simp) q.atoms.length 0 (by omega)
  rw [List.drop_zero] at hwk
  have hab : abP d q = newR q.n (walkL d q.atoms (List.replicate q.n.toNat (-1))) := by simp only [abP, hqf, if_true]
  rw [hab]
  rw [hNt] at hwm hws hwk ⊢
  obtain ⟨W, hW⟩ : ∃ W, W = walkL d q.atoms (List.replicate N (-1)) := ⟨_, rfl⟩
  rw [← hW] at hwm hws hwk ⊢
  simp [s29_6, ]
  refine loop_rule (X := Nat) (fun i => i ≤ N) (fun i => [(2, .ptr 2 0 0), (3, .ptr 3 0 0), (4, .ptr 4 0 0), (5, .own 13 0 i)])
    (fun i => [(2, some (.box [.d (.pl (dl.map eTab))])), (3, some (.box [.d (.int .i64 q.n), .d (.pl (q.atoms.map eAtom)), .d (.pl (q.out.map cI))])), (4, some (.box [.d (.int .i64 0), .d (.sl none none [])])), (13, some (.row 3 1 ((List.replicate i (-1)).map cI)))]) (fun i => N - i) 0 (by simp) (by simp) (by simp) ?_
  intro i hs t m hi hh
  by_cases hlt : i < N
  · have hL : LenOk 8 (i + 1) := ⟨by omega, by simp only [maxLen]; omega⟩
    have hli : (i : Int) < q.n := by omega
    simp [hli, hL, List.take_of_length_le, s29_6, ]
    exact back (i + 1) (by omega) (by omega) rfl (by simp <;> omega) (by simp) (by simp [List.replicate_succ'])
  · have hn : i = N := by omega
    subst hn
    have hli : ¬ (i : Int) < q.n := by omega
    simp [hli, ]
    refine cutT (X := Unit) (fun _ _ => True) (fun _ => [(4, .ptr 4 0 0), (6, .ptr 6 0 0), (7, .d (.bool (newB q.n W)))])
      (fun _ => [(4, some (.box [.d (.int .i64 0), .d (.sl none none [])])), (6, some (.box ((eReln (newR q.n W)).map V.d)))]) ?_ ?_
    · intro K hK
      simp [s29_6, ]
      repeat' apply And.intro
      all_goals
        refine call_p hwk (by simp [hde, hqe, List.take_of_length_le]) fun hs3 hh3 hl3 => ?_
        simp at hh3
        simp [s29_6, ]
        repeat' apply And.intro
        all_goals
          refine call_p (w_spec_NewRelation q.n W (by omega) (fun x hx => by have := (hwm x hx).1; omega)) (by simp) fun hs4 hh4 hl4 => ?_
          simp at hh4
          simp [eReln, s29_6, ]
          exact hK () _ trivial rfl rfl (by simp <;> omega) (by simp) (by simp [eReln])
    rintro ⟨⟩ hs3 t m - hh3
    cases hnb : newB q.n W
    · simp [eReln, newR, hnb, s29_6, ]
    · simp [eReln, s29_6, ]
end

end Go.Proofs.Ytohbmjknaeenjaa

namespace Go.Proofs.Ytohbmjknaeenjaa
open Go.Vs Go.Proofs Go
set_option maxRecDepth 100000
set_option maxHeartbeats 1000000

section
attribute [local simp] plI_id plStr_id map_plI map_plStr
theorem e_impl_copyQuery (q : PQuery) (h1 : q.atoms.length ≤ 1000) (h2 : ∀ a ∈ q.atoms, a.vars.length ≤ 1000) (h3 : q.out.length ≤ 1000) (hst : ∀ a ∈ q.atoms, a.rel.length ≤ maxLen) : VC Try.prog 42 [.agg ((eQuery q).map V.d)]
   (fun n v => ∃ y : Query, v = .agg ((cQuery y).map V.d) ∧ plQuery y = q ∧ okQuery y ∧ Good (cQuery y) (whQuery y) n) := by
  refine VC.of E s42 (by kernel_rfl) Try.func42 (by rfl) (by kernel_rfl) (by simp [Try.f42]) (by simp [Try.f42]) s42_ok fun B => ?_
  obtain ⟨qn, l, qo⟩ := q
  simp only at h1 h2 h3 hst
  simp [Try.f42, s42_5, s42_5, eQuery, pS, cI, cP]
  refine cutT (X := Ints) (fun y0 hs => plS plI y0 = qo ∧ okS okI y0 ∧ Good (cS cI y0) (whS whI y0) B ∧ ∀ g ∈ idsL (cS cI y0), g < hs) (fun _ => [(1, .ptr 1 0 0), (2, .ptr 2 0 0), (3, .ptr 3 0 0)])
    (fun y0 => [(1, some (.box [.d (.int .i64 qn), .d (.pl (l.map eAtom)), .d (.pl (qo.map cI))])), (2, some (.box [.d (.int .i64 0), .d (.sl none none []), .d (.sl none none [])])), (3, some (.box [.d (.int .i64 qn), .d (.sl none none []), .d (dSl cI y0)]))]) ?_ ?_
  · intro K hK
    simp [s42_1, ]
    repeat' apply And.intro
    all_goals
      refine call_some (e_impl_copyInts qo (by omega)) (by simp [pS, cI]) (by simp) fun n1 hs1 r1 hn1 hm1 hp1 hr1 => ?_
      obtain ⟨y0, rfl, p0, k0, G0⟩ := hp1
      simp at hn1
      have u0 : ∀ g ∈ idsL (cS cI y0), g < hs1 := fun g hg => hr1 g (by rw [idsL_cS] at hg; exact hg)
      simp [s42_1, ]
      exact hK y0 _ ⟨p0, k0, G0.le (by omega), u0⟩ rfl rfl (by simp <;> omega) (by simp) (by simp)
  rintro y0 hs0 t m ⟨p0, k0, G0, u0⟩ hh0
  simp [s42_1, s42_5, ]
  refine loop_ruleL (X := Nat × List Atom) (CopI cAtom whAtom okAtom plAtom l hs0) (fun p => [(1, .ptr 1 0 0), (2, .ptr 2 0 0), (3, .ptr 3 0 0), (13, .d (.pl (l.map eAtom))), (14, .d (.int .i64 l.length)), (15, .d (.int .i64 p.1))]) (fun p => [(2, some (.box [.d (.int .i64 0), .d (.sl none none []), .d (.sl none none [])])), (3, some (.box [.d (.int .i64 qn), .own 28 0 p.2.length, .d (dSl cI y0)])), (28, some (.row 99 2 (p.2.map cAtom)))]) (fun p => l.length - p.1) ?_ ?_
  · refine (lead_box 3 1 28 99 2 [.d (.int .i64 qn), .d (.sl none none []), .d (dSl cI y0)] (by omega) (by omega) (by omega) (by simp) rfl).bind ?_
    rintro _ rfl
    exact Lead.of ⟨(0, []), .zero, rfl, rfl, Nat.le_refl _, by simp, by simp⟩
  rintro ⟨i, ys⟩ hs t m hI hh
  have hle := hI.le
  have hyl := hI.len
  simp only at hle
  by_cases hlt : i < l.length
  · have hwi := wr1 (i := i) (by omega)
    have hL : LenOk 40 (ys.length + 1) := ⟨by omega, by simp only [maxLen]; omega⟩
    have hr := h2 _ (List.getElem_mem hlt)
    have hn := hst _ (List.getElem_mem hlt)
    obtain ⟨nm, vs, hT⟩ : ∃ nm vs, l[i] = ⟨nm, vs⟩ := ⟨_, _, rfl⟩
    rw [hT] at hr hn
    simp only at hr hn
    refine anyQ2 fun Q => ?_
    simp [hlt, hT, s42_1, s42_5, eAtom, cStr, cI, cP, pS]
    repeat' apply And.intro
    all_goals
      refine call_some (e_impl_copyInts vs (by omega)) (by simp [pS, cI]) (by simp) fun n1 hs1 r1 hn1 hm1 hp1 hr1 => ?_
      obtain ⟨y, rfl, p1, k1, G1⟩ := hp1
      simp at hn1
      have u1 : ∀ g ∈ idsL (cAtom ⟨nm, y⟩), g < hs1 := fun g hg => hr1 g (by
        rw [cAtom, idsL_app] at hg
        have := (List.mem_append.1 hg).resolve_left (by simp [cStr, idsL, D.ids])
        rw [idsL_cS] at this; exact this)
      have Ga : Good (cAtom ⟨nm, y⟩) (whAtom ⟨nm, y⟩) n1 := Good.app (good_Str n1 nm) G1 fun g h h' => by simp [cStr, idsL, D.ids] at h
      simp [hL, hwi, s42_1, s42_5, ]
      exact back2 (i + 1, ys ++ [⟨nm, y⟩]) (hI.snoc hlt (by rw [hT]; simp only [plAtom, p1]; rfl) (show okAtom (⟨nm, y⟩ : Atom) from ⟨hn, k1⟩) (by omega) hm1 Ga u1) (by simp only; omega) rfl (by simp <;> omega) (by simp) (by simp [cAtom, cStr, cS])
  · have hall := hI.all (by omega)
    simp [hlt, s42_1, s42_5, ]
    intro γ hs' h1' hg
    obtain ⟨q1, q2⟩ := gam_at hg (k := 28) (T := 99) (sz := 2) (es := ys.map cAtom) (by simp)
    have q3 := gam_row hg (k := 28) (T := 99) (sz := 2) (es := ys.map cAtom) (by simp)
    have qf : ∀ g, γ 28 = some g → g ∉ (dSl cI y0).ids := fun g hγ => by
      have hb := (hg.fr 28 99 2 _ g (by simp; rfl) hγ).1.box 3 [.d (.int .i64 qn), .own 28 0 ys.length, .d (dSl cI y0)] (by simp)
      simpa [V.ids, idsVL, D.ids, idsLL] using hb
    clear hg
    have hG := hI.good
    have K2 : Good (cS cAtom ⟨γ 28, some (99, 2), ys⟩) (whS whAtom ⟨γ 28, some (99, 2), ys⟩) B := good_row (fun g hg => (q1 g hg).1) (by simpa using q2) q3 ⟨hG.nd, fun g hg => Nat.le_trans hh0 (hG.lo g hg)⟩ hG.wh
    refine ⟨⟨qn, ⟨γ 28, some (99, 2), ys⟩, y0⟩, by simp [cQuery, cS, cI, dSl, List.take_of_length_le], ?_, ⟨trivial, ⟨by simp only [maxLen]; show ys.length ≤ _; omega, hI.ok⟩, k0⟩, ?_⟩
    · simp only [plQuery, plS, hall]
      have := p0; simp only [plS] at this; rw [this, plI_id]
    · have K1 := Good.app (good_I B qn) K2 (fun g h h' => by simp [cI, idsL, D.ids] at h)
      have K := Good.app K1 G0 (fun g h h' => by
        have h0 := u0 g h'
        rw [idsL_app] at h
        rcases List.mem_append.1 h with h | h
        · simp [cI, idsL, D.ids] at h
        · rw [idsL_cS] at h h'
          simp only [dSl, D.ids, List.mem_append] at h
          rcases h with h | h
          · exact qf g (by cases hk : γ 28 with
              | none => rw [hk] at h; simp at h
              | some z => rw [hk] at h; simp at h; rw [h]) h'
          · have := hG.lo g h; omega)
      exact ⟨K.nd, K.lo, K.wh.1.1, K.wh.1.2, K.wh.2⟩
theorem good_View0 (B : Nat) : Good (cView ⟨⟨0, nilS, nilS⟩, ⟨0, nilS, nilS⟩⟩) (whView ⟨⟨0, nilS, nilS⟩, ⟨0, nilS, nilS⟩⟩) B :=
  ⟨by simp [cView, cQuery, cCnt, nilS, cS, cI, dSl, idsL, D.ids, idsLL], by simp [cView, cQuery, cCnt, nilS, cS, cI, dSl, idsL, D.ids, idsLL], ⟨⟨trivial, ⟨⟨by simp [nilS], by simp [nilS]⟩, by simp [nilS]⟩, ⟨⟨by simp [nilS], by simp [nilS]⟩, by simp [nilS]⟩⟩, trivial, ⟨⟨by simp [nilS], by simp [nilS]⟩, by simp [nilS]⟩, ⟨⟨by simp [nilS], by simp [nilS]⟩, by simp [nilS]⟩⟩⟩
theorem e_impl_CountedFromRelation (a : PReln) : VC Try.prog 40 [.agg ((eReln a).map V.d)]
   (fun n r => ∃ y : Cnt, r = .tup [.agg ((cCnt y).map V.d), .d (.bool (rowsOk a.ar a.rows))] ∧ plCnt y = cntOf a ∧ okCnt y ∧ Good (cCnt y) (whCnt y) n) := by
  refine VC.untrack (t_impl_CountedFromRelation ⟨0, nilS⟩ ⟨trivial, ok_nilS⟩) (pn_agg (pn_eReln a)) fun As h1 h2 h3 => ?_
  obtain ⟨x, rfl, hx, tx, lx⟩ := rp_args1 h1 h2 h3
  obtain ⟨s, rfl, e1⟩ := rp_agg tk_Reln hx tx
  have := t_impl_CountedFromRelation s (okReln_ln (lnVL_d _ (by simpa only [V.ln] using lx)))
  rw [e1] at this
  exact this
theorem e_impl_ProjectCounted (a : PCnt) (c : List Int) : VC Try.prog 41 [.agg ((eCnt a).map V.d), .d (pS cI c)]
   (fun n r => ∃ y : Cnt, r = .tup [.agg ((cCnt y).map V.d), .d (.bool (projB a c))] ∧ plCnt y = projP a c ∧ okCnt y ∧ Good (cCnt y) (whCnt y) n) := by
  refine VC.untrack (t_impl_ProjectCounted ⟨0, nilS, nilS⟩ nilS ⟨trivial, ok_nilS, ok_nilS⟩ ok_nilS) (by have := pn_agg (pn_eCnt a); simp only [pnVL, Bool.and_true] at this ⊢; rw [this]; simp [pS, V.pn, D.pn]) fun As h1 h2 h3 => ?_
  obtain ⟨x, y, rfl, ⟨hx, tx, lx⟩, hy, ty, ly⟩ := rp_args2 h1 h2 h3
  obtain ⟨s, rfl, e1⟩ := rp_agg tk_Cnt hx tx
  obtain ⟨t, rfl, e2⟩ := rp_sl tk_I hy ty
  have := t_impl_ProjectCounted s t (okCnt_ln (lnVL_d _ (by simpa only [V.ln] using lx))) (ok_ln (c := cI) ok_lnI (by simpa [V.ln, cS, lnL] using ly))
  rw [e1, e2] at this
  exact this
theorem e_impl_NewView (d : PDb) (q : PQuery) (hst : ∀ a ∈ q.atoms, a.rel.length ≤ maxLen) : VC Try.prog 20 [.agg ((eDb d).map V.d), .agg ((eQuery q).map V.d)]
   (fun n v => ∃ y : View, v = .tup [.agg ((cView y).map V.d), .d (.bool (nvB d q))] ∧ plView y = nvP d q ∧ okView y ∧ Good (cView y) (whView y) n) := by
  obtain ⟨dl, hdl⟩ : ∃ dl, dl = d.tabs := ⟨_, rfl⟩
  have hde : (eDb d).map V.d = [V.d (.pl (dl.map eTab))] := by rw [hdl]; simp [eDb, pS, cP]
  have hqe : (eQuery q).map V.d = [V.d (.int .i64 q.n), V.d (.pl (q.atoms.map eAtom)), V.d (.pl (q.out.map cI))] := by simp [eQuery, cI, cP, pS]
  refine VC.of E s20 (by kernel_rfl) Try.func20 (by rfl) (by kernel_rfl) (by simp [Try.f20]) (by simp [Try.f20]) s20_ok fun B => ?_
  simp [Try.f20, s20_8, hde, hqe]
  refine call_p (w_impl_bindings d q) (by simp [hde, hqe]) fun hs1 hh1 hl1 => ?_
  simp at hh1
  cases hb : bdB d q
  · simp [eReln, cI, cP, pS, s20_8, ]
    have hn : nvB d q = false := by simp only [nvB, hb, Bool.false_and]
    exact ⟨⟨⟨0, nilS, nilS⟩, ⟨0, nilS, nilS⟩⟩, ⟨by simp [cView, cQuery, cCnt, nilS, cS, cI, dSl], hn⟩, by simp only [nvP, hn]; rfl, ⟨⟨trivial, ok_nilS, ok_nilS⟩, trivial, ok_nilS, ok_nilS⟩, good_View0 B⟩
  simp [eReln, cI, cP, pS, s20_8, ]
  refine call_some ((e_impl_CountedFromRelation (bdP d q)).er (by simp [eReln, cI, cP, pS])) (by simp) (by simp) fun n1 hs2 r1 hn1 hm1 hp1 hr1 => ?_
  obtain ⟨⟨xa, xr, xc⟩, rfl, p1, k1, G1⟩ := hp1
  simp at hn1
  simp [cCnt, cS, cI, dSl, s20_8, ]
  refine call_some ((e_impl_ProjectCounted (cntOf (bdP d q)) q.out).er (by rw [← p1]; simp [eCnt, plCnt, er_SI, er_I, cS, cP, pS, erLL_map (er_cS er_cI), erLL_map er_cI, plS])) (by simp) (by simp) fun n2 hs3 r2 hn2 hm2 hp2 hr2 => ?_
  obtain ⟨⟨ya, yr, yc⟩, rfl, p2, k2, G2⟩ := hp2
  simp at hn2
  have u2 : ∀ g ∈ idsL (cCnt ⟨ya, yr, yc⟩), g < hs3 := fun g hg => hr2 g (by rw [← ids_agg] at hg; simp [V.ids, idsVL] at hg ⊢; exact hg)
  cases hj : projB (cntOf (bdP d q)) q.out
  · simp [cCnt, cS, cI, dSl, s20_8, ]
    have hn : nvB d q = false := by simp only [nvB, hj, Bool.and_false]
    exact ⟨⟨⟨0, nilS, nilS⟩, ⟨0, nilS, nilS⟩⟩, ⟨by simp [cView, cQuery, cCnt, nilS, cS, cI, dSl], hn⟩, by simp only [nvP, hn]; rfl, ⟨⟨trivial, ok_nilS, ok_nilS⟩, trivial, ok_nilS, ok_nilS⟩, good_View0 B⟩
  have hn : nvB d q = true := by simp only [nvB, hb, hj, Bool.and_true]
  simp [cCnt, cS, cI, dSl, s20_8, ]
  have f : Qf d q := qf_of (by cases h : qryFor d q with | true => rfl | false => simp [bdB, h] at hb)
  have ho : q.out.length ≤ 1000 := by have := f.out5; omega
  repeat' apply And.intro
  all_goals
    refine call_some ((e_impl_copyQuery q (by have := f.a4; omega) (fun a h => by have := f.vlen a h; omega) ho hst).er (by simp [hqe])) (by simp) (by simp) fun n3 hs4 r3 hn3 hm3 hp3 hr3 => ?_
    obtain ⟨⟨za, zr, zc⟩, rfl, p3, k3, G3⟩ := hp3
    simp at hn3
    simp [cQuery, cS, cI, dSl, s20_8, ]
    refine ⟨⟨⟨za, zr, zc⟩, ⟨ya, yr, yc⟩⟩, ⟨by simp [cView, cQuery, cCnt, cS, cI, dSl], hn⟩, by simp only [nvP, nvR, hn, if_true, plView, p2, p3], ⟨k3, k2⟩, ?_⟩
    exact Good.app (G3.le (by omega)) (G2.le (by omega)) fun g h h' => by
      have := u2 g h'; have := G3.lo g h; omega
end

end Go.Proofs.Ytohbmjknaeenjaa

namespace Go.Proofs.Ytohbmjknaeenjaa
open Go.Vs Go.Proofs Go
set_option maxRecDepth 100000
set_option maxHeartbeats 1000000

section
attribute [local simp] plI_id plStr_id map_plI map_plStr
theorem nvR_false {d : PDb} {q : PQuery} (h : nvB d q = false) : nvR d q = ⟨0, [], []⟩ := by simp [nvR, h]
theorem nvR_out {d : PDb} {q : PQuery} (h : bdB d q = true) : nvR d q = projP (cntOf (bdP d q)) q.out := by
  cases hp : projB (cntOf (bdP d q)) q.out
  · simp [nvR, nvB, hp, projP]
  · simp [nvR, nvB, h, hp]
theorem w_spec_l28Z (d : PDb) (q : PQuery) (hst : ∀ t ∈ d.tabs, t.name.length ≤ maxLen) (hsq : ∀ a ∈ q.atoms, a.rel.length ≤ maxLen) : VC Try.prog 15 [.agg ((eDb d).map V.d), .agg ((eQuery q).map V.d)] (fun _ r => r = .tup [.agg ((eCnt (nvR d q)).map V.d), .d (.bool (nvB d q))]) := by
  obtain ⟨dl, hdl⟩ : ∃ dl, dl = d.tabs := ⟨_, rfl⟩
  have hde : (eDb d).map V.d = [V.d (.pl (dl.map eTab))] := by rw [hdl]; simp [eDb, pS, cP]
  have hqe : (eQuery q).map V.d = [V.d (.int .i64 q.n), V.d (.pl (q.atoms.map eAtom)), V.d (.pl (q.out.map cI))] := by simp [eQuery, cI, cP, pS]
  have hab := ab_ar d q
  refine VC.ofL EP s15 (by kernel_rfl) Try.func15 (by rfl) (by kernel_rfl) (by simp [Try.f15]) (by simp [Try.f15]) s15_ok fun B hl => ?_
  simp [Try.f15, hde, hqe]
  refine call_p (w_spec_AllBindings d q hst hsq) (by simp [hde, hqe]) fun hs1 hh1 hl1 => ?_
  simp at hh1
  rw [ab_bd] at hab ⊢
  simp [eReln, cI, cP, pS, ]
  refine call_f (w_spec_IsQueryFor d q hst hsq) (by simp [hde, hqe]) rfl fun hs2 hh2 => ?_
  simp at hh2
  cases hqf : qryFor d q
  · have hb : bdB d q = false := by rw [← hab, hqf]; rfl
    have hn : nvB d q = false := by simp only [nvB, hb, Bool.false_and]
    simp [hn, nvR_false hn, eCnt, cI, cP, pS, ]
  by_cases har : (bdP d q).ar = q.n
  · have hb : bdB d q = true := by rw [← hab, hqf]; simp [har]
    have hn : nvB d q = projB (cntOf (bdP d q)) q.out := by simp only [nvB, hb, Bool.true_and]
    simp [har, ]
    refine call_p (w_spec_CountedFromRelation (bdP d q)) (by simp [eReln, cI, cP, pS, har]) fun hs3 hh3 hl3 => ?_
    simp at hh3
    simp [eCnt, cI, cP, pS, ]
    refine call_p (w_spec_ProjectCounted (cntOf (bdP d q)) q.out (by have := (qf_of hqf).out5; omega)) (by simp [eCnt, cI, cP, pS]) fun hs4 hh4 hl4 => ?_
    simp at hh4
    simp [eCnt, cI, cP, pS, hn, nvR_out hb, ]
  · have hb : bdB d q = false := by rw [← hab, hqf]; simp [har]
    have hn : nvB d q = false := by simp only [nvB, hb, Bool.false_and]
    simp [har, hn, nvR_false hn, eCnt, cI, cP, pS, ]
def ivB (d : PDb) (v : PView) : Bool := nvB d v.q && decide (nvR d v.q = v.r)
theorem w_spec_IsValidView (d : PDb) (v : PView) (hst : ∀ t ∈ d.tabs, t.name.length ≤ maxLen) (hsq : ∀ a ∈ v.q.atoms, a.rel.length ≤ maxLen) : VC Try.prog 6 [.agg ((eDb d).map V.d), .agg ((eView v).map V.d)] (fun _ r => r = .d (.bool (ivB d v))) := by
  obtain ⟨dl, hdl⟩ : ∃ dl, dl = d.tabs := ⟨_, rfl⟩
  have hde : (eDb d).map V.d = [V.d (.pl (dl.map eTab))] := by rw [hdl]; simp [eDb, pS, cP]
  have hqe : (eQuery v.q).map V.d = [V.d (.int .i64 v.q.n), V.d (.pl (v.q.atoms.map eAtom)), V.d (.pl (v.q.out.map cI))] := by simp [eQuery, cI, cP, pS]
  have hve : (eView v).map V.d = [V.d (.int .i64 v.q.n), V.d (.pl (v.q.atoms.map eAtom)), V.d (.pl (v.q.out.map cI)), V.d (.int .i64 v.r.ar), V.d (.pl (v.r.rows.map (cP cI))), V.d (.pl (v.r.cs.map cI))] := by simp [eView, eQuery, eCnt, cI, cP, pS]
  refine VC.ofL EP s6 (by kernel_rfl) Try.func6 (by rfl) (by kernel_rfl) (by simp [Try.f6]) (by simp [Try.f6]) s6_ok fun B hl => ?_
  simp [Try.f6, hde, hve]
  refine call_p (w_spec_l28Z d v.q hst hsq) (by simp [hde, hqe]) fun hs1 hh1 hl1 => ?_
  simp at hh1
  cases hn : nvB d v.q
  · simp [ivB, hn, eCnt, cI, cP, pS, ]
  simp [eCnt, cI, cP, pS, ]
  refine call_f (w_spec_EqualCounted (nvR d v.q) v.r) (by simp [eCnt, cI, cP, pS]) rfl fun hs2 hh2 => ?_
  simp [ivB, hn, ]
theorem p_impl_NewView (d : PDb) (q : PQuery) (hst : ∀ a ∈ q.atoms, a.rel.length ≤ maxLen) : VC Try.prog 20 [.agg ((eDb d).map V.d), .agg ((eQuery q).map V.d)]
   (fun _ v => v = .tup [.agg ((eView (nvP d q)).map V.d), .d (.bool (nvB d q))]) :=
  VC.plain2 er_cView (e_impl_NewView d q hst)
theorem w_impl_IsValidView (d : PDb) (v : PView) (hsq : ∀ a ∈ v.q.atoms, a.rel.length ≤ maxLen) : VC Try.prog 9 [.agg ((eDb d).map V.d), .agg ((eView v).map V.d)] (fun _ r => r = .d (.bool (ivB d v))) := by
  obtain ⟨dl, hdl⟩ : ∃ dl, dl = d.tabs := ⟨_, rfl⟩
  have hde : (eDb d).map V.d = [V.d (.pl (dl.map eTab))] := by rw [hdl]; simp [eDb, pS, cP]
  have hqe : (eQuery v.q).map V.d = [V.d (.int .i64 v.q.n), V.d (.pl (v.q.atoms.map eAtom)), V.d (.pl (v.q.out.map cI))] := by simp [eQuery, cI, cP, pS]
  have hve : (eView v).map V.d = [V.d (.int .i64 v.q.n), V.d (.pl (v.q.atoms.map eAtom)), V.d (.pl (v.q.out.map cI)), V.d (.int .i64 v.r.ar), V.d (.pl (v.r.rows.map (cP cI))), V.d (.pl (v.r.cs.map cI))] := by simp [eView, eQuery, eCnt, cI, cP, pS]
  refine VC.ofL EP s9 (by kernel_rfl) Try.func9 (by rfl) (by kernel_rfl) (by simp [Try.f9]) (by simp [Try.f9]) s9_ok fun B hl => ?_
  simp [Try.f9, hde, hve]
  refine call_p (p_impl_NewView d v.q hsq) (by simp [hde, hqe]) fun hs1 hh1 hl1 => ?_
  simp at hh1
  cases hn : nvB d v.q
  · simp [ivB, hn, eView, eQuery, eCnt, cI, cP, pS, ]
  have hnp : (nvP d v.q).r = nvR d v.q := by simp [nvP, hn]
  simp [eView, eQuery, eCnt, cI, cP, pS, ]
  refine call_f (w_impl_EqualCounted (nvR d v.q) v.r) (by simp [eCnt, cI, cP, pS, hnp]) rfl fun hs2 hh2 => ?_
  simp [ivB, hn, ]
end

end Go.Proofs.Ytohbmjknaeenjaa

namespace Go.Proofs.Ytohbmjknaeenjaa
open Go.Vs Go.Proofs Go
set_option maxRecDepth 100000
set_option maxHeartbeats 1000000

theorem w_laws_FnExactIsValidView (a : Db) (b : View) (k_a : okDb a) (k_b : okView b) :
   VC Try.prog 3 [.agg ((cDb a).map V.d), .agg ((cView b).map V.d)] (fun _ r => r = .d (.bool true)) := by
  refine VC.of E s3 (by kernel_rfl) Try.func3 (by rfl) (by kernel_rfl) (by simp [Try.f3]) (by simp [Try.f3]) s3_ok fun B => ?_
  simp [Try.f3, s3_8, s3_14, s3_16, s3_8, s3_14, s3_16, cCnt, cDb, cI, cQuery, cS, cView, cI, cS]
  refine call_pure (w_laws_szDatabase a _ (by omega) (by omega) k_a) rfl (by simp) rfl fun hz_a zz_a => ?_
  simp at zz_a
  by_cases s_a : (swDb a : Int) ≤ 1048576
  case neg =>
    rw [szv_neg (by omega)]; simp
    all_goals exact fun h => absurd h (by decide)
  rw [szv_pos s_a]
  simp [show ¬ (1048576 : Int) - swDb a < 0 by omega, show ¬ (1048576 : Int) < swDb a by omega, s_a, s3_8, s3_14, s3_16, cCnt, cDb, cI, cQuery, cS, cView, cI, cS]
  refine call_pure (w_laws_szView b _ (by omega) (by omega) k_b) rfl (by simp) rfl fun hz_b zz_b => ?_
  simp at zz_b
  by_cases s_b : (swView b : Int) ≤ 1048576 - swDb a
  case neg =>
    rw [szv_neg (by omega)]; simp
    all_goals exact fun h => absurd h (by decide)
  rw [szv_pos s_b]
  simp [show ¬ (1048576 - swDb a : Int) - swView b < 0 by omega, show ¬ (1048576 - swDb a : Int) < swView b by omega, s_b, s3_8, s3_14, s3_16, cCnt, cDb, cI, cQuery, cS, cView, cI, cS]
  refine call_some (w_laws_toDatabase a k_a (by omega)) rfl (by simp) fun n1 hs1 r1 hn1 hm1 hp1 hr1 => ?_
  obtain ⟨y1, rfl, p1, k1, G1⟩ := hp1
  clear G1 hr1
  simp at hn1
  simp [s3_8, s3_14, s3_16, cCnt, cDb, cI, cQuery, cS, cView, cI, cS]
  refine call_some (w_laws_toView b k_b (by omega)) rfl (by simp) fun n2 hs2 r2 hn2 hm2 hp2 hr2 => ?_
  obtain ⟨y2, rfl, p2, k2, G2⟩ := hp2
  clear G2 hr2
  simp at hn2
  simp [s3_8, s3_14, s3_16, cCnt, cDb, cI, cQuery, cS, cView, cI, cS]
  refine call_f (VC.to (w_spec_IsValidView (plDb y1) (plView y2) (okDb_strs k1) (okView_strs k2)) (show _ = V.d (.bool (ivB (plDb a) (plView b))) by rw [p1, p2])) (by simp [er_I, er_SI, er_Str, er_File, er_Tab, er_Db, er_Delta, er_Atom, er_VRel, eCnt, eDb, eQuery, eView, plCnt, plDb, plI, plQuery, plView, cP, pS, plI]) rfl fun hs3 hh3 => ?_
  simp at hh3
  simp [s3_8, s3_14, s3_16, cCnt, cDb, cI, cQuery, cS, cView, cI, cS]
  refine call_some (w_laws_toDatabase a k_a (by omega)) rfl (by simp) fun n4 hs4 r4 hn4 hm4 hp4 hr4 => ?_
  obtain ⟨y4, rfl, p4, k4, G4⟩ := hp4
  clear G4 hr4
  simp at hn4
  simp [s3_8, s3_14, s3_16, cCnt, cDb, cI, cQuery, cS, cView, cI, cS]
  refine call_some (w_laws_toView b k_b (by omega)) rfl (by simp) fun n5 hs5 r5 hn5 hm5 hp5 hr5 => ?_
  obtain ⟨y5, rfl, p5, k5, G5⟩ := hp5
  clear G5 hr5
  simp at hn5
  simp [s3_8, s3_14, s3_16, cCnt, cDb, cI, cQuery, cS, cView, cI, cS]
  refine call_f (VC.to (w_impl_IsValidView (plDb y4) (plView y5) (okView_strs k5)) (show _ = V.d (.bool (ivB (plDb a) (plView b))) by rw [p4, p5])) (by simp [er_I, er_SI, er_Str, er_File, er_Tab, er_Db, er_Delta, er_Atom, er_VRel, eCnt, eDb, eQuery, eView, plCnt, plDb, plI, plQuery, plView, cP, pS, plI]) rfl fun hs6 hh6 => ?_
  simp at hh6
  simp [s3_8, s3_14, s3_16, cCnt, cDb, cI, cQuery, cS, cView, cI, cS]
  refine call_some (w_laws_toDatabase a k_a (by omega)) rfl (by simp) fun n7 hs7 r7 hn7 hm7 hp7 hr7 => ?_
  obtain ⟨y7, rfl, p7, k7, G7⟩ := hp7
  clear G7 hr7
  simp at hn7
  simp [s3_8, s3_14, s3_16, cCnt, cDb, cI, cQuery, cS, cView, cI, cS]
  refine call_pure (w_laws_eqDatabase y4 y7 k4) rfl (by simp) rfl fun hs8 hh8 => ?_
  simp at hh8
  simp [s3_8, s3_14, s3_16, cCnt, cDb, cI, cQuery, cS, cView, cI, cS, p4, p7]
  refine call_some (w_laws_toView b k_b (by omega)) rfl (by simp) fun n9 hs9 r9 hn9 hm9 hp9 hr9 => ?_
  obtain ⟨y9, rfl, p9, k9, G9⟩ := hp9
  clear G9 hr9
  simp at hn9
  simp [s3_8, s3_14, s3_16, cCnt, cDb, cI, cQuery, cS, cView, cI, cS]
  refine call_pure (w_laws_eqView y5 y9 k5) rfl (by simp) rfl fun hs10 hh10 => ?_
  simp at hh10
  simp [s3_8, s3_14, s3_16, cCnt, cDb, cI, cQuery, cS, cView, cI, cS, p5, p9]

end Go.Proofs.Ytohbmjknaeenjaa
