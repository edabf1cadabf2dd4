/-
  DD1B2: a part of a proof of this seat: the value-level semantics of Go code without maps, its walk rules, the frame of a row, facts of types, schedules, walks, plain lemmas (QD QE QF QG QH QI QJ QK QL QM QN QO YA YC YE YD K1 KQ F1 G1 Z1 Z2 Z3 Z4 Z5). It holds of every program and state that its hypotheses name.
-/
import Derived.Test.YtaoaoijchijlcaaGreatDoorDD1B1
set_option linter.unusedSimpArgs false
set_option linter.unusedVariables false
set_option linter.unnecessarySimpa false
namespace Go.Proofs.YtaoaoijchijlcaaGreatDoor
open Go.Vs Go.Proofs Go
set_option maxRecDepth 100000
set_option maxHeartbeats 1000000
section
attribute [local simp] pS cP eQ_def
theorem w_spec_l13Square (A : List (List _root_.Rat)) (n m : Nat) (hb : A.length <= 4294967296) (hm : m <= 4294967296) (hr : ∀ r ∈ A, r.length = m) (hs : ∀ r ∈ A, ∀ q ∈ r, smQ q) :
  VC Tryz.prog 104 [.d (pS (cP eQ) A), .d (.int .i64 n), .d (.int .i64 m)] (fun _ r => r = .d (.bool (decide (A.length = n)))) := by
 refine VC.ofL EP s104 (by kernel_rfl) Tryz.func104 (by rfl) (by kernel_rfl) (by simp [Tryz.f104]) (by simp [Tryz.f104]) s104_ok fun B hl => ?_
 clear hl
 simp [Tryz.f104, ]
 refine loop_rule (X := Nat) (fun i => i <= A.length) (fun i => [(0, .d (.pl (A.map (cP eQ)))), (1, .d (.int .i64 n)), (2, .d (.int .i64 m)), (7, .d (.int .i64 i))]) (fun _ => []) (fun i => A.length - i) 0 (by simp) (by simp) (by simp) ?_
 intro i hs0 t m0 hi hh
 by_cases hlt : i < A.length
 ·have hwi := wr1 (i := i) (by omega)
  have hAm := List.getElem_mem hlt
  have hrl := hr _ hAm
  simp [hlt, hrl, ]
  refine loop_rule (X := Nat) (fun k => k <= m) (fun k => [(0, .d (.pl (A.map (cP eQ)))), (1, .d (.int .i64 n)), (2, .d (.int .i64 m)), (7, .d (.int .i64 i)), (8, .d (.int .i64 k))]) (fun _ => []) (fun k => m - k) 0 (by simp) (by simp) (by simp) ?_
  intro k hs1 t1 m1 hk hh1
  by_cases hkm : k < m
  ·have hwk := wr1 (i := k) (by omega)
   have hkl : k < A[i].length := by omega
   refine anyQ fun Q => ?_
   simp [hlt, hkm, hkl, ]
   refine call_f (w_spec_IsValidRational A[i][k] (hs _ hAm _ (List.getElem_mem hkl))) (by simp) rfl fun hs2 hh2 => ?_
   try simp at hh2
   simp [hwk]
   exact back (k + 1) (by omega) (by omega) rfl (by simp <;> omega) (by simp) (by simp)
  ·simp [hkm, hwi, ]
   exact back (i + 1) (by omega) (by omega) rfl (by simp <;> omega) (by simp) (by simp)
 ·have hn : i = A.length := by omega
  subst hn
  simp
theorem w_spec_IsValidLinearProgram (A : List (List _root_.Rat)) (n : Nat) (h : LPok A n) :
  VC Tryz.prog 85 [.agg [.d (pS (cP eQ) A), .d (pS eQ (List.replicate A.length 1)), .d (pS eQ (List.replicate n 1))]] (fun _ r => r = .d (.bool true)) := by
 have h1 := h.n1
 have h2 := h.n4
 have h3 := h.m1
 have h4 := h.m5
 have e1 : inR (n : Int) 1 5 = true := by simp [inR]; omega
 have e2 : inR (A.length : Int) 1 5 = true := by simp [inR]; omega
 refine VC.ofL EP s85 (by kernel_rfl) Tryz.func85 (by rfl) (by kernel_rfl) (by simp [Tryz.f85]) (by simp [Tryz.f85]) s85_ok fun B hl => ?_
 clear hl
 simp [Tryz.f85, ]
 refine call_f (w_spec_l1In n 1 5) (by simp) rfl fun hs0 hh0 => ?_
 simp [e1]
 refine call_f (w_spec_l1In A.length 1 5) (by simp) rfl fun hs1 hh1 => ?_
 simp [e2]
 refine call_f (w_spec_l13Square A A.length n (by omega) (by omega) h.m01.len (fun r hr => h.sm hr)) (by simp) rfl fun hs2 hh2 => ?_
 simp
 refine call_f (w_spec_l13Square [List.replicate n 1] 1 n (by simp) (by omega) (by simp) (by simp [sm_one])) (by simp) rfl fun hs3 hh3 => ?_
 simp
 refine call_f (w_spec_l13Square [List.replicate A.length 1] 1 A.length (by simp) (by omega) (by simp) (by simp [sm_one])) (by simp) rfl fun hs3 hh3 => ?_
 simp
theorem w_spec_l14Plus (n : Nat) (hb : n <= 4294967296) : VC Tryz.prog 86 [.d (pS eQ (List.replicate n 1))] (fun _ r => r = .d (.bool true)) := by
 refine VC.ofL EP s86 (by kernel_rfl) Tryz.func86 (by rfl) (by kernel_rfl) (by simp [Tryz.f86]) (by simp [Tryz.f86]) s86_ok fun B hl => ?_
 clear hl
 simp [Tryz.f86, ]
 refine loop_rule (X := Nat) (fun i => i <= n) (fun i => [(0, .d (.pl ((List.replicate n (1 : _root_.Rat)).map eQ))), (3, .d (.int .i64 i))]) (fun _ => []) (fun i => n - i) 0 (by simp) (by simp) (by simp) ?_
 intro i hs t m hi hh
 by_cases hlt : i < n
 ·have hwi := wr1 (i := i) (by omega)
  simp [hlt, hwi, ]
  exact back (i + 1) (by omega) (by omega) rfl (by simp <;> omega) (by simp) (by simp)
 ·simp [hlt]
theorem w_spec_DotProduct (u v : List _root_.Rat) (hlen : u.length = v.length) (h : DotS u.length (fnL u) (fnL v)) :
  VC Tryz.prog 106 [.d (pS eQ u), .d (pS eQ v)] (fun _ r => r = .tup [.agg [.d (.int .i64 (dotF u.length (fnL u) (fnL v)).num), .d (.int .i64 ((dotF u.length (fnL u) (fnL v)).den : Int))], .d (.bool true)]) := by
 refine VC.ofL EP s106 (by kernel_rfl) Tryz.func106 (by rfl) (by kernel_rfl) (by simp [Tryz.f106]) (by simp [Tryz.f106]) s106_ok fun B hl => ?_
 simp [maxLen] at hl
 simp [Tryz.f106, s106_7, s106_7, hlen]
 refine loop_rule (X := Nat) (fun i => i <= v.length) (fun i => [(0, .d (.pl (u.map eQ))), (1, .d (.pl (v.map eQ))), (4, .ptr 4 0 0), (6, .ptr 6 0 0), (7, .d (.int .i64 i))]) (fun i => [(4, some (.box [.d (.int .i64 0), .d (.int .i64 0)])), (6, some (.box [.d (.int .i64 (dotF i (fnL u) (fnL v)).num), .d (.int .i64 ((dotF i (fnL u) (fnL v)).den : Int))]))]) (fun i => v.length - i) 0 (by simp) (by simp) (by simp [dotF]) ?_
 intro i hs t m hi hh
 by_cases hlt : i < v.length
 ·have hwi := wr1 (i := i) (by omega)
  have hlu : i < u.length := by omega
  have a1 := h.sa i hlu
  have a2 := h.sx i hlu
  have a3 := h.sm i hlu
  have a4 := h.ss i (by omega)
  have a5 := h.ss (i + 1) (by omega)
  have e : dotF (i + 1) (fnL u) (fnL v) = dotF i (fnL u) (fnL v) + u[i] * v[i] := by rw [dotF, fnL_at hlu, fnL_at hlt]
  rw [fnL_at hlu] at a1 a3
  rw [fnL_at hlt] at a2 a3
  rw [e] at a5
  simp [hlt, hlu, hlen, s106_7, ]
  refine ⟨?_, ?_⟩
  all_goals
   refine call_f (w_spec_MulRational u[i] v[i] a1 a2 a3) (by simp) rfl fun hs1 hh1 => ?_
   try simp at hh1
   simp [s106_7, ]
   refine call_f (w_spec_AddRational (dotF i (fnL u) (fnL v)) (u[i] * v[i]) a4 a3 a5) (by simp) rfl fun hs2 hh2 => ?_
   try simp at hh2
   simp [hwi, s106_7, ]
   exact back (i + 1) (by omega) (by omega) rfl (by simp <;> omega) (by simp) (by simp [e])
 ·have hn : i = v.length := by omega
  simp [hlt, hn, hlen, s106_7, ]
theorem w_spec_MatrixVectorProduct (A : List (List _root_.Rat)) (x : List _root_.Rat) (hb : A.length <= 4294967296) (hr : ∀ r ∈ A, r.length = x.length) (h : ∀ r ∈ A, DotS x.length (fnL r) (fnL x)) :
  VC Tryz.prog 126 [.d (pS (cP eQ) A), .d (pS eQ x)] (fun _ r => r = .tup [.d (pS eQ (A.map fun r => dotF x.length (fnL r) (fnL x))), .d (.bool true)]) := by
 refine VC.ofL EP s126 (by kernel_rfl) Tryz.func126 (by rfl) (by kernel_rfl) (by simp [Tryz.f126]) (by simp [Tryz.f126]) s126_ok fun B hl => ?_
 clear hl
 simp [Tryz.f126, ]
 obtain ⟨F, hF⟩ : ∃ F : List _root_.Rat -> _root_.Rat, F = fun r => dotF x.length (fnL r) (fnL x) := ⟨_, rfl⟩
 refine loop_rule (X := Nat) (fun i => i <= A.length) (fun i => [(0, .d (.pl (A.map (cP eQ)))), (1, .d (.pl (x.map eQ))), (6, .own 10 0 i), (7, .d (.int .i64 i))]) (fun i => [(10, some (.row 33 2 (((A.take i).map F).map eQ)))]) (fun i => A.length - i) 0 (by simp) (by simp) (by simp) ?_
 intro i hs t m hi hh
 by_cases hlt : i < A.length
 ·have hwi := wr1 (i := i) (by omega)
  have hL : LenOk 16 (i + 1) := ⟨by omega, by simp only [maxLen]; omega⟩
  have hm := List.getElem_mem hlt
  have hd := h _ hm
  have hrl := hr _ hm
  have hst : (A.map (eQ ∘ F)).take (i + 1) = (A.map (eQ ∘ F)).take i ++ [eQ (F A[i])] := by rw [List.take_succ_eq_append_getElem (by simpa using hlt)]; simp
  have hFi : F A[i] = dotF A[i].length (fnL A[i]) (fnL x) := by rw [hF, hrl]
  have hmin : min i A.length = i := by omega
  simp [hlt, ]
  refine call_f (w_spec_DotProduct A[i] x hrl (by rw [hrl]; exact hd)) (by simp) rfl fun hs1 hh1 => ?_
  try simp at hh1
  rw [<- hFi]
  simp [hwi, hL, hmin, ]
  exact back (i + 1) (by omega) (by omega) rfl (by simp <;> omega) (by simp) (by simp [hst])
 ·have hn : i = A.length := by omega
  subst hn
  simp [List.take_of_length_le, hF]
theorem w_spec_EqualRationals (a b : List _root_.Rat) : VC Tryz.prog 114 [.d (pS eQ a), .d (pS eQ b)] (fun _ r => r = .d (.bool (decide (a = b)))) := by
 refine VC.ofL EP s114 (by kernel_rfl) Tryz.func114 (by rfl) (by kernel_rfl) (by simp [Tryz.f114]) (by simp [Tryz.f114]) s114_ok fun B hl => ?_
 simp [maxLen] at hl
 by_cases hlen : a.length = b.length
 case neg =>
  have : a ≠ b := fun e => hlen (by rw [e])
  simp [Tryz.f114, s114_6, s114_6, hlen, this]
 simp [Tryz.f114, s114_6, s114_6, hlen]
 refine loop_rule (X := Nat) (fun i => i <= b.length /\ a.take i = b.take i) (fun i => [(0, .d (.pl (a.map eQ))), (1, .d (.pl (b.map eQ))), (5, .d (.int .i64 i))]) (fun _ => []) (fun i => b.length - i) 0 (by simp) (by simp) (by simp) ?_
 intro i hs t m hi hh
 by_cases hlt : i < b.length
 ·have hwi := wr1 (i := i) (by omega)
  have hla : i < a.length := by omega
  have hst := eq_step hla hlt hi.2
  have hq : a[i] = b[i] ↔ (a[i].num = b[i].num ∧ (a[i].den : Int) = b[i].den) := by
   rw [<- qR_inj, PRat.eq_iff]; rfl
  by_cases he : a[i] = b[i]
  ·simp [hlt, hla, he, hwi, hlen, s114_6, ]
   exact back (i + 1) ⟨by omega, hst.1 he⟩ (by omega) rfl (by simp <;> omega) (by simp) (by simp)
  ·have hab : a ≠ b := fun e => he (by subst e; rfl)
   rw [hq] at he
   by_cases h1 : a[i].num = b[i].num
   ·have h2 : ¬ a[i].den = b[i].den := fun e => he ⟨h1, by rw [e]⟩
    simp [hlt, hla, h1, h2, hab, hlen, s114_6, ]
   ·simp [hlt, hla, h1, hab, hlen, s114_6, ]
 ·have hab : a = b := eq_all (by omega) hlen hi.2
  simp [hlt, hab, s114_6, ]
theorem w_spec_l14Side (A : List (List _root_.Rat)) (n : Nat) (x : List _root_.Rat) (h : LPok A n) (hx : SolB n x) :
  VC Tryz.prog 113 [.agg [.d (pS (cP eQ) A), .d (pS eQ (List.replicate A.length 1)), .d (pS eQ (List.replicate n 1))], .d (pS eQ x), .d (.int .i64 1)] (fun _ r => r = .d (.bool (feasQ A x))) := by
 have hxl := hx.len
 have hn4 := h.n4
 have hm5 := h.m5
 have hxs := sol_sm hx h.n4
 refine VC.ofL EP s113 (by kernel_rfl) Tryz.func113 (by rfl) (by kernel_rfl) (by simp [Tryz.f113]) (by simp [Tryz.f113]) s113_ok fun B hl => ?_
 clear hl
 simp [Tryz.f113, s113_12, s113_12, ]
 refine call_f (w_spec_IsValidLinearProgram A n h) (by simp) rfl fun hs0 hh0 => ?_
 try simp at hh0
 simp [hxl]
 refine loop_rule (X := Nat) (fun i => i ≤ x.length ∧ ∀ q ∈ x.take i, 0 ≤ q) (fun i => [(1, .d (.pl (x.map eQ))), (2, .d (.int .i64 1)), (3, .ptr 3 0 0), (7, .d (.int .i64 i))])
  (fun _ => [(3, some (.box [.d (.pl (A.map (cP eQ))), .d (.pl ((List.replicate A.length (1 : _root_.Rat)).map eQ)), .d (.pl ((List.replicate n (1 : _root_.Rat)).map eQ))]))]) (fun i => x.length - i) 0 (by simp) (by simp) (by simp) ?_
 intro i hs t m hi hh
 by_cases hlt : i < x.length
 ·have hwi := wr1 (i := i) (by omega)
  simp [hlt, s113_12, ]
  refine call_f (w_spec_IsValidRational x[i] (hxs _ (List.getElem_mem hlt))) (by simp) rfl fun hs1 hh1 => ?_
  try simp at hh1
  by_cases hneg : x[i].num < 0
  ·have hf : feasQ A x = false := by
    have : ¬ 0 <= x[i] := by rw [nneg_num]; omega
    rw [feasQ, Bool.and_eq_false_iff]
    left
    rw [List.all_eq_false]
    exact ⟨x[i], List.getElem_mem hlt, by simp [this]⟩
   simp [hlt, hneg, hf, s113_12, ]
  ·have h0 : 0 ≤ x[i] := by rw [nneg_num]; omega
   simp [hlt, hneg, hwi, s113_12, ]
   refine back (i + 1) ⟨by omega, fun q hq => ?_⟩ (by omega) rfl (by simp <;> omega) (by simp) (by simp)
   rw [List.take_succ_eq_append_getElem hlt] at hq
   rcases List.mem_append.1 hq with hq | hq
   ·exact hi.2 q hq
   ·rw [List.mem_singleton.1 hq]; exact h0
 have hin : i = x.length := by omega
 obtain ⟨F, hF⟩ : ∃ F : List _root_.Rat -> _root_.Rat, F = fun r => dotF x.length (fnL r) (fnL x) := ⟨_, rfl⟩
 have hall : x.all (fun q => decide (0 ≤ q)) = true := by
  rw [List.all_eq_true]; intro q hq
  exact decide_eq_true (hi.2 q (by rw [hin, List.take_of_length_le (Nat.le_refl _)]; exact hq))
 simp [hlt, s113_12, ]
 refine call_pq (post := fun _ r => r = .tup [.d (pS eQ (A.map F)), .d (.bool true)]) (by rw [hF]; exact w_spec_MatrixVectorProduct A x (by omega) (fun r hr => by rw [h.m01.len r hr, hxl]) (fun r hr => by rw [hxl]; exact h.dots hx hr)) (by simp) fun r2 n2 hs2 hn2 hm2 hp2 hl2 => ?_
 subst hp2
 try simp at hn2
 simp [s113_12, ]
 refine loop_rule (X := Nat) (fun j => j ≤ A.length ∧ ∀ r ∈ A.take j, 1 ≤ F r) (fun j => [(2, .d (.int .i64 1)), (3, .ptr 3 0 0), (8, .d (.pl ((A.map F).map eQ))), (9, .d (.bool true)), (10, .d (.int .i64 j))])
  (fun _ => [(3, some (.box [.d (.pl (A.map (cP eQ))), .d (.pl ((List.replicate A.length (1 : _root_.Rat)).map eQ)), .d (.pl ((List.replicate n (1 : _root_.Rat)).map eQ))]))]) (fun j => A.length - j) 0 (by simp) (by simp) (by simp) ?_
 intro j hs3 t3 m3 hj hh3
 by_cases hlj : j < A.length
 ·have hwj := wr1 (i := j) (by omega)
  have hm := List.getElem_mem hlj
  have hs := (h.dots hx hm).ss n (Nat.le_refl _)
  have hFj : smQ (F A[j]) := by rw [hF]; simp only [hxl]; exact hs
  have hw1 : ∀ z : Int, -1 <= z -> z <= 1 -> IntKind.i64.wrap z = z := fun z h1 h2 => wrap64_of (by omega) (by omega)
  have hcb : -1 <= cmpQ (F A[j]) 1 /\ cmpQ (F A[j]) 1 <= 1 := by unfold cmpQ; split <;> (try split) <;> omega
  simp [hlj, s113_12, ]
  refine call_f (w_spec_CompareRationals (F A[j]) 1 hFj sm_one) (by simp) rfl fun hs4 hh4 => ?_
  try simp at hh4
  simp [hw1 _ hcb.1 hcb.2, hwj]
  by_cases hlt1 : F A[j] < 1
  ·have hf : feasQ A x = false := by
    rw [feasQ, Bool.and_eq_false_iff]
    right
    rw [List.all_eq_false]
    refine ⟨A[j], hm, ?_⟩
    have : ¬ 1 <= dotF x.length (fnL A[j]) (fnL x) := by rw [hF] at hlt1; simp only at hlt1; grind
    simp [this]
   simp [cmpQ_lt.2 hlt1, hf]
  ·have h0 : 1 ≤ F A[j] := by grind
   have hc : ¬ cmpQ (F A[j]) 1 < 0 := fun e => hlt1 (cmpQ_lt.1 e)
   simp [hc]
   refine back (j + 1) ⟨by omega, fun q hq => ?_⟩ (by omega) rfl (by simp <;> omega) (by simp) (by simp)
   rw [List.take_succ_eq_append_getElem hlj] at hq
   rcases List.mem_append.1 hq with hq | hq
   ·exact hj.2 q hq
   ·rw [List.mem_singleton.1 hq]; exact h0
 ·have hf : feasQ A x = true := by
   rw [feasQ, hall, Bool.true_and, List.all_eq_true]
   intro r hr
   have := hj.2 r (by rw [List.take_of_length_le (by omega)]; exact hr)
   rw [hF] at this
   exact decide_eq_true this
  simp [hlj, hf]
end
end Go.Proofs.YtaoaoijchijlcaaGreatDoor
namespace Go.Proofs.YtaoaoijchijlcaaGreatDoor
open Go.Vs Go.Proofs Go
set_option maxRecDepth 100000
set_option maxHeartbeats 1000000
@[simp] theorem startX3 (a b c : V) (W : List Nat) (B : Nat) : St.startX [a, b, c] W none B = ⟨B, B, W, upd (upd (upd (fun _ => .tup []) 2 c) 1 b) 0 a, fun _ => none⟩ := by
  simp only [St.startX, St.mk.injEq, true_and]
  refine ⟨?_, startX_m W⟩
  funext i; match i with | 0 => rfl | 1 => rfl | 2 => rfl | _ + 3 => rfl
section
attribute [local simp] pS cP eQ_def
theorem x_impl_eliminate (g gp : Nat) (T : TypeId × Nat) (Tp : Option (TypeId × Nat)) (p n : Nat) (v r : List _root_.Rat) (h : ElimS n p v r) (hn : n <= 4) (hg : gp ≠ g) :
  VX Tryz.prog 128 [g] [.d (.sl (some g) (some T) (r.map eQ)), .d (.sl (some gp) Tp (v.map eQ)), .d (.int .i64 p)] none (fun _ res _ ws => res = .d (.bool true) /\ ws = [.sl (some g) (some T) ((elimR p v r).map eQ)]) := by
 refine VX.of E s128 (by kernel_rfl) Tryz.func128 (by rfl) (by kernel_rfl) (by simp [Tryz.f128]) (by simp [Tryz.f128]) s128_ok ?_ ?_ fun B hB => ?_
 ·exact fun q hq => .inl (by simp [idsVL, V.ids, D.ids]; simp at hq; exact .inl hq)
 ·exact fun cs h => nomatch h
 have hlr := h.lr
 have hlv := h.lv
 have hp := h.hp
 have ep : fnL r p = r[p]'(by omega) := fnL_at (by omega)
 have ev : fnL v p = v[p]'(by omega) := fnL_at (by omega)
 have hf := h.f
 have hr1 := h.r p hp
 have hv1 := h.v p hp
 have hne := h.ne
 obtain ⟨f, hfd⟩ : ∃ f, f = fnL r p / fnL v p := ⟨_, rfl⟩
 rw [<- hfd] at hf
 have hdiv := w_impl_DivRational (fnL r p) (fnL v p) hr1 hv1 hne (by rw [<- hfd]; exact hf)
 rw [<- hfd, ep, ev] at hdiv
 have hpv : ∀ d, reV (one g d) (.d (.sl (some gp) Tp (v.map eQ))) = .d (.sl (some gp) Tp (v.map eQ)) := fun d => by
  have : one g d gp = none := one_out hg
  simp [reV, reD, this]
 simp [Tryz.f128, s128_1, s128_7, s128_8, s128_1, s128_7, s128_8, show p < r.length by omega, show p < v.length by omega]
 refine ⟨?_, ?_⟩
 all_goals
  refine call_pure hdiv rfl (by simp) rfl fun hs0 hh0 => ?_
  try simp at hh0
  simp [s128_1, s128_7, s128_8, ]
  refine loop_rule (X := Nat) (fun k => p <= k /\ k <= n + 1) (fun k => [(0, .d (.sl (some g) (some T) ((elimT p k v r).map eQ))), (1, .d (.sl (some gp) Tp (v.map eQ))), (7, .ptr 7 0 0), (9, .d (.int .i64 k))]) (fun k => [(7, some (.box [.d (.int .i64 f.num), .d (.int .i64 (f.den : Int))]))]) (fun k => n + 1 - k) p (by omega) (by simp [elimT_zero]) (by simp) ?_
  intro k hs t m hk hh
  by_cases hlt : k < n + 1
  ·have hwk := wr1 (i := k) (by omega)
   have hkr : k < r.length := by omega
   have hkv : k < v.length := by omega
   have hqk := h.q k (by omega)
   have hdk := h.d k (by omega)
   have hrk := h.r k (by omega)
   have hvk := h.v k (by omega)
   have est := elimT_succ (piv := v) hk.1 hkr
   rw [<- hfd, fnL_at hkv] at hqk
   rw [fnL_at hkv] at hvk
   rw [fnL_at hkr] at hrk
   rw [<- hfd, fnL_at hkv, fnL_at hkr] at hdk
   rw [<- hfd, fnL_at hkv] at est
   have hat := elimT_at (p := p) (piv := v) hkr
   obtain ⟨y, hy⟩ : ∃ y, y = r[k] - f * v[k] := ⟨_, rfl⟩
   have hmul := w_impl_MulRational f v[k] hf hvk hqk
   have hsub := w_impl_SubRational r[k] (f * v[k]) hrk hqk hdk
   rw [<- hy] at hsub est
   obtain ⟨L, hL⟩ : ∃ L, L = elimT p k v r := ⟨_, rfl⟩
   have hLl : L.length = n + 1 := by rw [hL]; simp [hlr]
   have hLk : k < L.length := by omega
   have hat' : L[k] = r[k] := by subst hL; exact hat
   rw [<- hL] at est ⊢
   have est2 : (L.map eQ).set k [.int .i64 y.num, .int .i64 (y.den : Int)] = (elimT p (k + 1) v r).map eQ := by
    rw [est, <- set_map]; rfl
   have hLl2 : (elimT p (k + 1) v r).length = L.length := by rw [est]; simp
   have hself := re_self (g := g) (T := T) hLl2
   simp [hLk, hkv, s128_1, s128_7, s128_8, ]
   refine ⟨?_, ?_⟩
   all_goals
    refine call_pure hmul rfl (by simp) rfl fun hs1 hh1 => ?_
    try simp at hh1
    simp [hLk, hat', s128_1, s128_7, s128_8, ]
    refine ⟨?_, ?_⟩
    all_goals
     refine call_pure hsub rfl (by simp) rfl fun hs2 hh2 => ?_
     try simp at hh2
     simp [hLk, est2, hpv, hself, hwk, s128_1, s128_7, s128_8, ]
     refine back (k + 1) (by omega) (by omega) rfl (by simp <;> omega) (by simp) (by simp)
  ·have hkn : k = n + 1 := by omega
   subst hkn
   simp [hlr, vendX, s128_1, s128_7, s128_8, ]
   refine ⟨[0], fun γ hs' h1 h2 => ?_⟩
   simp [elimT_all (show r.length <= n + 1 by omega)]
end
end Go.Proofs.YtaoaoijchijlcaaGreatDoor
namespace Go.Proofs.YtaoaoijchijlcaaGreatDoor
open Go.Vs Go.Proofs Go
set_option maxRecDepth 100000
set_option maxHeartbeats 1000000
theorem w_condI {P : Program} {E : Md} {sch : Nat -> Tr} {Q : Exit -> St -> Prop} {σ : St} (c : Operand) (x y : Code) : vwp P E sch (.cond c x y) Q σ = (isBool (σ.ev c) = true /\ if getB (σ.ev c) = true then vwp P E sch x Q σ else vwp P E sch y Q σ) := by
 rw [w_cond]
 cases getB (σ.ev c) <;> simp
section
attribute [local simp] pS cP eQ_def
theorem x_spec_l13Step (gm : Nat) (TM : Option (TypeId × Nat)) (T : TypeId × Nat) (rows : List (Nat × List _root_.Rat)) (p n : Nat) (hn : n <= 4) (hl : rows.length = n) (hp : p < n) (hnd : (rows.map (·.1)).Nodup) (hgm : gm ∉ rows.map (·.1))
  (hlen : ∀ r ∈ rows, r.2.length = n + 1) (hs : ∀ i (hi : i < rows.length), ElimS n p (rows[p]'(by omega)).2 rows[i].2) :
  VX Tryz.prog 124 (rows.map (·.1)) [.d (.sl (some gm) TM (rows.map (cR T))), .d (.int .i64 p)] none
   (fun _ res _ ws => res = .d (.bool true) /\ ∃ rows' : List (Nat × List _root_.Rat), rows'.map (·.1) = rows.map (·.1) /\ rows'.map (·.2) = stepM p (rows.map (·.2)) /\ ws = [.sl (some gm) TM (rows'.map (cR T))]) := by
 refine VX.of E s124 (by kernel_rfl) Tryz.func124 (by rfl) (by kernel_rfl) (by simp [Tryz.f124]) (by simp [Tryz.f124]) s124_ok ?_ ?_ fun B hB => ?_
 ·exact fun q hq => .inl (by simp only [idsVL, V.ids, D.ids, List.append_nil, ids_cRs]; exact List.mem_append_right _ hq)
 ·exact fun cs h => nomatch h
 obtain ⟨M, hM⟩ : ∃ M, M = rows.map (·.2) := ⟨_, rfl⟩
 obtain ⟨ids, hids⟩ : ∃ ids, ids = rows.map (·.1) := ⟨_, rfl⟩
 have hMl : M.length = n := by rw [hM]; simpa using hl
 have hil : ids.length = n := by rw [hids]; simpa using hl
 have hMi : ∀ i (hi : i < rows.length), M[i]'(by omega) = rows[i].2 := fun i hi => by subst hM; simp
 rw [<- hM]
 simp [-w_condT, w_condI, Tryz.f124, s124_5, s124_9, s124_10, s124_12, s124_5, s124_9, s124_10, s124_12, ]
 refine loop_rule (X := Nat × List (Nat × List _root_.Rat)) (fun x => x.1 <= n /\ x.2.map (·.1) = ids /\ x.2.map (·.2) = stepQ p x.1 M) (fun x => [(0, .d (.sl (some gm) TM (x.2.map (cR T)))), (1, .d (.int .i64 p)), (5, .d (.int .i64 x.1))]) (fun _ => []) (fun x => n - x.1) (0, rows) ⟨by omega, hids.symm, by rw [stepQ_zero]; exact hM.symm⟩ (by simp) (by simp) ?_
 rintro ⟨i, R⟩ hs0 t m ⟨h1, h2, h3⟩ hh
 simp only at h1 h2 h3
 have hRl : R.length = n := by have := congrArg List.length h2; simpa [hil] using this
 by_cases hlt : i < n
 ·have hwi := wr1 (i := i) (by omega)
  by_cases hip : i = p
  ·subst hip
   simp [-w_condT, w_condI, hRl, hlt, hwi, s124_5, s124_9, s124_10, s124_12, ]
   exact back (i + 1, R) ⟨by simp only; omega, h2, by rw [h3]; exact stepQ_p.symm⟩ (by simp only; omega) rfl (by simp <;> omega) (by simp) (by simp)
  have hiR : i < R.length := by omega
  have hpR : p < R.length := by omega
  obtain ⟨gi, r, hRi⟩ : ∃ gi r, R[i] = (gi, r) := ⟨_, _, rfl⟩
  obtain ⟨gp, v, hRp⟩ : ∃ gp v, R[p] = (gp, v) := ⟨_, _, rfl⟩
  have hE := hs i (by omega)
  have er : r = rows[i].2 := by
   have a1 : (R.map (·.2))[i]'(by simpa using hiR) = r := by simp [hRi]
   have a2 : (stepQ p i M)[i]'(by simp; omega) = rows[i].2 := by rw [stepQ_at (by omega)]; exact hMi i (by omega)
   rw [<- a1, <- a2]; congr 1
  have ev : v = (rows[p]'(by omega)).2 := by
   have a1 : (R.map (·.2))[p]'(by simpa using hpR) = v := by simp [hRp]
   have a2 : (stepQ p i M)[p]'(by simp; omega) = (rows[p]'(by omega)).2 := by rw [stepQ_piv (by omega)]; exact hMi p (by omega)
   rw [<- a1, <- a2]; congr 1
  rw [<- er, <- ev] at hE
  have hRnd : (R.map (·.1)).Nodup := by rw [h2, hids]; exact hnd
  have gi1 : (R.map (·.1))[i]? = some gi := by simp [hiR, hRi]
  have gp1 : (R.map (·.1))[p]? = some gp := by simp [hpR, hRp]
  have hgip : gp ≠ gi := fun e => hip (nd_idx hRnd gi1 (by rw [gp1, e]))
  have hgi : gi ∈ ids := by rw [<- h2]; exact List.mem_of_getElem? gi1
  have hgim : gi ≠ gm := fun e => hgm (by rw [<- e, <- hids]; exact hgi)
  have hlr := hE.lr
  have hlv := hE.lv
  obtain ⟨es, hes⟩ : ∃ es, es = R.map (cR T) := ⟨_, rfl⟩
  have hesl : es.length = n := by rw [hes]; simpa using hRl
  have hei : es[i]'(by omega) = [.sl (some gi) (some T) (r.map eQ)] := by subst hes; simp [hRi, cR]
  have hep : es[p]'(by omega) = [.sl (some gp) (some T) (v.map eQ)] := by subst hes; simp [hRp, cR]
  have hpr : p < r.length := by omega
  have hpv' : p < v.length := by omega
  have hst : stepQ p (i + 1) M = (stepQ p i M).set i (elimR p v r) := by
   rw [stepQ_succ (by omega) (by omega) hip]
   rw [hMi i (by omega), hMi p (by omega), <- er, <- ev]
  rw [<- hes]
  by_cases hz : r[p].num = 0
  ·have hz' : fnL r p = 0 := by rw [fnL_at hpr]; exact _root_.Rat.num_eq_zero.1 hz
   simp [-w_condT, w_condI, hesl, hlt, hip, hp, hei, hpr, hz, hwi, s124_5, s124_9, s124_10, s124_12, ]
   refine back (i + 1, R) ⟨by simp only; omega, h2, ?_⟩ (by simp only; omega) rfl (by simp <;> omega) (by simp [hes]) (by simp)
   rw [h3, hst, elim_zero hz']
   rw [set_same]
   rw [List.getElem?_eq_getElem (by simp; omega), stepQ_at (by omega), hMi i (by omega), <- er]
  have ep : fnL r p = r[p] := fnL_at hpr
  have ew : fnL v p = v[p] := fnL_at hpv'
  have hf := hE.f
  have hr1 := hE.r p (by omega)
  have hv1 := hE.v p (by omega)
  have hne := hE.ne
  obtain ⟨f, hfd⟩ : ∃ f, f = fnL r p / fnL v p := ⟨_, rfl⟩
  rw [<- hfd] at hf
  have hdiv := w_spec_DivRational (fnL r p) (fnL v p) hr1 hv1 hne (by rw [<- hfd]; exact hf)
  rw [<- hfd, ep, ew] at hdiv
  simp [-w_condT, w_condI, hesl, hlt, hip, hp, hei, hep, hpr, hpv', hz, s124_5, s124_9, s124_10, s124_12, ]
  refine ⟨?_, ?_⟩
  all_goals
   refine call_pure hdiv rfl (by simp) rfl fun hs1 hh1 => ?_
   try simp at hh1
   simp [-w_condT, w_condI, s124_5, s124_9, s124_10, s124_12, ]
   refine loop_rule (X := Nat) (fun k => p <= k /\ k <= n + 1) (fun k => [(0, .d (.sl (some gm) TM ((R.set i (gi, elimT p k v r)).map (cR T)))), (1, .d (.int .i64 p)), (5, .d (.int .i64 i)), (6, .ptr 6 0 0), (7, .d (.bool true)), (8, .d (.int .i64 k))]) (fun _ => [(6, some (.box [.d (.int .i64 f.num), .d (.int .i64 (f.den : Int))]))]) (fun k => n + 1 - k) p (by omega) ?_ (by simp) ?_
   ·rw [elimT_zero, ← hRi, List.set_getElem_self]
    simp [hes]
   intro k hs2 t2 m2 hk hh2
   obtain ⟨L, hL⟩ : ∃ L, L = elimT p k v r := ⟨_, rfl⟩
   have hLl : L.length = n + 1 := by rw [hL]; simp [hlr]
   rw [<- hL]
   obtain ⟨es2, hes2⟩ : ∃ es2, es2 = (R.set i (gi, L)).map (cR T) := ⟨_, rfl⟩
   have hes2l : es2.length = n := by rw [hes2]; simpa using hRl
   have hei2 : es2[i]'(by omega) = [.sl (some gi) (some T) (L.map eQ)] := by subst hes2; simp [cR]
   have hep2 : es2[p]'(by omega) = [.sl (some gp) (some T) (v.map eQ)] := by subst hes2; simp [List.getElem_set, hip, hRp, cR]
   by_cases hltk : k < n + 1
   ·have hwk := wr1 (i := k) (by omega)
    have hkr : k < r.length := by omega
    have hkv : k < v.length := by omega
    have hkL : k < L.length := by omega
    have hqk := hE.q k (by omega)
    have hdk := hE.d k (by omega)
    have hrk := hE.r k (by omega)
    have hvk := hE.v k (by omega)
    have est := elimT_succ (piv := v) hk.1 hkr
    rw [<- hfd, fnL_at hkv] at hqk
    rw [fnL_at hkv] at hvk
    rw [fnL_at hkr] at hrk
    rw [<- hfd, fnL_at hkv, fnL_at hkr] at hdk
    rw [<- hfd, fnL_at hkv] at est
    have hat := elimT_at (p := p) (piv := v) hkr
    obtain ⟨y, hy⟩ : ∃ y, y = r[k] - f * v[k] := ⟨_, rfl⟩
    have hmul := w_spec_MulRational f v[k] hf hvk hqk
    have hsub := w_spec_SubRational r[k] (f * v[k]) hrk hqk hdk
    rw [<- hy] at hsub est
    have hat' : L[k] = r[k] := by subst hL; exact hat
    rw [<- hL] at est
    have est2 : (L.map eQ).set k [.int .i64 y.num, .int .i64 (y.den : Int)] = (elimT p (k + 1) v r).map eQ := by
     rw [est, <- set_map]; rfl
    have hLl2 : (elimT p (k + 1) v r).length = L.length := by rw [est]; simp
    have hre : reV (one gi (.sl (some gi) (some T) ((elimT p (k + 1) v r).map eQ))) (.d (.sl (some gm) TM es2)) = .d (.sl (some gm) TM ((R.set i (gi, elimT p (k + 1) v r)).map (cR T))) := by
     have hfs : (R.set i (gi, L)).map (·.1) = R.map (·.1) := by
      rw [List.map_set]; exact set_same gi1
     have := re_rowQ (φ := one gi (.sl (some gi) (some T) ((elimT p (k + 1) v r).map eQ))) (gm := gm) (TM := TM) (T := T) (rows := R.set i (gi, L)) (i := i) (g := gi) (r := L) (r' := elimT p (k + 1) v r) (by simp [hiR]) hLl2 (by rw [hfs]; exact hRnd) (one_out (Ne.symm hgim)) (by simp [one]) (fun q _ hqg => one_out hqg)
     rw [hes2, this, List.set_set]
    rw [<- hes2]
    simp [-w_condT, w_condI, hes2l, hlt, hp, hei2, hep2, hkL, hkv, s124_5, s124_9, s124_10, s124_12, ]
    refine ⟨?_, ?_⟩
    all_goals
     refine call_pure hmul rfl (by simp) rfl fun hs3 hh3 => ?_
     try simp at hh3
     simp [-w_condT, w_condI, hes2l, hlt, hei2, hkL, hat', s124_5, s124_9, s124_10, s124_12, ]
     refine ⟨?_, ?_⟩
     all_goals
      refine call_pure hsub rfl (by simp) rfl fun hs4 hh4 => ?_
      try simp at hh4
      simp [-w_condT, w_condI, hes2l, hlt, hei2, hkL, est2, hre, hwk, s124_5, s124_9, s124_10, s124_12, ]
      refine ⟨.inr ?_, ?_⟩
      ·rw [hids] at hgi; simpa using hgi
      exact back (k + 1) (by omega) (by omega) rfl (by simp <;> omega) (by simp) (by simp)
   ·have hkn : k = n + 1 := by omega
    have hLL : L = elimR p v r := by rw [hL]; exact elimT_all (by omega)
    rw [<- hes2]
    simp [-w_condT, w_condI, hes2l, hlt, hei2, hkn, hLl, hwi, s124_5, s124_9, s124_10, s124_12, ]
    refine back (i + 1, R.set i (gi, L)) ⟨by simp only; omega, ?_, ?_⟩ (by simp only; omega) rfl (by simp <;> omega) (by simp [hes2]) (by simp)
    ·simp only [List.map_set]; rw [<- h2]; exact set_same gi1
    ·simp only [List.map_set]; rw [h3, hst, hLL]
 ·have hin : i = n := by omega
  subst hin
  simp [-w_condT, w_condI, hRl, vendX, s124_5, s124_9, s124_10, s124_12, ]
  refine ⟨[0], fun γ hs' _ _ => ?_⟩
  simp
  exact ⟨R, by rw [h2, hids], by rw [h3]; exact stepQ_all (by omega), rfl⟩
end
end Go.Proofs.YtaoaoijchijlcaaGreatDoor
namespace Go.Proofs.YtaoaoijchijlcaaGreatDoor
open Go.Vs Go.Proofs Go
set_option maxRecDepth 100000
set_option maxHeartbeats 1000000
section
attribute [local simp] pS cP eQ_def
theorem e_impl_copyRationals1 (l : List _root_.Rat) (hb : l.length <= 4294967296) (hne : l ≠ []) :
  VC Tryz.prog 117 [.d (pS eQ l)] (fun n r => ∃ g : Nat, r = .d (.sl (some g) (some (33, 2)) (l.map eQ)) /\ n <= g) :=
 (e_impl_copyRationals l hb).weak fun n r ⟨g, h1, h2, h3⟩ => by
  cases g with
  | none => exact absurd (h3 rfl) hne
  | some g => exact ⟨g, h1, h2 g rfl⟩
structure RowI (R : List (List _root_.Rat)) (B i : Nat) (rows : List (Nat × List _root_.Rat)) (hs : Nat) : Prop where
 le : i <= R.length
 snd : rows.map (·.2) = R.take i
 nd : (rows.map (·.1)).Nodup
 lo : ∀ g ∈ rows.map (·.1), B <= g
 hi : ∀ g ∈ rows.map (·.1), g < hs
theorem RowI.len {R : List (List _root_.Rat)} {B i hs : Nat} {rows : List (Nat × List _root_.Rat)} (h : RowI R B i rows hs) : rows.length = i := by
 have h1 := congrArg List.length h.snd
 have h2 := h.le
 simp only [List.length_map, List.length_take] at h1
 omega
theorem RowI.snoc {R : List (List _root_.Rat)} {B i hs hs' : Nat} {rows : List (Nat × List _root_.Rat)} (h : RowI R B i rows hs) (hi : i < R.length) {g : Nat} (h1 : B <= g) (h2 : g < hs') (h3 : g ∉ rows.map (·.1)) (h4 : hs <= hs') : RowI R B (i + 1) (rows ++ [(g, R[i])]) hs' := by
 refine ⟨hi, ?_, ?_, fun q hq => ?_, fun q hq => ?_⟩
 ·rw [List.map_append, h.snd, List.take_succ_eq_append_getElem hi]; rfl
 ·rw [List.map_append, List.nodup_append]
  refine ⟨h.nd, by simp, fun a ha b hb => ?_⟩
  simp at hb
  rintro rfl
  exact h3 (hb ▸ ha)
 ·rw [List.map_append] at hq
  rcases List.mem_append.1 hq with hq | hq
  ·exact h.lo q hq
  ·simp at hq; rw [hq]; exact h1
 ·rw [List.map_append] at hq
  rcases List.mem_append.1 hq with hq | hq
  ·exact Nat.lt_of_lt_of_le (h.hi q hq) h4
  ·simp at hq; rw [hq]; exact h2
structure MatI (R : List (List _root_.Rat)) (n B p gm : Nat) (rows : List (Nat × List _root_.Rat)) : Prop where
 pn : p <= n
 gj : gj R p = some (rows.map (·.2))
 nd : (rows.map (·.1)).Nodup
 lo : ∀ g ∈ rows.map (·.1), B <= g
 gB : B <= gm
 gN : gm ∉ rows.map (·.1)
theorem MatI.fst {R : List (List _root_.Rat)} {n B p gm : Nat} {rows rows' : List (Nat × List _root_.Rat)} (h : MatI R n B p gm rows) (hp : (rows'.map (·.1)).Perm (rows.map (·.1))) : (rows'.map (·.1)).Nodup /\ (∀ g ∈ rows'.map (·.1), B <= g) /\ gm ∉ rows'.map (·.1) :=
 ⟨hp.nodup_iff.2 h.nd, fun g hg => h.lo g (hp.mem_iff.1 hg), fun hg => h.gN (hp.mem_iff.1 hg)⟩
theorem e_impl_SolveLinearSystem (n : Nat) (R : List (List _root_.Rat)) (hn1 : 1 <= n) (hn : n <= 4) (hl0 : R.length = n) (hr : ∀ r ∈ R, r.length = n + 1) (h01 : ∀ r ∈ R, ∀ q ∈ r, q = 0 \/ q = 1) :
  VC Tryz.prog 119 [.d (pS (cP eQ) (R.map (·.take n))), .d (pS eQ (R.map fun r => fnL r n))]
   (fun _ r => match solQ n R with
    | some x => ∃ id T, r = .tup [.d (.sl id T (x.map eQ)), .d (.bool true)]
    | none => r = .tup [.d (.sl none none []), .d (.bool false)]) := by
 have hb : Bd n 0 R := bd_01 hl0 h01
 obtain ⟨RB, hRB⟩ : ∃ RB, RB = R.map fun r => fnL r n := ⟨_, rfl⟩
 obtain ⟨MA, hMA⟩ : ∃ MA, MA = R.map (·.take n) := ⟨_, rfl⟩
 have hRBl : RB.length = n := by rw [hRB]; simpa using hl0
 have hMAl : MA.length = n := by rw [hMA]; simpa using hl0
 have hRBs : ∀ q ∈ RB, smQ q := fun q hq => by
  rw [hRB] at hq
  obtain ⟨r, hr', rfl⟩ := List.mem_map.1 hq
  have := hr r hr'
  rw [fnL_at (by omega)]
  exact sm_01 (h01 r hr' _ (List.getElem_mem _))
 have hMAi : ∀ i (hi : i < R.length), MA[i]'(by omega) = R[i].take n := fun i hi => by subst hMA; simp
 have hRBi : ∀ i (hi : i < R.length), RB[i]'(by omega) = fnL R[i] n := fun i hi => by subst hRB; simp
 rw [<- hRB, <- hMA]
 refine VC.of E s119 (by kernel_rfl) Tryz.func119 (by rfl) (by kernel_rfl) (by simp [Tryz.f119]) (by simp [Tryz.f119]) s119_ok fun B => ?_
 simp [-w_condT, w_condI, Tryz.f119, s119_10, s119_20, s119_24, s119_30, s119_10, s119_20, s119_24, s119_30, hRBl, hMAl, show (n : Int) <= 6 by omega, show ¬ (6 : Int) < n by omega]
 refine call_pure (w_impl_allValid RB hRBs) rfl (by simp) rfl fun hs0 hh0 => ?_
 try simp at hh0
 simp [-w_condT, w_condI, s119_10, s119_20, s119_24, s119_30, hMAl]
 refine loop_ruleL (X := Nat × List (Nat × List _root_.Rat)) (fun x hs => RowI R B x.1 x.2 hs) (fun x => [(1, .d (.pl (RB.map eQ))), (6, .d (.int .i64 n)), (7, .own 700 0 x.2.length), (32, .d (.pl (MA.map (cP eQ)))), (33, .d (.int .i64 n)), (34, .d (.int .i64 x.1))])
  (fun x => [(700, some (.row 48 1 (x.2.map (cR (33, 2)))))]) (fun x => n - x.1) ?_ ?_
 ·refine (lead_slot 7 700 48 1 (by omega) (by omega) (by simp)).bind ?_
  rintro _ rfl
  exact Lead.of ⟨(0, []), ⟨by simp, by simp, by simp, by simp, by simp⟩, rfl, rfl, Nat.le_refl _, by simp, by simp⟩
 rintro ⟨i, rows⟩ hs1 t m hI hh1
 simp only
 have hIl : rows.length = i := hI.len
 have hle : i <= R.length := hI.le
 by_cases hlt : i < n
 ·have hiR : i < R.length := by omega
  have hwi := wr1 (i := i) (by omega)
  have hrm := List.getElem_mem hiR
  have hrl := hr _ hrm
  obtain ⟨a, ha⟩ : ∃ a, a = MA[i]'(by omega) := ⟨_, rfl⟩
  have ha2 : a = R[i].take n := by rw [ha]; exact hMAi i hiR
  have hal : a.length = n := by rw [ha2]; simp; omega
  have hasm : ∀ q ∈ a, smQ q := fun q hq => by rw [ha2] at hq; exact sm_01 (h01 _ hrm q (List.mem_of_mem_take hq))
  obtain ⟨b, hb'⟩ : ∃ b, b = RB[i]'(by omega) := ⟨_, rfl⟩
  have hab : a ++ [b] = R[i] := by rw [ha2, hb', hRBi i hiR]; exact app_last hrl
  refine anyQ2 fun Q => ?_
  simp [-w_condT, w_condI, hlt, hMAl, <- ha, hal, s119_10, s119_20, s119_24, s119_30, ]
  refine call_pure (w_impl_allValid a hasm) rfl (by simp) rfl fun hs2 hh2 => ?_
  try simp at hh2
  simp [-w_condT, w_condI, hRBl, hlt, <- hb', s119_10, s119_20, s119_24, s119_30, ]
  have hane : a ≠ [] := fun e => by rw [e] at hal; simp at hal; omega
  have hL1 : LenOk 16 (n + 1) := ⟨by omega, by simp only [maxLen]; omega⟩
  have hL2 : LenOk 24 (i + 1) := ⟨by omega, by simp only [maxLen]; omega⟩
  have htk : (a.map eQ ++ [eQ b]).take (n + 1) = a.map eQ ++ [eQ b] := List.take_of_length_le (by simp; omega)
  rw [eQ_def b] at htk
  refine ⟨?_, ?_⟩
  all_goals
   refine call_o (e_impl_copyRationals1 a (by omega) hane) (by simp) fun r2 n2 hs3 hn2 hm2 hp2 => ?_
   obtain ⟨g2, rfl, hg2⟩ := hp2
   refine ⟨33, 2, a.map eQ, by omega, .inr ⟨g2, rfl, hg2, by simp⟩, ?_⟩
   try simp at hn2
   simp [-w_condT, w_condI, hal, hIl, hRBl, hlt, <- hb', hL1, s119_10, s119_20, s119_24, s119_30, ]
   refine bs1 (k' := 50) (ks := []) (by simp) (by simp) fun γ hs4 h4 hg => ?_
   obtain ⟨q1, q2⟩ := gam_at hg (k := 50) (T := 33) (sz := 2) (es := (a ++ [b]).map eQ) (by simp)
   have q3 := gam_row2 hg (k := 50) (k2 := 700) (T := 33) (sz := 2) (es := (a ++ [b]).map eQ) (T2 := 48) (sz2 := 1) (es2 := rows.map (cR (33, 2))) (by simp) (by simp)
   clear hg
   obtain ⟨g, hgk⟩ := Option.ne_none_iff_exists'.1 (q2 (by simp))
   obtain ⟨q4, q5⟩ := q1 g hgk
   replace q4 : B <= g := q4
   have q6 := q3 g hgk
   simp only [ids_cRs] at q6
   simp at h4
   simp [-w_condT, w_condI, hal, hIl, hL2, hgk, hwi, s119_10, s119_20, s119_24, s119_30, ]
   refine back2 (i + 1, rows ++ [(g, R[i])]) (hI.snoc (hs' := hs4) hiR q4 q5 q6 (by omega)) (by simp only; omega) rfl (by simp <;> omega) (by simp [hIl]) (by simp [cR, <- hab, htk])
 have hin : i = n := by omega
 subst hin
 have hrows : rows.map (·.2) = R := by rw [hI.snd, List.take_of_length_le (by omega)]
 simp [-w_condT, w_condI, s119_10, s119_20, s119_24, s119_30, hIl]
 refine loop_ruleL (X := Nat × Nat × List (Nat × List _root_.Rat)) (fun x _ => MatI R i B x.1 x.2.1 x.2.2) (fun x => [(6, .d (.int .i64 i)), (7, .d (.sl (some x.2.1) (some (48, 1)) (x.2.2.map (cR (33, 2))))), (10, .d (.int .i64 x.1))]) (fun _ => []) (fun x => i - x.1) ?_ ?_
 ·refine (lead_frz 700 (T := 48) (sz := 1) (es := rows.map (cR (33, 2))) (by simp)).bind ?_
  rintro _ ⟨γ, hs', g1, hg, rfl⟩
  obtain ⟨q1, q2⟩ := gam_at hg (k := 700) (T := 48) (sz := 1) (es := rows.map (cR (33, 2))) (by simp)
  have q3 := gam_row hg (k := 700) (T := 48) (sz := 1) (es := rows.map (cR (33, 2))) (by simp)
  clear hg
  have hne : rows.map (cR (33, 2)) ≠ [] := fun e => by have := congrArg List.length e; simp at this; subst this; simp at hIl; omega
  obtain ⟨gm, hgm⟩ := Option.ne_none_iff_exists'.1 (q2 hne)
  have q4 : B <= gm := (q1 gm hgm).1
  have q5 := q3 gm hgm
  simp only [ids_cRs] at q5
  have htk : (rows.map (cR (33, 2))).take i = rows.map (cR (33, 2)) := List.take_of_length_le (by simp; omega)
  exact Lead.of ⟨(0, gm, rows), ⟨by simp, by rw [hrows]; rfl, hI.nd, hI.lo, q4, q5⟩, rfl, rfl, g1, by simp [hgm, hIl, htk], by simp⟩
 rintro ⟨p, gm, S⟩ hs2 t2 m2 hM hh2
 clear hI hIl hrows
 have hpn : p <= i := hM.pn
 obtain ⟨TM, hTM⟩ : ∃ TM : TypeId × Nat, TM = (48, 1) := ⟨_, rfl⟩
 obtain ⟨T, hT⟩ : ∃ T : TypeId × Nat, T = (33, 2) := ⟨_, rfl⟩
 simp only [<- hTM, <- hT]
 have hgj := gj_inv hl0 hr hb p hpn _ hM.gj
 have hSl : S.length = i := by have := hgj.1.len; simpa using this
 have hSr : ∀ k (hk : k < S.length), S[k].2.length = i + 1 := fun k hk => hgj.1.row _ (List.mem_map.2 ⟨_, List.getElem_mem hk, rfl⟩)
 have hSq : ∀ k (hk : k < S.length) j, rowQ (S.map (·.2)) k j = fnL S[k].2 j := fun k hk j => by rw [rowQ, gd (by simpa using hk)]; simp
 by_cases hlt2 : p < i
 ·have hwp := wr1 (i := p) (by omega)
  simp [-w_condT, w_condI, hlt2, s119_10, s119_20, s119_24, s119_30, ]
  refine loop_rule (X := Nat) (fun k => p <= k /\ k <= i /\ ∀ j, p <= j -> j < k -> rowQ (S.map (·.2)) j p = 0) (fun k => [(6, .d (.int .i64 i)), (7, .d (.sl (some gm) (some TM) (S.map (cR T)))), (10, .d (.int .i64 p)), (11, .d (.int .i64 k))]) (fun _ => []) (fun k => i - k) p ⟨by omega, by omega, fun j h1 h2 => by omega⟩ (by simp) (by simp) ?_
  intro k hs3 t3 m3 hk hh3
  by_cases hki : k < i
  ·have hwk := wr1 (i := k) (by omega)
   obtain ⟨gk, r, hSk⟩ : ∃ gk r, S[k]'(by omega) = (gk, r) := ⟨_, _, rfl⟩
   have hrl : r.length = i + 1 := by have := hSr k (by omega); rw [hSk] at this; exact this
   have hpr : p < r.length := by omega
   have hq : rowQ (S.map (·.2)) k p = r[p] := by rw [hSq k (by omega), hSk]; exact fnL_at hpr
   obtain ⟨es, hes⟩ : ∃ es, es = S.map (cR T) := ⟨_, rfl⟩
   have hesl : es.length = i := by rw [hes]; simpa using hSl
   have hek : es[k]'(by omega) = [.sl (some gk) (some T) (r.map eQ)] := by subst hes; simp [hSk, cR]
   rw [<- hes]
   by_cases hz : r[p].num = 0
   ·refine anyQ fun Q => ?_
    simp [-w_condT, w_condI, hki, hesl, hek, hpr, hz, hwk, s119_10, s119_20, s119_24, s119_30, ]
    refine back (k + 1) ⟨by omega, by omega, fun j h1 h2 => ?_⟩ (by omega) rfl (by simp <;> omega) (by simp [hes]) (by simp)
    by_cases e : j = k
    ·subst e; rw [hq]; exact _root_.Rat.num_eq_zero.1 hz
    ·exact hk.2.2 j h1 (by omega)
   have hpv : pivAt (S.map (·.2)) p = k := piv_eq hk.1 hk.2.2 (.inr ⟨by simp; omega, by rw [hq]; exact fun e => hz (by rw [e]; rfl)⟩)
   have hst := stp_of hn hl0 hr hb hM.gj hlt2 hpv hki
   obtain ⟨gp, v, hSp⟩ : ∃ gp v, S[p]'(by omega) = (gp, v) := ⟨_, _, rfl⟩
   have hep : es[p]'(by omega) = [.sl (some gp) (some T) (v.map eQ)] := by subst hes; simp [hSp, cR]
   have hgk : gk ∈ S.map (·.1) := List.mem_map.2 ⟨_, List.getElem_mem (show k < S.length by omega), by rw [hSk]⟩
   have hgp : gp ∈ S.map (·.1) := List.mem_map.2 ⟨_, List.getElem_mem (show p < S.length by omega), by rw [hSp]⟩
   have hmk : gm ≠ gk := fun e => hM.gN (e ▸ hgk)
   have hmp : gm ≠ gp := fun e => hM.gN (e ▸ hgp)
   have hpe : p < es.length := by omega
   have hgB := hM.gB
   have hn1 : gm ∉ idsLL es := by rw [hes, ids_cRs]; exact hM.gN
   obtain ⟨es1, hes1⟩ : ∃ es1, es.set p [.sl (some gk) (some T) (r.map eQ)] = es1 := ⟨_, rfl⟩
   have hes1l : es1.length = i := by rw [<- hes1]; simpa using hesl
   have hn2 : gm ∉ idsLL es1 := by rw [<- hes1]; exact nin_set hn1 (by simp [idsL, D.ids, hmk])
   have hek1 : ∃ c, es1[k]'(by omega) = [c] := by
    subst hes1; rw [List.getElem_set]; split
    ·exact ⟨_, rfl⟩
    ·exact ⟨_, hek⟩
   obtain ⟨c1, hek1⟩ := hek1
   have hre1 := re_mset (gm := gm) (TM := TM) (es := es) (i := p) (e' := [.sl (some gk) (some T) (r.map eQ)]) hpe (by rw [hep]; rfl)
   rw [hes1] at hre1
   obtain ⟨es2, hes2⟩ : ∃ es2, es1.set k [.sl (some gp) (some T) (v.map eQ)] = es2 := ⟨_, rfl⟩
   have hre2 := re_mset (gm := gm) (TM := TM) (es := es1) (i := k) (e' := [.sl (some gp) (some T) (v.map eQ)]) (by omega) (by rw [hek1]; rfl)
   rw [hes2] at hre2
   have hrk : ∀ d, reV (one gm d) (.d (.sl (some gk) (some T) (r.map eQ))) = .d (.sl (some gk) (some T) (r.map eQ)) := fun d => re_rowout (one_out (Ne.symm hmk))
   have hrp : ∀ d, reV (one gm d) (.d (.sl (some gp) (some T) (v.map eQ))) = .d (.sl (some gp) (some T) (v.map eQ)) := fun d => re_rowout (one_out (Ne.symm hmp))
   have hek1' : es1[k]? = some [c1] := by rw [List.getElem?_eq_getElem (by omega), hek1]
   simp [-w_condT, w_condI, hki, hesl, hek, hep, hpr, hz, hlt2, hgB, hn1, hn2, hmk, hmp, hes1, hre1, hes1l, hek1, hek1', hes2, hre2, hrk, hrp, show ¬ (k : Int) = i by omega, show k ≠ i by omega, s119_10, s119_20, s119_24, s119_30, ]
   have hpS : p < S.length := by omega
   have hkS : k < S.length := by omega
   obtain ⟨S2, hS2⟩ : ∃ S2, S2 = swapR S p k := ⟨_, rfl⟩
   obtain ⟨M2, hM2⟩ : ∃ M2, M2 = S2.map (·.2) := ⟨_, rfl⟩
   have hM2s : M2 = swapM (S.map (·.2)) p k := by rw [hM2, hS2, swapR_snd]
   have hS2e : es2 = S2.map (cR T) := by
    rw [hS2, swapR_set hpS hkS, <- hes2, <- hes1, hes, <- set_map, <- set_map, hSk, hSp]; rfl
   have hpm : (S2.map (·.1)).Perm (S.map (·.1)) := by rw [hS2]; exact (swapR_perm hpS hkS).map _
   obtain ⟨f1, f2, f3⟩ := hM.fst hpm
   obtain ⟨ids, hids⟩ : ∃ ids, ids = S2.map (·.1) := ⟨_, rfl⟩
   rw [<- hids] at f1 f2 f3
   have hsl := hst.len
   have hsr := hst.row
   have hse := hst.safe
   have hsn := hst.ne
   have hnx := hst.nxt
   rw [<- hM2s] at hsl hsr hse hsn hnx
   have hidl : ids.length = i := by rw [hids, hS2]; simp [swapR_len, hSl]
   refine loop_rule (X := Nat × List (Nat × List _root_.Rat)) (fun x => x.1 <= i /\ x.2.map (·.1) = ids /\ x.2.map (·.2) = stepQ p x.1 M2) (fun x => [(6, .d (.int .i64 i)), (7, .d (.sl (some gm) (some TM) (x.2.map (cR T)))), (10, .d (.int .i64 p)), (12, .d (.int .i64 x.1))]) (fun _ => []) (fun x => i - x.1) (0, S2) ⟨by omega, hids.symm, by rw [stepQ_zero]; exact hM2.symm⟩ (by simp [hS2e]) (by simp) ?_
   rintro ⟨j, Y⟩ hs4 t4 m4 ⟨h1, h2, h3⟩ hh4
   simp only at h1 h2 h3
   have hYl : Y.length = i := by have := congrArg List.length h2; simpa [hidl] using this
   by_cases hji : j < i
   ·have hwj := wr1 (i := j) (by omega)
    refine anyQ fun Q => ?_
    by_cases hjp : j = p
    ·subst hjp
     simp [-w_condT, w_condI, hji, hYl, hwj, s119_10, s119_20, s119_24, s119_30, ]
     exact back (j + 1, Y) ⟨by simp only; omega, h2, by rw [h3]; exact stepQ_p.symm⟩ (by simp only; omega) rfl (by simp <;> omega) (by simp) (by simp)
    have hjY : j < Y.length := by omega
    have hpY : p < Y.length := by omega
    obtain ⟨gj, u, hYj⟩ : ∃ gj u, Y[j] = (gj, u) := ⟨_, _, rfl⟩
    obtain ⟨gq, w, hYp⟩ : ∃ gq w, Y[p] = (gq, w) := ⟨_, _, rfl⟩
    have eu : u = M2[j]'(by omega) := by
     have a1 : (Y.map (·.2))[j]'(by simpa using hjY) = u := by simp [hYj]
     have a2 : (stepQ p j M2)[j]'(by simp; omega) = M2[j]'(by omega) := stepQ_at (by omega)
     rw [<- a1, <- a2]; congr 1
    have ew : w = M2[p]'(by omega) := by
     have a1 : (Y.map (·.2))[p]'(by simpa using hpY) = w := by simp [hYp]
     have a2 : (stepQ p j M2)[p]'(by simp; omega) = M2[p]'(by omega) := stepQ_piv (by omega)
     rw [<- a1, <- a2]; congr 1
    have hE := hse.elim hsl hsr hlt2 hji hsn
    rw [<- eu, <- ew] at hE
    have gj1 : (Y.map (·.1))[j]? = some gj := by simp [hjY, hYj]
    have gq1 : (Y.map (·.1))[p]? = some gq := by simp [hpY, hYp]
    have hYnd : (Y.map (·.1)).Nodup := by rw [h2]; exact f1
    have hgne : gq ≠ gj := fun e => hjp (nd_idx hYnd gj1 (by rw [gq1, e]))
    have hgj : gj ∈ ids := by rw [<- h2]; exact List.mem_of_getElem? gj1
    have hgjm : gj ≠ gm := fun e => f3 (e ▸ hgj)
    have hgjB := f2 _ hgj
    have hul := hE.lr
    have hpu : p < u.length := by omega
    obtain ⟨ys, hys⟩ : ∃ ys, ys = Y.map (cR T) := ⟨_, rfl⟩
    have hysl : ys.length = i := by rw [hys]; simpa using hYl
    have hyj : ys[j]'(by omega) = [.sl (some gj) (some T) (u.map eQ)] := by subst hys; simp [hYj, cR]
    have hyp : ys[p]'(by omega) = [.sl (some gq) (some T) (w.map eQ)] := by subst hys; simp [hYp, cR]
    have hst2 : stepQ p (j + 1) M2 = (stepQ p j M2).set j (elimR p w u) := by
     rw [stepQ_succ (by omega) (by omega) hjp, <- eu, <- ew]
    rw [<- hys]
    by_cases hz2 : u[p].num = 0
    ·have hz' : fnL u p = 0 := by rw [fnL_at hpu]; exact _root_.Rat.num_eq_zero.1 hz2
     simp [-w_condT, w_condI, hysl, hji, hjp, hyj, hpu, hz2, hwj, s119_10, s119_20, s119_24, s119_30, ]
     refine back (j + 1, Y) ⟨by simp only; omega, h2, ?_⟩ (by simp only; omega) rfl (by simp <;> omega) (by simp [hys]) (by simp)
     rw [h3, hst2, elim_zero hz', set_same]
     rw [List.getElem?_eq_getElem (by simp; omega), stepQ_at (by omega), <- eu]
    have hre : reV (one gj (.sl (some gj) (some T) ((elimR p w u).map eQ))) (.d (.sl (some gm) (some TM) ys)) = .d (.sl (some gm) (some TM) ((Y.set j (gj, elimR p w u)).map (cR T))) := by
     rw [hys]
     exact re_rowQ (φ := one gj (.sl (some gj) (some T) ((elimR p w u).map eQ))) (gm := gm) (T := T) (rows := Y) (i := j) (g := gj) (r := u) (r' := elimR p w u) (by simp [hjY, hYj]) (by simp [elimR]) hYnd (one_out (Ne.symm hgjm)) (by simp [one]) (fun q _ hqg => one_out hqg)
    simp [-w_condT, w_condI, hysl, hji, hlt2, hjp, hyj, hyp, hpu, hz2, s119_10, s119_20, s119_24, s119_30, ]
    refine call_x (E128) (by simp) (by simp) (by simp) (fun q hq => .inl (by simp at hq; rw [hq]; exact hgjB)) (x_impl_eliminate gj gq T (some T) p i w u hE hn hgne) fun n5 hs5 r5 cs5 ws5 hn5 hm5 hp5 hr5 hw5 => ?_
    obtain ⟨rfl, rfl⟩ := hp5
    try simp at hn5
    simp [-w_condT, w_condI, phi_single, hre, hwj, s119_10, s119_20, s119_24, s119_30, ]
    refine back (j + 1, Y.set j (gj, elimR p w u)) ⟨by simp only; omega, ?_, ?_⟩ (by simp only; omega) rfl (by simp <;> omega) (by simp) (by simp)
    ·simp only [List.map_set]; rw [<- h2]; exact set_same gj1
    ·simp only [List.map_set]; rw [h3, hst2]
   ·have hjn : j = i := by omega
    subst hjn
    rw [stepQ_all (by omega)] at h3
    simp [-w_condT, w_condI, hwp, s119_10, s119_20, s119_24, s119_30, ]
    refine back2 (p + 1, gm, Y) ⟨by omega, by rw [h3]; exact hnx, by rw [h2]; exact f1, by rw [h2]; exact f2, hgB, by rw [h2]; exact f3⟩ (by simp only; omega) rfl (by simp <;> omega) (by simp) (by simp)
  ·have hki2 : k = i := by omega
   have hpv : pivAt (S.map (·.2)) p = k := piv_eq hk.1 hk.2.2 (.inl (by simp; omega))
   have hno := sol_none hM.gj (by rw [hpv]; simp; omega) hlt2
   rw [hno]
   simp [-w_condT, w_condI, hki, hki2, s119_10, s119_20, s119_24, s119_30, ]
 have hpi : p = i := by omega
 subst hpi
 obtain ⟨-, e2, e3, e4, e5⟩ := sol_end hn hl0 hr hb hM.gj
 rw [e3]
 obtain ⟨F, hF⟩ : ∃ F : Nat -> _root_.Rat, F = fun j => rowQ (S.map (·.2)) j p / rowQ (S.map (·.2)) j j := ⟨_, rfl⟩
 have hout : outM p (S.map (·.2)) = (List.range p).map F := by rw [hF]; rfl
 rw [hout]
 simp [-w_condT, w_condI, s119_10, s119_20, s119_24, s119_30, ]
 refine loop_ruleL (X := Nat) (fun j _ => j <= p) (fun j => [(6, .d (.int .i64 p)), (7, .d (.sl (some gm) (some TM) (S.map (cR T)))), (13, .own 701 0 j), (14, .d (.int .i64 j))]) (fun j => [(701, some (.row 33 2 (((List.range j).map F).map eQ)))]) (fun j => p - j) ?_ ?_
 ·refine (lead_slot 13 701 33 2 (by omega) (by omega) (by simp)).bind ?_
  rintro _ rfl
  exact Lead.of ⟨0, by omega, rfl, rfl, Nat.le_refl _, by simp, by simp⟩
 intro j hs6 t6 m6 hj hh6
 by_cases hjp : j < p
 ·have hwj := wr1 (i := j) (by omega)
  have hjS : j < S.length := by omega
  obtain ⟨g, r, hSj⟩ : ∃ g r, S[j] = (g, r) := ⟨_, _, rfl⟩
  have hrl : r.length = p + 1 := by have := hSr j hjS; rw [hSj] at this; exact this
  have hjr : j < r.length := by omega
  have hpr : p < r.length := by omega
  have hj5 := e5 j (by simpa using hjS)
  simp only [List.getElem_map, hSj] at hj5
  obtain ⟨d1, d2, d3, d4⟩ := hj5
  have hFj : F j = fnL r p / fnL r j := by rw [hF]; simp only [hSq j hjS, hSj]
  have hdiv := w_impl_DivRational (fnL r p) (fnL r j) d3 d2 d1 d4
  rw [<- hFj, fnL_at hpr, fnL_at hjr] at hdiv
  have hL : LenOk 16 (j + 1) := ⟨by omega, by simp only [maxLen]; omega⟩
  obtain ⟨es, hes⟩ : ∃ es, es = S.map (cR T) := ⟨_, rfl⟩
  have hesl : es.length = p := by rw [hes]; simpa using hSl
  have hej : es[j]'(by omega) = [.sl (some g) (some T) (r.map eQ)] := by subst hes; simp [hSj, cR]
  rw [<- hes]
  refine anyQ2 fun Q => ?_
  simp [-w_condT, w_condI, hjp, hesl, hej, hjr, hpr, s119_10, s119_20, s119_24, s119_30, ]
  refine ⟨?_, ?_⟩
  all_goals
   refine call_pure hdiv rfl (by simp) rfl fun hs7 hh7 => ?_
   try simp at hh7
   simp [-w_condT, w_condI, hL, hwj, s119_10, s119_20, s119_24, s119_30, ]
   refine back2 (j + 1) (by omega) (by omega) rfl (by simp <;> omega) (by simp [hes]) (by simp [List.range_succ])
 ·have hjn : j = p := by omega
  subst hjn
  simp [-w_condT, w_condI, s119_10, s119_20, s119_24, s119_30, ]
  intro γ hs' h1 hg
  clear hg
  have htk : (List.map (eQ ∘ F) (List.range j)).take j = List.map (eQ ∘ F) (List.range j) := List.take_of_length_le (by simp)
  have hpp : hpLL (List.map (eQ ∘ F) (List.range j)) = false := by rw [<- List.map_map]; exact hp_eQs _
  rw [htk]
  simp [hpp]
end
end Go.Proofs.YtaoaoijchijlcaaGreatDoor
namespace Go.Proofs.YtaoaoijchijlcaaGreatDoor
open Go.Vs Go.Proofs Go
set_option maxRecDepth 100000
set_option maxHeartbeats 1000000
section
attribute [local simp] pS cP eQ_def
def solV (n : Nat) (R : List (List _root_.Rat)) : V := match solQ n R with
 | some x => .tup [.d (.pl (x.map eQ)), .d (.bool true)]
 | none => .tup [.d (.pl []), .d (.bool false)]
theorem er_eQ : ∀ l : List _root_.Rat, erLL (l.map eQ) = l.map eQ
 | [] => rfl
 | a :: r => by simp only [List.map_cons, erLL, er_eQ r]; rfl
theorem w_impl_SolveLinearSystem (n : Nat) (R : List (List _root_.Rat)) (hn1 : 1 <= n) (hn : n <= 4) (hl0 : R.length = n) (hr : ∀ r ∈ R, r.length = n + 1) (h01 : ∀ r ∈ R, ∀ q ∈ r, q = 0 \/ q = 1) :
  VC Tryz.prog 119 [.d (pS (cP eQ) (R.map (·.take n))), .d (pS eQ (R.map fun r => fnL r n))] (fun _ r => r = solV n R) := by
 refine VC.erase (e_impl_SolveLinearSystem n R hn1 hn hl0 hr h01) fun _ r h => ?_
 unfold solV
 cases e : solQ n R with
 | none => rw [e] at h; subst h; rfl
 | some x =>
   rw [e] at h
   obtain ⟨id, T, rfl⟩ := h
   simp [rp, rpL, D.er, er_eQ]
theorem e_spec_SolveLinearSystem (n : Nat) (R : List (List _root_.Rat)) (hn1 : 1 <= n) (hn : n <= 4) (hl0 : R.length = n) (hr : ∀ r ∈ R, r.length = n + 1) (h01 : ∀ r ∈ R, ∀ q ∈ r, q = 0 \/ q = 1) :
  VC Tryz.prog 112 [.d (pS (cP eQ) (R.map (·.take n))), .d (pS eQ (R.map fun r => fnL r n))]
   (fun _ r => match solQ n R with
    | some x => ∃ id T, r = .tup [.d (.sl id T (x.map eQ)), .d (.bool true)]
    | none => ∃ id T, r = .tup [.d (.sl id T []), .d (.bool false)]) := by
 have hb : Bd n 0 R := bd_01 hl0 h01
 obtain ⟨RB, hRB⟩ : ∃ RB, RB = R.map fun r => fnL r n := ⟨_, rfl⟩
 obtain ⟨MA, hMA⟩ : ∃ MA, MA = R.map (·.take n) := ⟨_, rfl⟩
 have hRBl : RB.length = n := by rw [hRB]; simpa using hl0
 have hMAl : MA.length = n := by rw [hMA]; simpa using hl0
 have hRBs : ∀ q ∈ RB, smQ q := fun q hq => by
  rw [hRB] at hq
  obtain ⟨r, hr', rfl⟩ := List.mem_map.1 hq
  have := hr r hr'
  rw [fnL_at (by omega)]
  exact sm_01 (h01 r hr' _ (List.getElem_mem _))
 have hMAi : ∀ i (hi : i < R.length), MA[i]'(by omega) = R[i].take n := fun i hi => by subst hMA; simp
 have hRBi : ∀ i (hi : i < R.length), RB[i]'(by omega) = fnL R[i] n := fun i hi => by subst hRB; simp
 rw [<- hRB, <- hMA]
 refine VC.of E s112 (by kernel_rfl) Tryz.func112 (by rfl) (by kernel_rfl) (by simp [Tryz.f112]) (by simp [Tryz.f112]) s112_ok fun B => ?_
 have hMAr : ∀ r ∈ MA, r.length = n := fun r hr' => by
  rw [hMA] at hr'
  obtain ⟨r', h1, rfl⟩ := List.mem_map.1 hr'
  have := hr r' h1
  simp; omega
 have hMAs : ∀ r ∈ MA, ∀ q ∈ r, smQ q := fun r hr' q hq => by
  rw [hMA] at hr'
  obtain ⟨r', h1, rfl⟩ := List.mem_map.1 hr'
  exact sm_01 (h01 r' h1 q (List.mem_of_mem_take hq))
 simp [-w_condT, w_condI, Tryz.f112, s112_10, s112_28, s112_10, s112_28, hRBl, hMAl, show (n : Int) <= 6 by omega, show ¬ (6 : Int) < n by omega]
 refine call_pure (w_spec_l13Square MA n n (by omega) (by omega) hMAr hMAs) (by simp) (by simp) rfl fun hs0 hh0 => ?_
 try simp at hh0
 simp [-w_condT, w_condI, s112_10, s112_28, hMAl]
 refine loop_ruleL (X := Nat × List (Nat × List _root_.Rat)) (fun x hs => RowI R B x.1 x.2 hs) (fun x => [(0, .d (.pl (MA.map (cP eQ)))), (1, .d (.pl (RB.map eQ))), (6, .d (.int .i64 n)), (7, .own 28 0 x.2.length), (8, .d (.int .i64 x.1))])
  (fun x => [(28, some (.row 48 1 (x.2.map (cR (33, 2)))))]) (fun x => n - x.1) ?_ ?_
 ·exact Lead.of ⟨(0, []), ⟨by simp, by simp, by simp, by simp, by simp⟩, rfl, rfl, Nat.le_refl _, by simp, by simp⟩
 rintro ⟨i, rows⟩ hs1 t m hI hh1
 simp only
 have hIl : rows.length = i := hI.len
 have hle : i <= R.length := hI.le
 by_cases hlt : i < n
 ·have hiR : i < R.length := by omega
  have hwi := wr1 (i := i) (by omega)
  have hrm := List.getElem_mem hiR
  have hrl := hr _ hrm
  obtain ⟨a, ha⟩ : ∃ a, a = MA[i]'(by omega) := ⟨_, rfl⟩
  have ha2 : a = R[i].take n := by rw [ha]; exact hMAi i hiR
  have hal : a.length = n := by rw [ha2]; simp; omega
  obtain ⟨b, hb'⟩ : ∃ b, b = RB[i]'(by omega) := ⟨_, rfl⟩
  have hbs : smQ b := hRBs b (by rw [hb']; exact List.getElem_mem _)
  have hab : a ++ [b] = R[i] := by rw [ha2, hb', hRBi i hiR]; exact app_last hrl
  have hane : a ≠ [] := fun e => by rw [e] at hal; simp at hal; omega
  have hL0 : LenOk 16 n := ⟨by omega, by simp only [maxLen]; omega⟩
  have hL1 : LenOk 16 (n + 1) := ⟨by omega, by simp only [maxLen]; omega⟩
  have hL2 : LenOk 24 (i + 1) := ⟨by omega, by simp only [maxLen]; omega⟩
  have htk : (a.map eQ ++ [eQ b]).take (n + 1) = a.map eQ ++ [eQ b] := List.take_of_length_le (by simp; omega)
  rw [eQ_def b] at htk
  have htk0 : (a.map eQ).take n = a.map eQ := List.take_of_length_le (by simp; omega)
  have hlen0 : ∀ l ∈ a.map eQ, l.length = 2 := fun l hl => by obtain ⟨q, _, rfl⟩ := List.mem_map.1 hl; rfl
  refine anyQ2 fun Q => ?_
  simp [-w_condT, w_condI, hlt, hRBl, <- hb', s112_10, s112_28, ]
  refine call_pure (w_spec_IsValidRational b hbs) rfl (by simp) rfl fun hs2 hh2 => ?_
  try simp at hh2
  simp [-w_condT, w_condI, hRBl, hMAl, hlt, <- ha, <- hb', hal, hL0, hL1, htk0, s112_10, s112_28, ]
  refine ⟨⟨?_, ?_⟩, ?_⟩
  all_goals
   refine bs1 (k' := 42) (ks := []) (by simp) (by simp) fun γ hs4 h4 hg => ?_
   obtain ⟨q1, q2⟩ := gam_at hg (k := 42) (T := 33) (sz := 2) (es := (a ++ [b]).map eQ) (by simp)
   have q3 := gam_row2 hg (k := 42) (k2 := 28) (T := 33) (sz := 2) (es := (a ++ [b]).map eQ) (T2 := 48) (sz2 := 1) (es2 := rows.map (cR (33, 2))) (by simp) (by simp)
   clear hg
   obtain ⟨g, hgk⟩ := Option.ne_none_iff_exists'.1 (q2 (by simp))
   obtain ⟨q4, q5⟩ := q1 g hgk
   replace q4 : B <= g := q4
   have q6 := q3 g hgk
   simp only [ids_cRs] at q6
   simp at h4
   simp [-w_condT, w_condI, hal, hIl, hL2, hgk, hwi, s112_10, s112_28, ]
   refine back2 (i + 1, rows ++ [(g, R[i])]) (hI.snoc (hs' := hs4) hiR q4 q5 q6 (by omega)) (by simp only; omega) rfl (by simp <;> omega) (by simp [hIl]) (by simp [cR, <- hab, htk])
 have hin : i = n := by omega
 subst hin
 have hrows : rows.map (·.2) = R := by rw [hI.snd, List.take_of_length_le (by omega)]
 simp [-w_condT, w_condI, s112_10, s112_28, hIl]
 refine loop_ruleL (X := Nat × Nat × List (Nat × List _root_.Rat)) (fun x _ => MatI R i B x.1 x.2.1 x.2.2) (fun x => [(6, .d (.int .i64 i)), (7, .d (.sl (some x.2.1) (some (48, 1)) (x.2.2.map (cR (33, 2))))), (9, .d (.int .i64 x.1))]) (fun _ => []) (fun x => i - x.1) ?_ ?_
 ·refine (lead_frz 28 (T := 48) (sz := 1) (es := rows.map (cR (33, 2))) (by simp)).bind ?_
  rintro _ ⟨γ, hs', g1, hg, rfl⟩
  obtain ⟨q1, q2⟩ := gam_at hg (k := 28) (T := 48) (sz := 1) (es := rows.map (cR (33, 2))) (by simp)
  have q3 := gam_row hg (k := 28) (T := 48) (sz := 1) (es := rows.map (cR (33, 2))) (by simp)
  clear hg
  have hne : rows.map (cR (33, 2)) ≠ [] := fun e => by have := congrArg List.length e; simp at this; subst this; simp at hIl; omega
  obtain ⟨gm, hgm⟩ := Option.ne_none_iff_exists'.1 (q2 hne)
  have q4 : B <= gm := (q1 gm hgm).1
  have q5 := q3 gm hgm
  simp only [ids_cRs] at q5
  have htk : (rows.map (cR (33, 2))).take i = rows.map (cR (33, 2)) := List.take_of_length_le (by simp; omega)
  exact Lead.of ⟨(0, gm, rows), ⟨by simp, by rw [hrows]; rfl, hI.nd, hI.lo, q4, q5⟩, rfl, rfl, g1, by simp [hgm, hIl, htk], by simp⟩
 rintro ⟨p, gm, S⟩ hs2 t2 m2 hM hh2
 clear hI hIl hrows
 have hpn : p <= i := hM.pn
 obtain ⟨TM, hTM⟩ : ∃ TM : TypeId × Nat, TM = (48, 1) := ⟨_, rfl⟩
 obtain ⟨T, hT⟩ : ∃ T : TypeId × Nat, T = (33, 2) := ⟨_, rfl⟩
 simp only [<- hTM, <- hT]
 have hgj := gj_inv hl0 hr hb p hpn _ hM.gj
 have hSl : S.length = i := by have := hgj.1.len; simpa using this
 have hSr : ∀ k (hk : k < S.length), S[k].2.length = i + 1 := fun k hk => hgj.1.row _ (List.mem_map.2 ⟨_, List.getElem_mem hk, rfl⟩)
 have hSq : ∀ k (hk : k < S.length) j, rowQ (S.map (·.2)) k j = fnL S[k].2 j := fun k hk j => by rw [rowQ, gd (by simpa using hk)]; simp
 by_cases hlt2 : p < i
 ·have hwp := wr1 (i := p) (by omega)
  simp [-w_condT, w_condI, hlt2, s112_10, s112_28, ]
  refine loop_rule (X := Nat) (fun k => p <= k /\ k <= i /\ ∀ j, p <= j -> j < k -> rowQ (S.map (·.2)) j p = 0) (fun k => [(6, .d (.int .i64 i)), (7, .d (.sl (some gm) (some TM) (S.map (cR T)))), (9, .d (.int .i64 p)), (10, .d (.int .i64 k))]) (fun _ => []) (fun k => i - k) p ⟨by omega, by omega, fun j h1 h2 => by omega⟩ (by simp) (by simp) ?_
  intro k hs3 t3 m3 hk hh3
  by_cases hki : k < i
  ·have hwk := wr1 (i := k) (by omega)
   obtain ⟨gk, r, hSk⟩ : ∃ gk r, S[k]'(by omega) = (gk, r) := ⟨_, _, rfl⟩
   have hrl : r.length = i + 1 := by have := hSr k (by omega); rw [hSk] at this; exact this
   have hpr : p < r.length := by omega
   have hq : rowQ (S.map (·.2)) k p = r[p] := by rw [hSq k (by omega), hSk]; exact fnL_at hpr
   obtain ⟨es, hes⟩ : ∃ es, es = S.map (cR T) := ⟨_, rfl⟩
   have hesl : es.length = i := by rw [hes]; simpa using hSl
   have hek : es[k]'(by omega) = [.sl (some gk) (some T) (r.map eQ)] := by subst hes; simp [hSk, cR]
   rw [<- hes]
   by_cases hz : r[p].num = 0
   ·refine anyQ fun Q => ?_
    simp [-w_condT, w_condI, hki, hesl, hek, hpr, hz, hwk, s112_10, s112_28, ]
    refine back (k + 1) ⟨by omega, by omega, fun j h1 h2 => ?_⟩ (by omega) rfl (by simp <;> omega) (by simp [hes]) (by simp)
    by_cases e : j = k
    ·subst e; rw [hq]; exact _root_.Rat.num_eq_zero.1 hz
    ·exact hk.2.2 j h1 (by omega)
   have hpv : pivAt (S.map (·.2)) p = k := piv_eq hk.1 hk.2.2 (.inr ⟨by simp; omega, by rw [hq]; exact fun e => hz (by rw [e]; rfl)⟩)
   have hst := stp_of hn hl0 hr hb hM.gj hlt2 hpv hki
   obtain ⟨gp, v, hSp⟩ : ∃ gp v, S[p]'(by omega) = (gp, v) := ⟨_, _, rfl⟩
   have hep : es[p]'(by omega) = [.sl (some gp) (some T) (v.map eQ)] := by subst hes; simp [hSp, cR]
   have hgk : gk ∈ S.map (·.1) := List.mem_map.2 ⟨_, List.getElem_mem (show k < S.length by omega), by rw [hSk]⟩
   have hgp : gp ∈ S.map (·.1) := List.mem_map.2 ⟨_, List.getElem_mem (show p < S.length by omega), by rw [hSp]⟩
   have hmk : gm ≠ gk := fun e => hM.gN (e ▸ hgk)
   have hmp : gm ≠ gp := fun e => hM.gN (e ▸ hgp)
   have hpe : p < es.length := by omega
   have hgB := hM.gB
   have hn1 : gm ∉ idsLL es := by rw [hes, ids_cRs]; exact hM.gN
   have hke : k < es.length := by omega
   obtain ⟨es1, hes1⟩ : ∃ es1, es.set k [.sl (some gp) (some T) (v.map eQ)] = es1 := ⟨_, rfl⟩
   have hes1l : es1.length = i := by rw [<- hes1]; simpa using hesl
   have hn2 : gm ∉ idsLL es1 := by rw [<- hes1]; exact nin_set hn1 (by simp [idsL, D.ids, hmp])
   have hek1 : ∃ c, es1[p]'(by omega) = [c] := by
    subst hes1; rw [List.getElem_set]; split
    ·exact ⟨_, rfl⟩
    ·exact ⟨_, hep⟩
   obtain ⟨c1, hek1⟩ := hek1
   have hre1 := re_mset (gm := gm) (TM := TM) (es := es) (i := k) (e' := [.sl (some gp) (some T) (v.map eQ)]) hke (by rw [hek]; rfl)
   rw [hes1] at hre1
   obtain ⟨es2, hes2⟩ : ∃ es2, es1.set p [.sl (some gk) (some T) (r.map eQ)] = es2 := ⟨_, rfl⟩
   have hre2 := re_mset (gm := gm) (TM := TM) (es := es1) (i := p) (e' := [.sl (some gk) (some T) (r.map eQ)]) (by omega) (by rw [hek1]; rfl)
   rw [hes2] at hre2
   have hrk : ∀ d, reV (one gm d) (.d (.sl (some gk) (some T) (r.map eQ))) = .d (.sl (some gk) (some T) (r.map eQ)) := fun d => re_rowout (one_out (Ne.symm hmk))
   have hrp : ∀ d, reV (one gm d) (.d (.sl (some gp) (some T) (v.map eQ))) = .d (.sl (some gp) (some T) (v.map eQ)) := fun d => re_rowout (one_out (Ne.symm hmp))
   have hek1' : es1[p]? = some [c1] := by rw [List.getElem?_eq_getElem (by omega), hek1]
   have hpS : p < S.length := by omega
   have hkS : k < S.length := by omega
   obtain ⟨S2, hS2⟩ : ∃ S2, S2 = swapR S p k := ⟨_, rfl⟩
   obtain ⟨M2, hM2⟩ : ∃ M2, M2 = S2.map (·.2) := ⟨_, rfl⟩
   have hM2s : M2 = swapM (S.map (·.2)) p k := by rw [hM2, hS2, swapR_snd]
   have hS2e : es2 = S2.map (cR T) := by
    rw [hS2, swapR_set2 hpS hkS, <- hes2, <- hes1, hes, <- set_map, <- set_map, hSk, hSp]; rfl
   have hpm : (S2.map (·.1)).Perm (S.map (·.1)) := by rw [hS2]; exact (swapR_perm hpS hkS).map _
   obtain ⟨f1, f2, f3⟩ := hM.fst hpm
   have hsl := hst.len
   have hsr := hst.row
   have hse := hst.safe
   have hsn := hst.ne
   have hnx := hst.nxt
   rw [<- hM2s] at hsl hsr hse hsn hnx
   have hS2l : S2.length = i := by rw [hS2]; simp [swapR_len, hSl]
   have hM2i : ∀ j (hj : j < S2.length), M2[j]'(by omega) = S2[j].2 := fun j hj => by subst hM2; simp
   have hX := x_spec_l13Step gm (some TM) T S2 p i hn hS2l hlt2 f1 f3 (fun q hq => hsr _ (by rw [hM2]; exact List.mem_map.2 ⟨_, hq, rfl⟩)) (fun j hj => by
    have := hse.elim hsl hsr hlt2 (show j < i by omega) hsn
    rw [hM2i p (by omega), hM2i j hj] at this
    exact this)
   rw [<- hS2e] at hX
   simp [-w_condT, w_condI, hki, hesl, hek, hep, hpr, hz, hlt2, hgB, hn1, hn2, hmk, hmp, hes1, hre1, hes1l, hek1, hek1', hes2, hre2, hrk, hrp, show ¬ (k : Int) = i by omega, show k ≠ i by omega, s112_10, s112_28, ]
   refine call_x (E124) (by simp) (by simp) (by simp) (fun q hq => .inl (f2 q hq)) hX fun n5 hs5 r5 cs5 ws5 hn5 hm5 hp5 hr5 hw5 => ?_
   obtain ⟨rfl, Y, y1, y2, rfl⟩ := hp5
   try simp at hn5
   rw [<- hM2] at y2
   have hY2 : Y.map (·.2.length) = S2.map (·.2.length) := by
    have e1 : Y.map (·.2.length) = (Y.map (·.2)).map List.length := by rw [List.map_map]; rfl
    have e2 : S2.map (·.2.length) = M2.map List.length := by rw [hM2, List.map_map]; rfl
    rw [e1, e2, y2]
    apply List.ext_getElem (by simp [stepM])
    intro j h1 h2
    simp only [List.getElem_map, stepM, List.getElem_mapIdx]
    split
    ·rename_i e; subst e; rfl
    ·simp [elimR]
   have hre := re_mat (W := S2.map (·.1)) (gm := gm) (TM := some TM) (TM' := some TM) (T := T) (rows := S2) (rows' := Y) y1 hY2 f1 f3 f3 (fun q hq => hq)
   rw [<- hS2e] at hre
   simp [-w_condT, w_condI, hre, hwp, s112_10, s112_28, ]
   refine back2 (p + 1, gm, Y) ⟨by omega, by rw [y2]; exact hnx, by rw [y1]; exact f1, by rw [y1]; exact f2, hgB, by rw [y1]; exact f3⟩ (by simp only; omega) rfl (by simp <;> omega) (by simp) (by simp)
  ·have hki2 : k = i := by omega
   have hpv : pivAt (S.map (·.2)) p = k := piv_eq hk.1 hk.2.2 (.inl (by simp; omega))
   have hno := sol_none hM.gj (by rw [hpv]; simp; omega) hlt2
   rw [hno]
   simp [-w_condT, w_condI, hki, hki2, s112_10, s112_28, ]
 have hpi : p = i := by omega
 subst hpi
 obtain ⟨-, e2, e3, e4, e5⟩ := sol_end hn hl0 hr hb hM.gj
 rw [e3]
 obtain ⟨F, hF⟩ : ∃ F : Nat -> _root_.Rat, F = fun j => rowQ (S.map (·.2)) j p / rowQ (S.map (·.2)) j j := ⟨_, rfl⟩
 have hout : outM p (S.map (·.2)) = (List.range p).map F := by rw [hF]; rfl
 rw [hout]
 simp [-w_condT, w_condI, s112_10, s112_28, ]
 refine loop_ruleL (X := Nat) (fun j _ => j <= p) (fun j => [(6, .d (.int .i64 p)), (7, .d (.sl (some gm) (some TM) (S.map (cR T)))), (12, .own 102 0 j), (13, .d (.int .i64 j))]) (fun j => [(102, some (.row 33 2 (((List.range j).map F).map eQ)))]) (fun j => p - j) ?_ ?_
 ·exact Lead.of ⟨0, by omega, rfl, rfl, Nat.le_refl _, by simp, by simp⟩
 intro j hs6 t6 m6 hj hh6
 by_cases hjp : j < p
 ·have hwj := wr1 (i := j) (by omega)
  have hjS : j < S.length := by omega
  obtain ⟨g, r, hSj⟩ : ∃ g r, S[j] = (g, r) := ⟨_, _, rfl⟩
  have hrl : r.length = p + 1 := by have := hSr j hjS; rw [hSj] at this; exact this
  have hjr : j < r.length := by omega
  have hpr : p < r.length := by omega
  have hj5 := e5 j (by simpa using hjS)
  simp only [List.getElem_map, hSj] at hj5
  obtain ⟨d1, d2, d3, d4⟩ := hj5
  have hFj : F j = fnL r p / fnL r j := by rw [hF]; simp only [hSq j hjS, hSj]
  have hdiv := w_spec_DivRational (fnL r p) (fnL r j) d3 d2 d1 d4
  rw [<- hFj, fnL_at hpr, fnL_at hjr] at hdiv
  have hL : LenOk 16 (j + 1) := ⟨by omega, by simp only [maxLen]; omega⟩
  obtain ⟨es, hes⟩ : ∃ es, es = S.map (cR T) := ⟨_, rfl⟩
  have hesl : es.length = p := by rw [hes]; simpa using hSl
  have hej : es[j]'(by omega) = [.sl (some g) (some T) (r.map eQ)] := by subst hes; simp [hSj, cR]
  rw [<- hes]
  refine anyQ2 fun Q => ?_
  simp [-w_condT, w_condI, hjp, hesl, hej, hjr, hpr, s112_10, s112_28, ]
  refine ⟨?_, ?_⟩
  all_goals
   refine call_pure hdiv rfl (by simp) rfl fun hs7 hh7 => ?_
   try simp at hh7
   simp [-w_condT, w_condI, hL, hwj, s112_10, s112_28, ]
   refine back2 (j + 1) (by omega) (by omega) rfl (by simp <;> omega) (by simp [hes]) (by simp [List.range_succ])
 ·have hjn : j = p := by omega
  subst hjn
  simp [-w_condT, w_condI, s112_10, s112_28, ]
  intro γ hs' h1 hg
  clear hg
  have htk : (List.map (eQ ∘ F) (List.range j)).take j = List.map (eQ ∘ F) (List.range j) := List.take_of_length_le (by simp)
  have hpp : hpLL (List.map (eQ ∘ F) (List.range j)) = false := by rw [<- List.map_map]; exact hp_eQs _
  rw [htk]
  simp [hpp]
theorem w_spec_SolveLinearSystem (n : Nat) (R : List (List _root_.Rat)) (hn1 : 1 <= n) (hn : n <= 4) (hl0 : R.length = n) (hr : ∀ r ∈ R, r.length = n + 1) (h01 : ∀ r ∈ R, ∀ q ∈ r, q = 0 \/ q = 1) :
  VC Tryz.prog 112 [.d (pS (cP eQ) (R.map (·.take n))), .d (pS eQ (R.map fun r => fnL r n))] (fun _ r => r = solV n R) := by
 refine VC.erase (e_spec_SolveLinearSystem n R hn1 hn hl0 hr h01) fun _ r h => ?_
 unfold solV
 cases e : solQ n R with
 | none =>
   rw [e] at h
   obtain ⟨id, T, rfl⟩ := h
   rfl
 | some x =>
   rw [e] at h
   obtain ⟨id, T, rfl⟩ := h
   simp [rp, rpL, D.er, er_eQ]
end
end Go.Proofs.YtaoaoijchijlcaaGreatDoor
namespace Go.Proofs.YtaoaoijchijlcaaGreatDoor
open Go.Vs Go.Proofs Go
set_option maxRecDepth 100000
set_option maxHeartbeats 1000000
section
attribute [local simp] pS cP eQ_def cI
theorem w_spec_l14Pick (b : Nat) (hb : b <= 9) : ∀ (n a : Nat), n <= 9 -> a <= 10 -> VC Tryz.prog 111 [.d (.int .i64 a), .d (.int .i64 b), .d (.int .i64 n)] (fun _ r => r = .d (pS (cP cI) ((combs n (rgF a b)).map intsN))) := by
 intro n
 induction n with
 | zero =>
   intro a _ _
   refine VC.ofL EP s111 (by kernel_rfl) Tryz.func111 (by rfl) (by kernel_rfl) (by simp [Tryz.f111]) (by simp [Tryz.f111]) s111_ok fun B hl => ?_
   simp [Tryz.f111, combs, intsN]
 | succ n ih =>
   intro a hn ha
   refine VC.ofL EP s111 (by kernel_rfl) Tryz.func111 (by rfl) (by kernel_rfl) (by simp [Tryz.f111]) (by simp [Tryz.f111]) s111_ok fun B hl => ?_
   clear hl
   obtain ⟨C, hC⟩ : ∃ C, C = (combs (n + 1) (rgF a b)).map intsN := ⟨_, rfl⟩
   have hCl : C.length <= 512 := by rw [hC, List.length_map]; exact combs_le hb
   rw [<- hC]
   simp [Tryz.f111, show ¬ ((n : Int) + 1 = 0) by omega]
   refine loop_rule (X := Nat × List (List Int)) (fun x => a <= x.1 /\ x.1 <= 10 /\ x.2 ++ (combs (n + 1) (rgF x.1 b)).map intsN = C) (fun x => [(1, .d (.int .i64 b)), (2, .d (.int .i64 ((n + 1 : Nat) : Int))), (7, .own 15 0 x.2.length), (8, .d (.int .i64 x.1))]) (fun x => [(15, some (.row 25 1 (x.2.map (cP cI))))]) (fun x => 20 - x.1) (a, []) ⟨by simp, by simp; omega, by simp [hC]⟩ (by simp) (by simp) ?_
   rintro ⟨i, O⟩ hs t m ⟨h1, h2, h3⟩ hh
   simp only at h1 h2 h3
   have hOl : O.length <= 512 := by have := congrArg List.length h3; simp at this; omega
   have hw0 : IntKind.i64.wrap ((i : Int) + ((n : Int) + 1)) = (i : Int) + ((n : Int) + 1) := wrap64_of (by omega) (by omega)
   have hw1 : IntKind.i64.wrap ((i : Int) + 1) = ((i + 1 : Nat) : Int) := by rw [wrap64_of (by omega) (by omega)]; omega
   have hw2 : IntKind.i64.wrap ((n : Int) + 1 - 1) = (n : Int) := by rw [wrap64_of (by omega) (by omega)]; omega
   have hw3 : IntKind.i64.wrap (n : Int) = (n : Int) := wrap64_of (by omega) (by omega)
   by_cases hlt : i + (n + 1) <= b
   ·have hib : i < b := by omega
    obtain ⟨Q, hQ⟩ : ∃ Q, Q = combs n (rgF (i + 1) b) := ⟨_, rfl⟩
    have hQl : Q.length <= 512 := by rw [hQ]; exact combs_le hb
    have hQm : ∀ c ∈ Q, c.length = n := fun c hc => by rw [hQ] at hc; exact (combs_sub hc).1
    have hst : C = O ++ Q.map (fun c => intsN (i :: c)) ++ (combs (n + 1) (rgF (i + 1) b)).map intsN := by
     rw [<- h3, combs_rg hib, List.map_append, List.map_map, <- hQ, List.append_assoc]; rfl
    have hih := ih (i + 1) (by omega) (by omega)
    rw [<- hQ] at hih
    simp [hw0, show (i : Int) + ((n : Int) + 1) <= b by omega, hw1, hw2, hw3, ]
    refine call_p hih (by simp) fun hs2 hh2 _ => ?_
    try simp at hh2
    simp []
    refine loop_rule (X := Nat) (fun k => k <= Q.length) (fun k => [(1, .d (.int .i64 b)), (2, .d (.int .i64 ((n + 1 : Nat) : Int))), (7, .own 15 0 (O.length + k)), (8, .d (.int .i64 i)), (9, .d (.pl ((Q.map intsN).map (cP cI)))), (10, .d (.int .i64 k))]) (fun k => [(15, some (.row 25 1 ((O ++ (Q.take k).map (fun c => intsN (i :: c))).map (cP cI))))]) (fun k => Q.length - k) 0 (by simp) (by simp) (by simp) ?_
    intro k hs3 t3 m3 hk hh3
    by_cases hkl : k < Q.length
    ·have hwk := wr1 (i := k) (by omega)
     have hqk := hQm _ (List.getElem_mem hkl)
     have hL1 : LenOk 8 (1 + n) := ⟨by omega, by simp only [maxLen]; omega⟩
     have hL2 : LenOk 24 (O.length + k + 1) := ⟨by omega, by simp only [maxLen]; omega⟩
     have hst2 : (O ++ (Q.take (k + 1)).map (fun c => intsN (i :: c))).map (cP cI) = (O ++ (Q.take k).map (fun c => intsN (i :: c))).map (cP cI) ++ [cP cI ((i : Int) :: intsN Q[k])] := by
      simp only [List.take_succ_eq_append_getElem hkl, List.map_append, List.append_assoc]; rfl
     obtain ⟨OO, hOO⟩ : ∃ OO, OO = (O ++ (Q.take k).map (fun c => intsN (i :: c))).map (cP cI) := ⟨_, rfl⟩
     have hOOl : OO.length = O.length + k := by rw [hOO]; simp; omega
     obtain ⟨c, hc⟩ : ∃ c, c = intsN Q[k] := ⟨_, rfl⟩
     have hcl : c.length = n := by rw [hc]; simpa using hqk
     rw [<- hOO] at hst2 ⊢
     rw [<- hc] at hst2
     have hst3 := hst2
     simp only [List.map_append, List.map_take, List.map_map] at hst3
     have htk : List.take (1 + n) ([D.int IntKind.i64 (i : Int)] :: List.map cI c) = [D.int IntKind.i64 (i : Int)] :: List.map cI c := List.take_of_length_le (by simp [hcl]; omega)
     refine anyQ fun Z => ?_
     simp [hkl, <- hc, hcl, hL1, hL2, hOOl, hwk, ]
     refine back (k + 1) (by omega) (by omega) rfl (by simp <;> omega) (by simp; omega) (by simp [hst3, htk])
    ·have hkn : k = Q.length := by omega
     subst hkn
     simp [hw1, ]
     refine back (i + 1, O ++ Q.map (fun c => intsN (i :: c))) ⟨by simp only; omega, by simp only; omega, hst.symm⟩ (by simp only; omega) rfl (by simp <;> omega) (by simp) (by simp [List.take_of_length_le])
   ·have hend : combs (n + 1) (rgF i b) = [] := combs_end (by omega) (by omega)
    rw [hend, List.map_nil, List.append_nil] at h3
    subst h3
    simp [hw0, show ¬ (i : Int) + ((n : Int) + 1) <= b by omega, List.take_of_length_le]
end
end Go.Proofs.YtaoaoijchijlcaaGreatDoor
namespace Go.Proofs.YtaoaoijchijlcaaGreatDoor
open Go.Vs Go.Proofs Go
set_option maxRecDepth 100000
set_option maxHeartbeats 1000000
section
attribute [local simp] pS cP eQ_def cI
theorem ptStep_some {A : List (List _root_.Rat)} {n : Nat} {out M : List (List _root_.Rat)} {x : List _root_.Rat} (h : solQ n M = some x) (hf : feasQ A x = true) : ptStep A n out M = addPt out x := by simp [ptStep, h, hf]
theorem ptStep_no {A : List (List _root_.Rat)} {n : Nat} {out M : List (List _root_.Rat)} {x : List _root_.Rat} (h : solQ n M = some x) (hf : feasQ A x = false) : ptStep A n out M = out := by simp [ptStep, h, hf]
theorem ptStep_none {A : List (List _root_.Rat)} {n : Nat} {out M : List (List _root_.Rat)} (h : solQ n M = none) : ptStep A n out M = out := by simp [ptStep, h]
theorem w_spec_l14Points (A : List (List _root_.Rat)) (n : Nat) (h : LPok A n) :
  VC Tryz.prog 105 [.agg [.d (pS (cP eQ) A), .d (pS eQ (List.replicate A.length 1)), .d (pS eQ (List.replicate n 1))], .d (.int .i64 1)] (fun _ r => r = .d (pS (cP eQ) (ptsQ A n))) := by
 have hn1 := h.n1
 have hn4 := h.n4
 have hm1 := h.m1
 have hm5 := h.m5
 obtain ⟨m, hm⟩ : ∃ m, m = A.length := ⟨_, rfl⟩
 obtain ⟨AR, hAR⟩ : ∃ AR, AR = augR A n := ⟨_, rfl⟩
 have hARl : AR.length = m + n := by rw [hAR, augR_len, hm]
 have hARr : ∀ r ∈ AR, r.length = n + 1 := by rw [hAR]; exact aug_len h.m01
 have hAR01 : ∀ r ∈ AR, ∀ q ∈ r, q = 0 \/ q = 1 := by rw [hAR]; exact aug_01 h.m01
 obtain ⟨CB, hCB⟩ : ∃ CB, CB = combs n (rgF 0 (m + n)) := ⟨_, rfl⟩
 have hCBl : CB.length <= 512 := by rw [hCB]; exact combs_le (by omega)
 have hpts : ptsQ A n = (CB.map (rowsA AR)).foldl (ptStep A n) [] := by
  rw [ptsQ, combs_AR, augR_len, hCB, hAR, hm]
 obtain ⟨OUT, hOUT⟩ : ∃ OUT : Nat -> List (List _root_.Rat), OUT = fun i => ((CB.take i).map (rowsA AR)).foldl (ptStep A n) [] := ⟨_, rfl⟩
 have hOl : ∀ i, (OUT i).length ≤ 512 := fun i => by
  rw [hOUT]
  have := fold_len (A := A) (n := n) ((CB.take i).map (rowsA AR)) []
  simp only [List.length_map, List.length_take, List.length_nil] at this
  simp only; omega
 have hO0 : OUT 0 = [] := by rw [hOUT]; rfl
 have hOs : ∀ i (hi : i < CB.length), OUT (i + 1) = ptStep A n (OUT i) (rowsA AR CB[i]) := fun i hi => by
  rw [hOUT]; simp only [List.take_succ_eq_append_getElem hi, List.map_append, List.foldl_append]; rfl
 have hOe : OUT CB.length = ptsQ A n := by rw [hOUT, hpts]; simp only [List.take_of_length_le (Nat.le_refl _)]
 obtain ⟨CI, hCI⟩ : ∃ CI, CI = CB.map intsN := ⟨_, rfl⟩
 have hCIl : CI.length = CB.length := by rw [hCI]; simp
 have hpick := w_spec_l14Pick (m + n) (by omega) n 0 (by omega) (by omega)
 rw [<- hCB, <- hCI] at hpick
 have hwmn : IntKind.i64.wrap ((m : Int) + (n : Int)) = ((m + n : Nat) : Int) := by rw [wrap64_of (by omega) (by omega)]; omega
 obtain ⟨B1, hB1⟩ : ∃ B1, B1 = List.replicate m (1 : _root_.Rat) := ⟨_, rfl⟩
 obtain ⟨C1, hC1⟩ : ∃ C1, C1 = List.replicate n (1 : _root_.Rat) := ⟨_, rfl⟩
 have hB1l : B1.length = m := by rw [hB1]; simp
 have hC1l : C1.length = n := by rw [hC1]; simp
 have hB1i : ∀ j (hj : j < m), B1[j]'(by omega) = 1 := fun j hj => by subst hB1; simp
 rw [<- hm, <- hB1, <- hC1]
 refine VC.ofL EP s105 (by kernel_rfl) Tryz.func105 (by rfl) (by kernel_rfl) (by simp [Tryz.f105]) (by simp [Tryz.f105]) s105_ok fun B hl => ?_
 clear hl
 simp [Tryz.f105, hwmn, hB1l, hC1l]
 refine call_p hpick (by simp) fun hs0 hh0 _ => ?_
 try simp at hh0
 simp []
 refine loop_rule (X := Nat) (fun i => i <= CB.length) (fun i => [(1, .d (.int .i64 1)), (2, .ptr 2 0 0), (5, .own 20 0 (OUT i).length), (6, .d (.int .i64 n)), (7, .d (.int .i64 m)), (8, .d (.pl (CI.map (cP cI)))), (9, .d (.int .i64 i))]) (fun i => [(2, some (.box [.d (.pl (A.map (cP eQ))), .d (.pl (B1.map eQ)), .d (.pl (C1.map eQ))])), (20, some (.row 48 1 ((OUT i).map (cP eQ))))]) (fun i => CB.length - i) 0 (by simp) (by simp [hO0]) (by simp [hO0]) ?_
 intro i hs1 t1 m1 hi hh1
 by_cases hlt : i < CB.length
 ·have hwi := wr1 (i := i) (by omega)
  obtain ⟨c, hc⟩ : ∃ c, c = CB[i] := ⟨_, rfl⟩
  have hcm : c ∈ combs n (rgF 0 (m + n)) := by rw [<- hCB, hc]; exact List.getElem_mem hlt
  obtain ⟨hcl, hcr⟩ := combs_sub hcm
  have hOsi := hOs i hlt
  rw [<- hc] at hOsi
  obtain ⟨M, hM⟩ : ∃ M, M = rowsA AR c := ⟨_, rfl⟩
  have hMl : M.length = n := by rw [hM, rowsA_len, hcl]
  have hMm : ∀ r ∈ M, r ∈ AR := fun r hr => by rw [hM] at hr; exact rowsA_mem (fun x hx => by have := hcr x hx; omega) hr
  have hMr : ∀ r ∈ M, r.length = n + 1 := fun r hr => hARr r (hMm r hr)
  have hM01 : ∀ r ∈ M, ∀ q ∈ r, q = 0 \/ q = 1 := fun r hr => hAR01 r (hMm r hr)
  rw [<- hM] at hOsi
  obtain ⟨ci, hci⟩ : ∃ ci, ci = intsN c := ⟨_, rfl⟩
  have hcil : ci.length = n := by rw [hci]; simpa using hcl
  have hCIi : CI[i]'(by omega) = ci := by subst hCI; simp [hci, hc]
  obtain ⟨O, hO⟩ : ∃ O, O = OUT i := ⟨_, rfl⟩
  have hOl2 : O.length <= 512 := by rw [hO]; exact hOl i
  rw [<- hO] at hOsi ⊢
  simp [hCIl, hlt, ]
  refine loop_rule (X := Nat) (fun k => k ≤ n) (fun k => [(1, .d (.int .i64 1)), (2, .ptr 2 0 0), (5, .own 20 0 O.length), (6, .d (.int .i64 n)), (7, .d (.int .i64 m)), (8, .d (.pl (CI.map (cP cI)))), (9, .d (.int .i64 i)), (10, .own 38 0 k), (11, .own 39 0 k), (12, .d (.int .i64 k))])
   (fun k => [(2, some (.box [.d (.pl (A.map (cP eQ))), .d (.pl (B1.map eQ)), .d (.pl (C1.map eQ))])), (20, some (.row 48 1 (O.map (cP eQ)))), (38, some (.row 48 1 (((M.map (·.take n)).take k).map (cP eQ)))), (39, some (.row 33 2 (((M.map fun r => fnL r n).take k).map eQ)))]) (fun k => n - k) 0 (by simp) (by simp) (by simp) ?_
  intro k hs2 t2 m2 hk hh2
  by_cases hkn : k < n
  ·have hwk := wr1 (i := k) (by omega)
   obtain ⟨j, hj⟩ : ∃ j, j = c[k]'(by omega) := ⟨_, rfl⟩
   have hjr : j < m + n := by rw [hj]; exact (hcr _ (List.getElem_mem _)).2
   have hcik : ci[k]'(by omega) = (j : Int) := by subst hci; rw [intsN_at (by omega), hj]
   have hMk : M[k]'(by omega) = AR.getD j [] := by subst hM; simp [rowsA, hj]
   obtain ⟨MA, hMA⟩ : ∃ MA, MA = M.map (·.take n) := ⟨_, rfl⟩
   obtain ⟨MB, hMB⟩ : ∃ MB, MB = M.map fun r => fnL r n := ⟨_, rfl⟩
   have hMAl : MA.length = n := by rw [hMA]; simpa using hMl
   have hMBl : MB.length = n := by rw [hMB]; simpa using hMl
   have hMAk : MA[k]'(by omega) = (AR.getD j []).take n := by subst hMA; simp [hMk]
   have hMBk : MB[k]'(by omega) = fnL (AR.getD j []) n := by subst hMB; simp [hMk]
   rw [<- hMA, <- hMB]
   have hL1 : LenOk 24 (k + 1) := ⟨by omega, by simp only [maxLen]; omega⟩
   have hL2 : LenOk 16 (k + 1) := ⟨by omega, by simp only [maxLen]; omega⟩
   have hmin : min k n = k := by omega
   refine anyQ fun Z => ?_
   by_cases hjm : j < m
   ·have hjA : j < A.length := by omega
    have hrow : AR.getD j [] = A[j] ++ [1] := by rw [hAR]; exact augR_lo hjA
    have hta := take_app (b := 1) (h.m01.len _ (List.getElem_mem hjA))
    rw [hrow, hta.1] at hMAk
    rw [hrow, hta.2] at hMBk
    have s1 : (MA.map (cP eQ)).take (k + 1) = (MA.map (cP eQ)).take k ++ [cP eQ A[j]] := by rw [List.take_succ_eq_append_getElem (by simp; omega)]; simp [hMAk]
    have s2 : (MB.map eQ).take (k + 1) = (MB.map eQ).take k ++ [eQ 1] := by rw [List.take_succ_eq_append_getElem (by simp; omega)]; simp [hMBk]
    simp [hkn, hCIl, hlt, hCIi, hcil, hcik, hjm, hjA, hB1l, hB1i j hjm, hMAl, hMBl, hmin, hL1, hL2, hwk, ]
    exact back (k + 1) (by omega) (by omega) rfl (by simp <;> omega) (by simp) (by simp [s1, s2])
   ·have hjA : A.length ≤ j := by omega
    have hrow : AR.getD j [] = unitR n (j - m) ++ [0] := by rw [hAR, hm]; exact augR_hi hjA (by omega)
    have hta := take_app (b := 0) (unitR_len (n := n) (j := j - m))
    rw [hrow, hta.1] at hMAk
    rw [hrow, hta.2] at hMBk
    have s1 : (MA.map (cP eQ)).take (k + 1) = (MA.map (cP eQ)).take k ++ [cP eQ (unitR n (j - m))] := by rw [List.take_succ_eq_append_getElem (by simp; omega)]; simp [hMAk]
    have s2 : (MB.map eQ).take (k + 1) = (MB.map eQ).take k ++ [eQ 0] := by rw [List.take_succ_eq_append_getElem (by simp; omega)]; simp [hMBk]
    simp [hkn, hCIl, hlt, hCIi, hcil, hcik, hjm, ]
    refine loop_rule (X := Nat) (fun v => v ≤ n) (fun v => [(1, .d (.int .i64 1)), (2, .ptr 2 0 0), (5, .own 20 0 O.length), (6, .d (.int .i64 n)), (7, .d (.int .i64 m)), (8, .d (.pl (CI.map (cP cI)))), (9, .d (.int .i64 i)), (10, .own 38 0 k), (11, .own 39 0 k), (12, .d (.int .i64 k)), (13, .d (.int .i64 j)), (14, .own 71 0 v), (15, .d (.int .i64 v))])
     (fun v => [(2, some (.box [.d (.pl (A.map (cP eQ))), .d (.pl (B1.map eQ)), .d (.pl (C1.map eQ))])), (20, some (.row 48 1 (O.map (cP eQ)))), (38, some (.row 48 1 ((MA.take k).map (cP eQ)))), (39, some (.row 33 2 ((MB.take k).map eQ))), (71, some (.row 33 2 ((List.replicate v (0 : _root_.Rat)).map eQ)))]) (fun v => n - v) 0 (by simp) (by simp) (by simp) ?_
    intro v hs3 t3 m3 hv hh3
    by_cases hvn : v < n
    ·have hwv := wr1 (i := v) (by omega)
     have hL3 : LenOk 16 (v + 1) := ⟨by omega, by simp only [maxLen]; omega⟩
     have s3 : (List.replicate (v + 1) (0 : _root_.Rat)).map eQ = (List.replicate v (0 : _root_.Rat)).map eQ ++ [eQ 0] := by rw [List.replicate_succ', List.map_append]; rfl
     refine anyQ fun Z => ?_
     simp [hvn, hL3, hwv, ]
     exact back (v + 1) (by omega) (by omega) rfl (by simp <;> omega) (by simp) (by simp [List.replicate_succ'])
    ·have hvn2 : v = n := by omega
     have hw4 : IntKind.i64.wrap ((j : Int) - (m : Int)) = ((j - m : Nat) : Int) := by rw [wrap64_of (by omega) (by omega)]; omega
     have hjn : j - m < n := by omega
     have htk5 : List.take n (List.map eQ (unitR n (j - m))) = List.map eQ (unitR n (j - m)) := List.take_of_length_le (by simp [unitR_len])
     have s4 : ((List.replicate n (0 : _root_.Rat)).map eQ).set (j - m) [.int .i64 1, .int .i64 1] = (unitR n (j - m)).map eQ := by
      rw [<- unit_set, <- set_map]; rfl
     obtain ⟨ZR, hZR⟩ : ∃ ZR, ZR = (List.replicate n (0 : _root_.Rat)).map eQ := ⟨_, rfl⟩
     have hZRl : ZR.length = n := by rw [hZR]; simp
     have hZRi : ZR[j - m]'(by omega) = [.int .i64 0, .int .i64 1] := by subst hZR; simp
     rw [hvn2, <- hZR]
     rw [<- hZR] at s4
     simp [hw4, hjn, hZRl, hZRi, s4, hMAl, hMBl, hmin, hL1, hL2, hwk, ]
     exact back (k + 1) (by omega) (by omega) rfl (by simp <;> omega) (by simp) (by simp [s1, s2, htk5])
  ·have hkn2 : k = n := by omega
   have hsol := w_spec_SolveLinearSystem n M hn1 hn4 hMl hMr hM01
   rw [hkn2, List.take_of_length_le (by simp; omega), List.take_of_length_le (by simp; omega)]
   obtain ⟨MA, hMA⟩ : ∃ MA, MA = M.map (·.take n) := ⟨_, rfl⟩
   obtain ⟨MB, hMB⟩ : ∃ MB, MB = M.map fun r => fnL r n := ⟨_, rfl⟩
   have hMAl : MA.length = n := by rw [hMA]; simpa using hMl
   have hMBl : MB.length = n := by rw [hMB]; simpa using hMl
   rw [<- hMA, <- hMB] at hsol ⊢
   simp []
   refine call_p hsol (by simp [hMAl, hMBl, List.take_of_length_le]) fun hs4 hh4 _ => ?_
   try simp at hh4
   cases hx : solQ n M with
   | none =>
     rw [ptStep_none hx] at hOsi
     simp [solV, hx, hwi, ]
     exact back (i + 1) (by omega) (by omega) rfl (by simp <;> omega) (by simp [hOsi]) (by simp [hOsi])
   | some x =>
     have hSB := sol_bd hn4 hMl hMr (bd_01 hMl hM01) hx
     have hside := w_spec_l14Side A n x h hSB
     rw [<- hm, <- hB1, <- hC1] at hside
     simp [solV, hx, ]
     refine call_f hside (by simp) rfl fun hs5 hh5 => ?_
     try simp at hh5
     cases hf : feasQ A x
     ·rw [ptStep_no hx hf] at hOsi
      simp [hwi, ]
      exact back (i + 1) (by omega) (by omega) rfl (by simp <;> omega) (by simp [hOsi]) (by simp [hOsi])
     rw [ptStep_some hx hf] at hOsi
     simp []
     refine loop_rule (X := Nat) (fun k => k ≤ O.length) (fun k => [(1, .d (.int .i64 1)), (2, .ptr 2 0 0), (5, .own 20 0 O.length), (6, .d (.int .i64 n)), (7, .d (.int .i64 m)), (8, .d (.pl (CI.map (cP cI)))), (9, .d (.int .i64 i)), (16, .d (.pl (x.map eQ))), (18, .d (.bool (decide (x ∈ O.take k)))), (19, .d (.int .i64 k))])
      (fun k => [(2, some (.box [.d (.pl (A.map (cP eQ))), .d (.pl (B1.map eQ)), .d (.pl (C1.map eQ))])), (20, some (.row 48 1 (O.map (cP eQ))))]) (fun k => O.length - k) 0 (by simp) (by simp) (by simp) ?_
     intro k hs6 t6 m6 hk6 hh6
     by_cases hkO : k < O.length
     ·have hwk := wr1 (i := k) (by omega)
      have hin : (x ∈ O.take (k + 1)) ↔ (x ∈ O.take k ∨ O[k] = x) := by
       rw [List.take_succ_eq_append_getElem hkO, List.mem_append, List.mem_singleton, eq_comm (a := x)]
      refine anyQ fun Z => ?_
      by_cases hin2 : x ∈ O.take k
      ·have hin3 : x ∈ O.take (k + 1) := hin.2 (.inl hin2)
       simp [hkO, hin2, hwk, ]
       exact back (k + 1) (by omega) (by omega) rfl (by simp <;> omega) (by simp [hin3]) (by simp)
      ·simp [hkO, hin2, ]
       refine call_f (w_spec_EqualRationals O[k] x) (by simp) rfl fun hs7 hh7 => ?_
       try simp at hh7
       have hin4 : decide (x ∈ O.take (k + 1)) = decide (O[k] = x) := by rw [decide_eq_decide, hin]; simp [hin2]
       simp [hwk, ]
       exact back (k + 1) (by omega) (by omega) rfl (by simp <;> omega) (by simp only [hin4]; simp) (by simp)
     ·have hkO2 : k = O.length := by omega
      subst hkO2
      rw [List.take_of_length_le (Nat.le_refl _)]
      by_cases hxO : x ∈ O
      ·have ha : addPt O x = O := by simp [addPt, hxO]
       rw [ha] at hOsi
       simp [hxO, hwi, ]
       exact back (i + 1) (by omega) (by omega) rfl (by simp <;> omega) (by simp [hOsi]) (by simp [hOsi])
      ·have ha : addPt O x = O ++ [x] := by simp [addPt, hxO]
       rw [ha] at hOsi
       have hL4 : LenOk 24 (O.length + 1) := ⟨by omega, by simp only [maxLen]; omega⟩
       simp [hxO, hwi, hL4, ]
       exact back (i + 1) (by omega) (by omega) rfl (by simp <;> omega) (by simp [hOsi]) (by simp [hOsi])
 ·have hin : i = CB.length := by omega
  subst hin
  rw [hOe]
  simp [hCIl, List.take_of_length_le]
end
end Go.Proofs.YtaoaoijchijlcaaGreatDoor
namespace Go.Proofs.YtaoaoijchijlcaaGreatDoor
open Go.Vs Go.Proofs Go
set_option maxRecDepth 100000
set_option maxHeartbeats 1000000
section
attribute [local simp] pS cP eQ_def cI
theorem e_impl_copyIntsO (l : List Int) (hb : l.length <= 4294967296) :
  VC Tryz.prog 68 [.d (.pl (l.map cI))] (fun n r => ∃ g : Option Nat, r = .d (.sl g (some (3, 1)) (l.map cI)) /\ (∀ k, g = some k -> n <= k) /\ (g = none -> l = [])) := by
 refine VC.of E s68 (by kernel_rfl) Tryz.func68 (by rfl) (by kernel_rfl) (by simp [Tryz.f68]) (by simp [Tryz.f68]) s68_ok fun B => ?_
 have hL : LenOk 8 l.length := ⟨by omega, by simp only [maxLen]; omega⟩
 have hp : hpLL (l.map cI) = false := hpLL_mapI l
 simp [-cI, Tryz.f68, hL, hp, List.take_of_length_le]
 refine ⟨fun a _ => rfl, ?_⟩
 intro γ hs' h1 hg
 obtain ⟨q1, q2⟩ := gam_at hg (k := 3) (T := 3) (sz := 1) (es := l.map cI) (by simp)
 clear hg
 refine ⟨fun k hk => (q1 k hk).1, fun h => ?_⟩
 exact Classical.byContradiction fun hl => q2 (by simpa using hl) h
theorem startK9 (a b c1 c2 c3 c4 c5 c6 c7 : V) (T sz f : Nat) (es : List (List D)) (B : Nat) : St.startK [a, b] [c1, c2, c3, c4, c5, c6, c7] T sz f es B =
  ⟨B, B, [], upd (upd (upd (upd (upd (upd (upd (upd (upd (fun _ => .tup []) 8 c7) 7 c6) 6 c5) 5 c4) 4 c3) 3 c2) 2 c1) 1 b) 0 a,
   upd (upd (upd (fun _ => none) 1003 (some (.box [.fn f [c1, c2, c3, c4, c5, c6, c7]]))) 1002 (some (.row T sz es))) 1001 (some (.box [.own 1002 0 es.length]))⟩ := by
 simp only [St.startK, St.mk.injEq, true_and]
 constructor
 ·funext i; match i with | 0 => rfl | 1 => rfl | 2 => rfl | 3 => rfl | 4 => rfl | 5 => rfl | 6 => rfl | 7 => rfl | 8 => rfl | _ + 9 => rfl
 ·funext i; simp only [mK, upd]; repeat' split
def capsV (n : Nat) (rows right : List (List D)) (bx : List D) : List V :=
 [.fptr (.pl [[.int .i64 n]]) 0 0, .fptr (.pl [[.pl rows]]) 0 0, .ptr 1003 0 0, .fptr (.pl [[.pl right]]) 0 0, .fptr (.pl [bx]) 0 0, .fptr (.pl [[.int .i64 1]]) 0 0, .ptr 1001 0 0]
theorem caps_wipe (n : Nat) (rows right : List (List D)) (bx : List D) (k : Nat) (h1 : ¬ k = 1001) (h3 : ¬ k = 1003) : wipeL k (capsV n rows right bx) = capsV n rows right bx := by
 simp [capsV, wipeL, wipe, Ne.symm h1, Ne.symm h3]
theorem caps_frp (n : Nat) (rows right : List (List D)) (bx : List D) (k : Nat) (es : List (List D)) (h1 : ¬ k = 1001) (h3 : ¬ k = 1003) : frpL k es (capsV n rows right bx) = capsV n rows right bx := by
 simp [capsV, frpL, frp, Ne.symm h1, Ne.symm h3]
theorem k_choose (A : List (List _root_.Rat)) (n : Nat) (h : LPok A n) (rows right : List (List D)) (bx : List D) (hrows : rows = ((augR A n).map (·.take n)).map (cP eQ)) (hright : right = ((augR A n).map fun r => fnL r n).map eQ)
   (hbx : bx = [.pl (A.map (cP eQ)), .pl ((List.replicate A.length (1 : _root_.Rat)).map eQ), .pl ((List.replicate n (1 : _root_.Rat)).map eQ)]) :
  ∀ (d : Nat) (c : List Nat) (a : Nat) (out : List (List _root_.Rat)), n - c.length = d -> c.length <= n -> a <= A.length + n -> (∀ x ∈ c, x < A.length + n) -> out.length + cntC A n c a <= 1000 ->
   VK Tryz.prog 118 [.d (.int .i64 a), .d (pS cI (intsN c))] (capsV n rows right bx) 48 1 (out.map (cP eQ)) (fun es' => es' = (foldC A n c a out).map (cP eQ)) := by
 have hn1 := h.n1
 have hn4 := h.n4
 have hm1 := h.m1
 have hm5 := h.m5
 obtain ⟨AR, hAR⟩ : ∃ AR, AR = augR A n := ⟨_, rfl⟩
 have hARl : AR.length = A.length + n := by rw [hAR, augR_len]
 have hARr : ∀ r ∈ AR, r.length = n + 1 := by rw [hAR]; exact aug_len h.m01
 have hAR01 : ∀ r ∈ AR, ∀ q ∈ r, q = 0 \/ q = 1 := by rw [hAR]; exact aug_01 h.m01
 obtain ⟨B1, hB1⟩ : ∃ B1, B1 = List.replicate A.length (1 : _root_.Rat) := ⟨_, rfl⟩
 obtain ⟨C1, hC1⟩ : ∃ C1, C1 = List.replicate n (1 : _root_.Rat) := ⟨_, rfl⟩
 rw [<- hAR] at hrows hright
 rw [<- hB1, <- hC1] at hbx
 have hrl : rows.length = A.length + n := by rw [hrows]; simp [hARl]
 have hgl : right.length = A.length + n := by rw [hright]; simp [hARl]
 intro d
 induction d with
 | zero =>
   intro c a out hd hcn ha hcr hbd
   have hcl : c.length = n := by omega
   rw [foldC_full hcl, <- hAR]
   rw [cntC_full hcl] at hbd
   obtain ⟨M, hM⟩ : ∃ M, M = rowsA AR c := ⟨_, rfl⟩
   have hMl : M.length = n := by rw [hM, rowsA_len, hcl]
   have hMm : ∀ r ∈ M, r ∈ AR := fun r hr => by rw [hM] at hr; exact rowsA_mem (fun x hx => by have := hcr x hx; omega) hr
   have hMr : ∀ r ∈ M, r.length = n + 1 := fun r hr => hARr r (hMm r hr)
   have hM01 : ∀ r ∈ M, ∀ q ∈ r, q = 0 \/ q = 1 := fun r hr => hAR01 r (hMm r hr)
   rw [<- hM]
   obtain ⟨ci, hci⟩ : ∃ ci, ci = intsN c := ⟨_, rfl⟩
   have hcil : ci.length = n := by rw [hci]; simpa using hcl
   rw [<- hci]
   obtain ⟨caps, hcaps⟩ : ∃ caps, caps = capsV n rows right bx := ⟨_, rfl⟩
   have hcw := caps_wipe n rows right bx
   have hcf := caps_frp n rows right bx
   rw [<- hcaps] at hcw hcf
   refine VK.of EP s118 (by kernel_rfl) Tryz.func118 (by rfl) (by kernel_rfl) (by simp [Tryz.f118, capsV]) (by simp [Tryz.f118]) s118_ok (by rfl) fun B => ?_
   rw [capsV, startK9, <- capsV, <- hcaps]
   simp [Tryz.f118, s118_4, s118_4, hcil]
   have hout : ptStep A n out M = ptStep A n out M := rfl
   refine loop_ruleL (X := Nat) (fun k _ => k ≤ n) (fun k => [(3, .fptr (.pl [[.pl rows]]) 0 0), (5, .fptr (.pl [[.pl right]]) 0 0), (6, .fptr (.pl [bx]) 0 0), (7, .fptr (.pl [[.int .i64 1]]) 0 0), (8, .ptr 1001 0 0), (12, .own 900 0 k), (13, .own 901 0 k), (40, .d (.pl (ci.map cI))), (41, .d (.int .i64 n)), (42, .d (.int .i64 k))])
    (fun k => [(1001, some (.box [.own 1002 0 out.length])), (1002, some (.row 48 1 (out.map (cP eQ)))), (1003, some (.box [.fn 118 caps])), (900, some (.row 48 1 (((M.map (·.take n)).take k).map (cP eQ)))), (901, some (.row 33 2 (((M.map fun r => fnL r n).take k).map eQ)))]) (fun k => n - k) ?_ ?_
   ·refine (lead_slot 12 900 48 1 (by omega) (by omega) (by simp)).bind ?_
    rintro _ rfl
    refine (lead_slot 13 901 33 2 (by omega) (by omega) (by simp)).bind ?_
    rintro _ rfl
    exact Lead.of ⟨0, by omega, rfl, rfl, Nat.le_refl _, by simp, by simp [hcaps, capsV]⟩
   intro k hs1 t1 m1 hk hh1
   by_cases hkn : k < n
   ·have hwk := wr1 (i := k) (by omega)
    obtain ⟨j, hj⟩ : ∃ j, j = c[k]'(by omega) := ⟨_, rfl⟩
    have hjr : j < A.length + n := by rw [hj]; exact hcr _ (List.getElem_mem _)
    have hcik : ci[k]'(by omega) = (j : Int) := by subst hci; rw [intsN_at (by omega), hj]
    have hMk : M[k]'(by omega) = AR[j]'(by omega) := by subst hM; simp [rowsA, <- hj, List.getD, show j < AR.length by omega]
    obtain ⟨MA, hMA⟩ : ∃ MA, MA = M.map (·.take n) := ⟨_, rfl⟩
    obtain ⟨MB, hMB⟩ : ∃ MB, MB = M.map fun r => fnL r n := ⟨_, rfl⟩
    have hMAl : MA.length = n := by rw [hMA]; simpa using hMl
    have hMBl : MB.length = n := by rw [hMB]; simpa using hMl
    have hrj : rows[j]'(by omega) = cP eQ (MA[k]'(by omega)) := by subst hMA; simp [hrows, hMk]
    have hgj : right[j]'(by omega) = eQ (MB[k]'(by omega)) := by subst hMB; simp [hright, hMk]
    rw [<- hMA, <- hMB]
    have hL1 : LenOk 24 (k + 1) := ⟨by omega, by simp only [maxLen]; omega⟩
    have hL2 : LenOk 16 (k + 1) := ⟨by omega, by simp only [maxLen]; omega⟩
    have hmin : min k n = k := by omega
    have s1 : (MA.map (cP eQ)).take (k + 1) = (MA.map (cP eQ)).take k ++ [cP eQ (MA[k]'(by omega))] := by rw [List.take_succ_eq_append_getElem (by simp; omega)]; simp
    have s2 : (MB.map eQ).take (k + 1) = (MB.map eQ).take k ++ [eQ (MB[k]'(by omega))] := by rw [List.take_succ_eq_append_getElem (by simp; omega)]; simp
    refine anyQ2 fun Z => ?_
    simp [hkn, hcil, hcik, hrl, hgl, hjr, hrj, hgj, hMAl, hMBl, hmin, hL1, hL2, hwk, s118_4, ]
    exact back2 (k + 1) (by omega) (by omega) rfl (by simp <;> omega) (by simp) (by simp [s1, s2, hcw, hcf])
   have hkn2 : k = n := by omega
   have hsol := w_impl_SolveLinearSystem n M hn1 hn4 hMl hMr hM01
   rw [hkn2, List.take_of_length_le (by simp; omega), List.take_of_length_le (by simp; omega)]
   obtain ⟨MA, hMA⟩ : ∃ MA, MA = M.map (·.take n) := ⟨_, rfl⟩
   obtain ⟨MB, hMB⟩ : ∃ MB, MB = M.map fun r => fnL r n := ⟨_, rfl⟩
   have hMAl : MA.length = n := by rw [hMA]; simpa using hMl
   have hMBl : MB.length = n := by rw [hMB]; simpa using hMl
   rw [<- hMA, <- hMB] at hsol ⊢
   simp [s118_4, ]
   refine call_p hsol (by simp [hMAl, hMBl, List.take_of_length_le]) fun hs4 hh4 _ => ?_
   try simp at hh4
   cases hx : solQ n M with
   | none =>
     rw [ptStep_none hx]
     simp [solV, hx, vretK, vendK, hcw, hcf, <- hcaps, s118_4, ]
   | some x =>
     have hSB := sol_bd hn4 hMl hMr (bd_01 hMl hM01) hx
     have hside := w_impl_feasible A n x h hSB
     rw [<- hB1, <- hC1] at hside
     simp [solV, hx, hbx, s118_4, ]
     refine call_f hside (by simp) rfl fun hs5 hh5 => ?_
     try simp at hh5
     cases hf : feasQ A x
     ·rw [ptStep_no hx hf]
      simp [vretK, vendK, hcw, hcf, <- hcaps, s118_4, ]
     rw [ptStep_some hx hf]
     simp [s118_4, ]
     refine loop_rule (X := Nat) (fun k => k ≤ out.length ∧ x ∉ out.take k) (fun k => [(8, .ptr 1001 0 0), (16, .d (.pl (x.map eQ))), (76, .own 1002 0 out.length), (77, .d (.int .i64 out.length)), (78, .d (.int .i64 k))])
      (fun _ => [(1001, some (.box [.own 1002 0 out.length])), (1002, some (.row 48 1 (out.map (cP eQ)))), (1003, some (.box [.fn 118 caps]))]) (fun k => out.length - k) 0 (by simp) (by simp) (by simp [hcw, hcf]) ?_
     intro k hs6 t6 m6 hk6 hh6
     by_cases hkO : k < out.length
     ·have hwk := wr1 (i := k) (by omega)
      simp [hkO, s118_4, ]
      refine call_f (w_impl_EqualRationals x out[k]) (by simp) rfl fun hs7 hh7 => ?_
      try simp at hh7
      by_cases he : x = out[k]
      ·have ha : addPt out x = out := by simp [addPt, he]
       rw [ha]
       simp [he, vretK, vendK, hcw, hcf, <- hcaps, s118_4, ]
      ·simp [he, hwk, s118_4, ]
       refine back (k + 1) ⟨by omega, ?_⟩ (by omega) rfl (by simp <;> omega) (by simp) (by simp)
       rw [List.take_succ_eq_append_getElem hkO, List.mem_append, List.mem_singleton]
       exact fun hor => hor.elim hk6.2 he
     ·have hkO2 : k = out.length := by omega
      subst hkO2
      have hxO : x ∉ out := by have := hk6.2; rwa [List.take_of_length_le (Nat.le_refl _)] at this
      have ha : addPt out x = out ++ [x] := by simp [addPt, hxO]
      have hL4 : LenOk 24 (out.length + 1) := ⟨by omega, by simp only [maxLen]; omega⟩
      rw [ha]
      simp [hL4, vretK, vendK, hcw, hcf, <- hcaps, s118_4, ]
 | succ d ih =>
   intro c a out hd hcn ha hcr hbd
   have hcl : c.length < n := by omega
   obtain ⟨ci, hci⟩ : ∃ ci, ci = intsN c := ⟨_, rfl⟩
   have hcil : ci.length = c.length := by rw [hci]; simp
   rw [<- hci]
   obtain ⟨caps, hcaps⟩ : ∃ caps, caps = capsV n rows right bx := ⟨_, rfl⟩
   have hcw := caps_wipe n rows right bx
   have hcf := caps_frp n rows right bx
   rw [<- hcaps] at hcw hcf ih
   obtain ⟨FO, hFO⟩ : ∃ FO, FO = foldC A n c a out := ⟨_, rfl⟩
   rw [<- hFO]
   have hall : caps.all capOk = true := by rw [hcaps]; rfl
   have hren : caps.map (renK 1001 1003) = caps := by rw [hcaps]; rfl
   refine VK.of EP s118 (by kernel_rfl) Tryz.func118 (by rfl) (by kernel_rfl) (by simp [Tryz.f118, capsV]) (by simp [Tryz.f118]) s118_ok (by rfl) fun B => ?_
   rw [capsV, startK9, <- capsV, <- hcaps]
   simp [Tryz.f118, s118_4, s118_4, hcil, hcl]
   refine loop_rule (X := Nat × List (List _root_.Rat)) (fun x => a ≤ x.1 ∧ x.1 ≤ A.length + n ∧ foldC A n c x.1 x.2 = FO ∧ x.2.length + cntC A n c x.1 ≤ 1000) (fun x => [(1, .d (.pl (ci.map cI))), (3, .fptr (.pl [[.pl rows]]) 0 0), (4, .ptr 1003 0 0), (11, .d (.int .i64 x.1))])
    (fun x => [(1001, some (.box [.own 1002 0 x.2.length])), (1002, some (.row 48 1 (x.2.map (cP eQ)))), (1003, some (.box [.fn 118 caps]))]) (fun x => A.length + n - x.1) (a, out) ⟨by simp, ha, hFO.symm, hbd⟩ (by simp) (by simp) ?_
   rintro ⟨k, O⟩ hs1 t1 m1 ⟨h1, h2, h3, h4⟩ hh1
   simp only at h1 h2 h3 h4
   by_cases hlt : k < A.length + n
   ·have hwk := wr1 (i := k) (by omega)
    have hstep := foldC_step (out := O) hcl hlt
    have hcnt := cntC_step hcl hlt
    have hflen := foldC_len (A := A) (n := n) (c := c ++ [k]) (a := k + 1) (out := O)
    have hih := ih (c ++ [k]) (k + 1) O (by simp; omega) (by simp; omega) (by omega) (fun x hx => by
     rcases List.mem_append.1 hx with hx | hx
     ·exact hcr x hx
     ·rw [List.mem_singleton.1 hx]; exact hlt) (by omega)
    have hci2 : intsN (c ++ [k]) = ci ++ [(k : Int)] := by rw [hci]; simp [intsN]
    rw [hci2] at hih
    have hL1 : LenOk 8 (ci.length + 1) := ⟨by omega, by simp only [maxLen]; omega⟩
    have htk : List.take (ci.length + 1) (ci.map cI ++ [[D.int IntKind.i64 (k : Int)]]) = ci.map cI ++ [[D.int IntKind.i64 (k : Int)]] := List.take_of_length_le (by simp)
    refine anyQ fun Z => ?_
    simp [hrl, show (k : Int) < (A.length : Int) + (n : Int) by omega, hwk, s118_4, ]
    have fin : ∀ (es' : List (List D)), es' = (foldC A n (c ++ [k]) (k + 1) O).map (cP eQ) -> es'.length = (foldC A n (c ++ [k]) (k + 1) O).length := fun es' e => by rw [e]; simp
    refine ⟨?_, ?_⟩
    all_goals
     refine call_oe (e_impl_copyIntsO ci (by omega)) (by simp) fun r2 n2 hs3 hn2 hm2 hp2 => ?_
     obtain ⟨g, rfl, hg1, hg2⟩ := hp2
     try simp at hn2
     cases g with
     | some g =>
       refine .inl ⟨g, 3, 1, ci.map cI, rfl, hg1 g rfl, by simp, ?_⟩
       simp [hL1, hwk, hcw, hcf, s118_4, ]
       refine vdyn_lead ((lead_frp 35 (T := 3) (sz := 1) (es := ci.map cI ++ [[D.int .i64 k]]) (by simp)).mono ?_)
       rintro _ rfl
       refine vdynK (f := 118) (ko := 1001) (kr := 1002) (kc := 1003) (T := 48) (sz := 1) (es := O.map (cP eQ)) (caps := caps) (by simp) (by simp) (by simp [hren, hcw, hcf]) (by simp [Hk]) (by simp [hren, hcw, hcf]) hall (by simp) (by simpa [htk] using hih) fun es' hs5 g1 g2 g3 g4 g5 => ?_
       have ge := fin es' g2
       subst g2
       try simp at g1
       simp [St.kst, hwk, hcw, hcf, s118_4, ]
       refine back (k + 1, foldC A n (c ++ [k]) (k + 1) O) ⟨by simp only; omega, by simp only; omega, by simp only; rw [<- hstep]; exact h3, by simp only; omega⟩ (by simp only; omega) rfl (by simp <;> omega) (by simp) (by simp)
     | none =>
       have hc0 := hg2 rfl
       refine .inr ?_
       have hL2 : LenOk 8 1 := ⟨by omega, by simp only [maxLen]; omega⟩
       simp [hc0, hL2, hwk, hcw, hcf, s118_4, ]
       rw [hc0] at hih
       refine vdyn_lead ((lead_frp 38 (T := 3) (sz := 1) (es := [[D.int .i64 k]]) (by simp)).mono ?_)
       rintro _ rfl
       refine vdynK (f := 118) (ko := 1001) (kr := 1002) (kc := 1003) (T := 48) (sz := 1) (es := O.map (cP eQ)) (caps := caps) (by simp) (by simp) (by simp [hren, hcw, hcf]) (by simp [Hk]) (by simp [hren, hcw, hcf]) hall (by simp) (by simpa using hih) fun es' hs5 g1 g2 g3 g4 g5 => ?_
       have ge := fin es' g2
       subst g2
       try simp at g1
       simp [St.kst, hwk, hcw, hcf, s118_4, ]
       refine back (k + 1, foldC A n (c ++ [k]) (k + 1) O) ⟨by simp only; omega, by simp only; omega, by simp only; rw [<- hstep]; exact h3, by simp only; omega⟩ (by simp only; omega) rfl (by simp <;> omega) (by simp) (by simp)
   ·have hkn : k = A.length + n := by omega
    rw [foldC_end hcl (by omega)] at h3
    subst h3
    simp [hrl, show ¬ (k : Int) < (A.length : Int) + (n : Int) by omega, vretK, vendK, hcw, hcf, s118_4, ]
end
end Go.Proofs.YtaoaoijchijlcaaGreatDoor
namespace Go.Proofs.YtaoaoijchijlcaaGreatDoor
open Go.Vs Go.Proofs Go
set_option maxRecDepth 100000
set_option maxHeartbeats 1000000
section
attribute [local simp] pS cP eQ_def cI
theorem aug_take {A : List (List _root_.Rat)} {n : Nat} (h : ∀ r ∈ A, r.length = n) : (augR A n).map (·.take n) = A ++ (List.range n).map (unitR n) := by
 simp only [augR, List.map_append, List.map_map]
 congr 1
 ·conv => rhs; rw [← List.map_id A]
  apply List.map_congr_left
  intro r hr
  simp only [Function.comp, id]
  exact (take_app (h r hr)).1
 ·apply List.map_congr_left
  intro j _
  simp only [Function.comp]
  exact (take_app unitR_len).1
theorem aug_last {A : List (List _root_.Rat)} {n : Nat} (h : ∀ r ∈ A, r.length = n) : (augR A n).map (fun r => fnL r n) = List.replicate A.length 1 ++ List.replicate n 0 := by
 simp only [augR, List.map_append, List.map_map]
 congr 1
 ·rw [List.eq_replicate_iff]
  refine ⟨by simp, fun q hq => ?_⟩
  obtain ⟨r, hr, rfl⟩ := List.mem_map.1 hq
  exact (take_app (h r hr)).2
 ·rw [List.eq_replicate_iff]
  refine ⟨by simp, fun q hq => ?_⟩
  obtain ⟨j, _, rfl⟩ := List.mem_map.1 hq
  exact (take_app unitR_len).2
theorem unit_take {n i k : Nat} (h : k < n) : (unitR n i).take (k + 1) = (unitR n i).take k ++ [if k = i then 1 else 0] := by
 rw [List.take_succ_eq_append_getElem (by simpa [unitR] using h)]
 simp [unitR]
theorem VK.nil2 {P : Program} {f : FuncId} {a : V} {caps : List V} {T sz : Nat} {es : List (List D)} {post : List (List D) -> Prop} (h : VK P f [a, .d (.pl [])] caps T sz es post) : VK P f [a, .d (.sl none none [])] caps T sz es post := by
 refine ⟨h.1, fun w vals go gc ro A hg hin hLR => h.2 w vals go gc ro A hg hin ?_⟩
 match vals, hLR with
 | v1 :: v2 :: r, hLR =>
   simp only [List.cons_append, LR] at hLR ⊢
   obtain ⟨h1, h2, h3⟩ := hLR
   refine ⟨h1, ?_, h3⟩
   simp only [VR] at h2 ⊢
   exact h2.er
theorem w_impl_vertices (A : List (List _root_.Rat)) (n : Nat) (h : LPok A n) :
  VC Tryz.prog 109 [.agg [.d (pS (cP eQ) A), .d (pS eQ (List.replicate A.length 1)), .d (pS eQ (List.replicate n 1))], .d (.int .i64 1)] (fun _ r => r = .d (pS (cP eQ) (ptsQ A n))) := by
 have hn1 := h.n1
 have hn4 := h.n4
 have hm1 := h.m1
 have hm5 := h.m5
 have hrows := aug_take h.m01.len
 have hright := aug_last h.m01.len
 have hkc := k_choose A n h (((augR A n).map (·.take n)).map (cP eQ)) (((augR A n).map fun r => fnL r n).map eQ) [.pl (A.map (cP eQ)), .pl ((List.replicate A.length (1 : _root_.Rat)).map eQ), .pl ((List.replicate n (1 : _root_.Rat)).map eQ)] rfl rfl rfl n [] 0 [] (by simp) (by simp) (by omega) (by simp) (by have := cntC_all (A := A) (n := n) (by omega); simp; omega)
 rw [foldC_all, hrows, hright] at hkc
 obtain ⟨B1, hB1⟩ : ∃ B1, B1 = List.replicate A.length (1 : _root_.Rat) := ⟨_, rfl⟩
 obtain ⟨C1, hC1⟩ : ∃ C1, C1 = List.replicate n (1 : _root_.Rat) := ⟨_, rfl⟩
 have hB1l : B1.length = A.length := by rw [hB1]; simp
 have hC1l : C1.length = n := by rw [hC1]; simp
 have hB1n : B1 ≠ [] := fun e => by rw [e] at hB1l; simp at hB1l; omega
 have hL0 : LenOk 24 A.length := ⟨by omega, by simp only [maxLen]; omega⟩
 have hA1 : ∀ l ∈ A.map (cP eQ), l.length = 1 := fun l hl => by obtain ⟨q, _, rfl⟩ := List.mem_map.1 hl; rfl
 rw [<- hB1, <- hC1] at hkc ⊢
 refine VC.ofL EP s109 (by kernel_rfl) Tryz.func109 (by rfl) (by kernel_rfl) (by simp [Tryz.f109]) (by simp [Tryz.f109]) s109_ok fun B hl => ?_
 clear hl
 simp [Tryz.f109, hL0, hC1l]
 refine call_o (e_impl_copyRationals1 B1 (by omega) hB1n) (by simp) fun r2 n2 hs3 hn2 hm2 hp2 => ?_
 obtain ⟨g2, rfl, hg2⟩ := hp2
 refine ⟨33, 2, B1.map eQ, by omega, .inr ⟨g2, rfl, hg2, by simp⟩, ?_⟩
 try simp at hn2
 simp [hB1l]
 refine loop_rule (X := Nat) (fun i => i ≤ n) (fun i => [(5, .ptr 5 0 0), (6, .ptr 6 0 0), (7, .ptr 7 0 0), (2, .ptr 2 0 0), (3, .ptr 3 0 0), (8, .d (.int .i64 i))])
  (fun i => [(2, some (.box [.d (.pl (A.map (cP eQ))), .d (.pl (B1.map eQ)), .d (.pl (C1.map eQ))])), (3, some (.box [.d (.int .i64 1)])), (5, some (.box [.d (.int .i64 n)])), (6, some (.box [.own 16 0 (A.length + i)])), (7, some (.box [.own 22 0 (A.length + i)])), (16, some (.row 48 1 ((A ++ (List.range i).map (unitR n)).map (cP eQ)))), (22, some (.row 33 2 ((B1 ++ List.replicate i 0).map eQ)))]) (fun i => n - i) 0 (by simp) (by simp) (by simp) ?_
 intro i hs1 t1 m1 hi hh1
 by_cases hlt : i < n
 ·have hwi := wr1 (i := i) (by omega)
  have hL1 : LenOk 24 (A.length + i + 1) := ⟨by omega, by simp only [maxLen]; omega⟩
  have hL2 : LenOk 16 (A.length + i + 1) := ⟨by omega, by simp only [maxLen]; omega⟩
  obtain ⟨RA, hRA⟩ : ∃ RA, RA = (A ++ (List.range i).map (unitR n)).map (cP eQ) := ⟨_, rfl⟩
  obtain ⟨RB, hRB⟩ : ∃ RB, RB = (B1 ++ List.replicate i 0).map eQ := ⟨_, rfl⟩
  have hRAl : RA.length = A.length + i := by rw [hRA]; simp
  have hRBl : RB.length = A.length + i := by rw [hRB]; simp [hB1l]
  have s1 : (A ++ (List.range (i + 1)).map (unitR n)).map (cP eQ) = RA ++ [cP eQ (unitR n i)] := by rw [hRA, List.range_succ]; simp
  have s2 : (B1 ++ List.replicate (i + 1) 0).map eQ = RB ++ [eQ 0] := by rw [hRB, List.replicate_succ']; simp
  rw [<- hRA, <- hRB]
  refine anyQ fun Z => ?_
  simp [hlt, ]
  refine loop_rule (X := Nat) (fun k => k ≤ n) (fun k => [(5, .ptr 5 0 0), (6, .ptr 6 0 0), (7, .ptr 7 0 0), (2, .ptr 2 0 0), (3, .ptr 3 0 0), (8, .d (.int .i64 i)), (9, .own 28 0 k), (10, .d (.int .i64 k))])
   (fun k => [(2, some (.box [.d (.pl (A.map (cP eQ))), .d (.pl (B1.map eQ)), .d (.pl (C1.map eQ))])), (3, some (.box [.d (.int .i64 1)])), (5, some (.box [.d (.int .i64 n)])), (6, some (.box [.own 16 0 (A.length + i)])), (7, some (.box [.own 22 0 (A.length + i)])), (16, some (.row 48 1 RA)), (22, some (.row 33 2 RB)), (28, some (.row 33 2 (((unitR n i).take k).map eQ)))]) (fun k => n - k) 0 (by simp) (by simp) (by simp) ?_
  intro k hs2 t2 m2 hk hh2
  by_cases hkn : k < n
  ·have hwk := wr1 (i := k) (by omega)
   have hL3 : LenOk 16 (k + 1) := ⟨by omega, by simp only [maxLen]; omega⟩
   have s3 := unit_take (i := i) hkn
   have s4 : eQ (if k = i then 1 else 0) = [.int .i64 (if i = k then 1 else 0), .int .i64 1] := by
    by_cases e : k = i
    ·subst e; rw [if_pos rfl, if_pos rfl]; rfl
    ·rw [if_neg e, if_neg (Ne.symm e)]; rfl
   obtain ⟨U, hU⟩ : ∃ U, U = ((unitR n i).take k).map eQ := ⟨_, rfl⟩
   have hUl : U.length = k := by rw [hU]; simp [unitR]; omega
   have s5 : ((unitR n i).take (k + 1)).map eQ = U ++ [[.int .i64 (if i = k then 1 else 0), .int .i64 1]] := by rw [s3, hU, List.map_append, List.map_cons, List.map_nil, s4]
   have hbit := w_impl_bit (decide (i = k))
   rw [List.map_take] at s5
   rw [<- hU]
   refine anyQ fun Z => ?_
   simp [hkn, ]
   refine call_f hbit (by simp) rfl fun hs3 hh3 => ?_
   try simp at hh3
   simp [hUl, hL3, hwk, ]
   refine back (k + 1) (by omega) (by omega) rfl (by simp <;> omega) (by simp) (by simp [s5])
  ·have hkn2 : k = n := by omega
   subst hkn2
   have hut : (unitR k i).take k = unitR k i := List.take_of_length_le (by rw [unitR_len]; omega)
   have hul : List.take k ((unitR k i).map eQ) = (unitR k i).map eQ := List.take_of_length_le (by simp [unitR_len])
   simp only [List.map_append, List.map_map] at s1
   simp at s2
   rw [hut]
   simp [hRAl, hRBl, hL1, hL2, hwi, ]
   refine back (i + 1) (by omega) (by omega) rfl (by simp <;> omega) (by simp) (by simp [s1, s2, hul, Nat.add_assoc])
 ·have hin : i = n := by omega
  subst hin
  obtain ⟨RA, hRA⟩ : ∃ RA, RA = (A ++ (List.range i).map (unitR i)).map (cP eQ) := ⟨_, rfl⟩
  obtain ⟨RB, hRB⟩ : ∃ RB, RB = (B1 ++ List.replicate i 0).map eQ := ⟨_, rfl⟩
  have hRAl : RA.length = A.length + i := by rw [hRA]; simp
  have hRBl : RB.length = A.length + i := by rw [hRB]; simp [hB1l]
  rw [<- hRA, <- hRB] at hkc ⊢
  simp []
  have hkc2 := VK.nil2 (a := .d (.int .i64 0)) (f := 118) (by simpa [intsN] using hkc)
  refine vdyn_lead ?_
  refine (lead_frp 16 (T := 48) (sz := 1) (es := RA) (by simp)).bind ?_
  rintro _ rfl
  refine (lead_frp 22 (T := 33) (sz := 2) (es := RB) (by simp)).bind ?_
  rintro _ rfl
  refine lead_fbx (k := 2) (ds := [.pl (A.map (cP eQ)), .pl (B1.map eQ), .pl (C1.map eQ)]) (by simp) (by omega) ?_
  refine lead_fbx (k := 3) (ds := [.int .i64 1]) (by simp [St.fbx, fbxL, fbx]) (by omega) ?_
  refine lead_fbx (k := 5) (ds := [.int .i64 i]) (by simp [St.fbx, fbxL, fbx]) (by omega) ?_
  refine lead_fbx (k := 6) (ds := [.pl RA]) (by simp [St.fbx, fbxL, fbx, hRAl, List.take_of_length_le]) (by omega) ?_
  refine lead_fbx (k := 7) (ds := [.pl RB]) (by simp [St.fbx, fbxL, fbx, hRBl, List.take_of_length_le]) (by omega) ?_
  refine (lead_box 11 0 902 48 1 [.d (.sl none none [])] (by omega) (by omega) (by omega) (by simp [St.fbx, fbxL, fbx]) rfl).bind ?_
  rintro _ rfl
  refine Lead.of (vdynK (f := 118) (ko := 11) (kr := 902) (kc := 12) (T := 48) (sz := 1) (es := []) (caps := capsV i RA RB [.pl (A.map (cP eQ)), .pl (B1.map eQ), .pl (C1.map eQ)]) (post := fun es' => es' = (ptsQ A i).map (cP eQ)) (by simp [St.fbx, fbxL, fbx]) (by simp [St.fbx, fbxL, fbx]) ?_ (by simp [Hk]) ?_ rfl (by simp) (by simpa using hkc2) fun es' hs5 g1 g2 g3 g4 g5 => ?_)
  ·simp [St.fbx, fbxL, fbx, capsV, renK, hRAl, hRBl, List.take_of_length_le]
  ·simp [St.fbx, fbxL, fbx, capsV, renK, hRAl, hRBl, List.take_of_length_le]
  have hpl := pts_len h
  subst g2
  simp [St.kst, St.fbx, fbxL, fbx, List.take_of_length_le]
end
end Go.Proofs.YtaoaoijchijlcaaGreatDoor
namespace Go.Proofs.YtaoaoijchijlcaaGreatDoor
open Go.Vs Go.Proofs Go
set_option maxRecDepth 100000
set_option maxHeartbeats 1000000
section
attribute [local simp] pS cP eQ_def cI
theorem w_impl_best (A : List (List _root_.Rat)) (n : Nat) (h : LPok A n) (p : List _root_.Rat × _root_.Rat) (hp : minQ A n = some p) :
  VC Tryz.prog 97 [.agg [.d (pS (cP eQ) A), .d (pS eQ (List.replicate A.length 1)), .d (pS eQ (List.replicate n 1))], .d (.int .i64 1)]
   (fun _ r => r = .tup [.d (.pl (p.1.map eQ)), .agg [.d (.int .i64 p.2.num), .d (.int .i64 (p.2.den : Int))], .d (.bool true)]) := by
 have hn4 := h.n4
 obtain ⟨PT, hPT⟩ : ∃ PT, PT = ptsQ A n := ⟨_, rfl⟩
 have hPl : PT.length <= 512 := by rw [hPT]; exact pts_len h
 have hPs : ∀ x ∈ PT, SolB n x := by rw [hPT]; exact pts_sol h
 have hb : bestQ PT = some p := by rw [hPT]; exact hp
 have hw1 : ∀ z : Int, -1 <= z -> z <= 1 -> IntKind.i64.wrap z = z := fun z h1 h2 => wrap64_of (by omega) (by omega)
 have hcb : ∀ a b : _root_.Rat, -1 <= cmpQ a b /\ cmpQ a b <= 1 := fun a b => by unfold cmpQ; split <;> (try split) <;> omega
 have hvs := w_impl_vertices A n h
 rw [<- hPT] at hvs
 obtain ⟨B1, hB1⟩ : ∃ B1, B1 = List.replicate A.length (1 : _root_.Rat) := ⟨_, rfl⟩
 obtain ⟨C1, hC1⟩ : ∃ C1, C1 = List.replicate n (1 : _root_.Rat) := ⟨_, rfl⟩
 have hC1l : C1.length = n := by rw [hC1]; simp
 rw [<- hB1, <- hC1] at hvs ⊢
 refine VC.ofL EP s97 (by kernel_rfl) Tryz.func97 (by rfl) (by kernel_rfl) (by simp [Tryz.f97]) (by simp [Tryz.f97]) s97_ok fun B hl => ?_
 clear hl
 simp [Tryz.f97, s97_9, s97_11, s97_9, s97_11, ]
 refine call_p hvs (by simp) fun hs0 hh0 _ => ?_
 try simp at hh0
 simp [s97_9, s97_11, ]
 refine loop_rule (X := Nat) (fun i => i ≤ PT.length) (fun i => [(1, .d (.int .i64 1)), (2, .ptr 2 0 0), (5, .ptr 5 0 0), (7, match bestT PT i with | none => .d (.sl none none []) | some p => .d (.pl (p.1.map eQ))), (8, .ptr 8 0 0), (9, .d (.bool (bestT PT i).isSome)), (16, .d (.pl (PT.map (cP eQ)))), (17, .d (.int .i64 PT.length)), (18, .d (.int .i64 i))])
  (fun i => [(2, some (.box [.d (.pl (A.map (cP eQ))), .d (.pl (B1.map eQ)), .d (.pl (C1.map eQ))])), (5, some (.box [.d (.int .i64 0), .d (.int .i64 0)])), (8, some (.box (match bestT PT i with | none => [.d (.int .i64 0), .d (.int .i64 0)] | some p => [.d (.int .i64 p.2.num), .d (.int .i64 (p.2.den : Int))])))]) (fun i => PT.length - i) 0 (by simp) (by simp [bestT_zero]) (by simp [bestT_zero]) ?_
 intro i hs1 t1 m1 hi hh1
 by_cases hlt : i < PT.length
 ·have hwi := wr1 (i := i) (by omega)
  have hm := List.getElem_mem hlt
  obtain ⟨x, hx⟩ : ∃ x, x = PT[i] := ⟨_, rfl⟩
  have hSx : SolB n x := hPs x (by rw [hx]; exact hm)
  have hxl := hSx.len
  have hdot := w_impl_DotProduct C1 x (by rw [hC1l, hxl]) (by rw [hC1l, hC1]; exact one_dots hSx hn4)
  have hsq : dotF C1.length (fnL C1) (fnL x) = sumQ x := by rw [hC1l, hC1]; exact sumQ_eq hxl
  rw [hsq] at hdot
  have hsm := sum_sm hSx hn4
  have hst := bestT_succ hlt
  rw [<- hx] at hst
  refine anyQ fun Z => ?_
  cases hbt : bestT PT i with
  | none =>
    rw [hbt] at hst
    simp only [bestS] at hst
    simp [hlt, <- hx, s97_9, s97_11, ]
    refine call_f hdot (by simp) rfl fun hs2 hh2 => ?_
    try simp at hh2
    simp [hwi, s97_9, s97_11, ]
    exact back (i + 1) (by omega) (by omega) rfl (by simp <;> omega) (by simp [hst]) (by simp [hst])
  | some b =>
    rw [hbt] at hst
    simp only [bestS] at hst
    obtain ⟨hb1, hb2⟩ := bestT_sum hbt
    have hbm : smQ b.2 := by rw [hb1]; exact sum_sm (hPs _ (List.mem_of_mem_take hb2)) hn4
    simp [hlt, <- hx, s97_9, s97_11, ]
    refine call_f hdot (by simp) rfl fun hs2 hh2 => ?_
    try simp at hh2
    simp [s97_9, s97_11, ]
    refine call_f (w_impl_CompareRationals (sumQ x) b.2 hsm hbm) (by simp) rfl fun hs3 hh3 => ?_
    try simp at hh3
    have hc := hcb (sumQ x) b.2
    simp [hw1 _ hc.1 hc.2]
    by_cases hl : sumQ x < b.2
    ·rw [if_pos hl] at hst
     simp [cmpQ_lt.2 hl, hwi, s97_9, s97_11, ]
     exact back (i + 1) (by omega) (by omega) rfl (by simp <;> omega) (by simp [hst]) (by simp [hst])
    ·rw [if_neg hl] at hst
     have hnc : ¬ cmpQ (sumQ x) b.2 < 0 := fun e => hl (cmpQ_lt.1 e)
     simp [hnc, hwi, s97_9, s97_11, ]
     exact back (i + 1) (by omega) (by omega) rfl (by simp <;> omega) (by simp [hst]) (by simp [hst])
 ·have hin : i = PT.length := by omega
  subst hin
  have hbt : bestT PT PT.length = some p := by rw [bestT_all]; exact hb
  simp [hbt, s97_9, s97_11, ]
theorem w_impl_Minimize (A : List (List _root_.Rat)) (n : Nat) (h : LPok A n) (p : List _root_.Rat × _root_.Rat) (hp : minQ A n = some p) :
  VC Tryz.prog 73 [.agg [.d (pS (cP eQ) A), .d (pS eQ (List.replicate A.length 1)), .d (pS eQ (List.replicate n 1))]]
   (fun _ r => r = .tup [.d (.pl (p.1.map eQ)), .agg [.d (.int .i64 p.2.num), .d (.int .i64 (p.2.den : Int))], .d (.bool true)]) := by
 have hn4 := h.n4
 have hval := w_impl_IsValidLinearProgram A n h
 have hbest := w_impl_best A n h p hp
 obtain ⟨B1, hB1⟩ : ∃ B1, B1 = List.replicate A.length (1 : _root_.Rat) := ⟨_, rfl⟩
 rw [<- hB1] at hval hbest ⊢
 refine VC.ofL EP s73 (by kernel_rfl) Tryz.func73 (by rfl) (by kernel_rfl) (by simp [Tryz.f73]) (by simp [Tryz.f73]) s73_ok fun B hl => ?_
 clear hl
 simp [Tryz.f73, ]
 refine call_f hval (by simp) rfl fun hs0 hh0 => ?_
 try simp at hh0
 simp []
 refine loop_rule (X := Nat) (fun i => i <= n) (fun i => [(1, .ptr 1 0 0), (3, .ptr 3 0 0), (12, .d (.pl ((List.replicate n (1 : _root_.Rat)).map eQ))), (13, .d (.int .i64 n)), (14, .d (.int .i64 i))]) (fun _ => [(1, some (.box [.d (.pl (A.map (cP eQ))), .d (.pl (B1.map eQ)), .d (.pl ((List.replicate n (1 : _root_.Rat)).map eQ))])), (3, some (.box [.d (.int .i64 0), .d (.int .i64 0)]))]) (fun i => n - i) 0 (by simp) (by simp) (by simp) ?_
 intro i hs t m hi hh
 by_cases hlt : i < n
 ·have hwi := wr1 (i := i) (by omega)
  simp [hlt, hwi, ]
  exact back (i + 1) (by omega) (by omega) rfl (by simp <;> omega) (by simp) (by simp)
 ·simp [hlt, ]
  refine call_p hbest (by simp) fun hs1 hh1 _ => ?_
  try simp at hh1
  simp []
theorem w_impl_coverOf (q : PQuery) (bag : List Int) (hq : q.atoms.length <= 4) (hb : bag.length <= 5) :
  VC Tryz.prog 74 [.agg ((eQuery q).map V.d), .d (pS cI bag)]
   (fun _ r => r = .agg [.d (pS (cP eQ) (covM q.atoms bag)), .d (pS eQ (List.replicate bag.length 1)), .d (pS eQ (List.replicate q.atoms.length 1))]) := by
 have hqe : (eQuery q).map V.d = [V.d (.int .i64 q.n), V.d (.pl (q.atoms.map eAtom)), V.d (.pl (q.out.map cI))] := by simp [eQuery]
 obtain ⟨AT, hAT⟩ : ∃ AT, AT = q.atoms := ⟨_, rfl⟩
 obtain ⟨OU, hOU⟩ : ∃ OU, OU = q.out.map cI := ⟨_, rfl⟩
 obtain ⟨RW, hRW⟩ : ∃ RW : Int -> List _root_.Rat, RW = fun v => AT.map fun a => r01 (a.vars.contains v) := ⟨_, rfl⟩
 have hcov : covM q.atoms bag = bag.map RW := by rw [hRW, hAT]; rfl
 rw [hcov, hqe, <- hAT, <- hOU]
 rw [<- hAT] at hq
 refine VC.ofL EP s74 (by kernel_rfl) Tryz.func74 (by rfl) (by kernel_rfl) (by simp [Tryz.f74]) (by simp [Tryz.f74]) s74_ok fun B hl => ?_
 clear hl
 simp [Tryz.f74, ]
 refine loop_ruleL (X := Nat) (fun i _ => i ≤ bag.length) (fun i => [(2, .ptr 2 0 0), (4, .ptr 4 0 0), (5, .ptr 5 0 0), (11, .d (.pl (bag.map cI))), (12, .d (.int .i64 bag.length)), (13, .d (.int .i64 i))])
  (fun i => [(2, some (.box [.d (.int .i64 q.n), .d (.pl (AT.map eAtom)), .d (.pl OU)])), (4, some (.box [.d (.sl none none []), .d (.sl none none []), .d (.sl none none [])])), (5, some (.box [.own 901 0 i, .own 902 0 i, .d (.sl none none [])])), (901, some (.row 48 1 (((bag.take i).map RW).map (cP eQ)))), (902, some (.row 33 2 ((List.replicate i (1 : _root_.Rat)).map eQ)))]) (fun i => bag.length - i) ?_ ?_
 ·refine (lead_box 5 0 901 48 1 [.d (.sl none none []), .d (.sl none none []), .d (.sl none none [])] (by omega) (by omega) (by omega) (by simp) rfl).bind ?_
  rintro _ rfl
  refine (lead_box 5 1 902 33 2 [.own 901 0 0, .d (.sl none none []), .d (.sl none none [])] (by omega) (by omega) (by omega) (by simp) rfl).bind ?_
  rintro _ rfl
  exact Lead.of ⟨0, by omega, rfl, rfl, Nat.le_refl _, by simp, by simp⟩
 intro i hs1 t1 m1 hi hh1
 by_cases hlt : i < bag.length
 ·have hwi := wr1 (i := i) (by omega)
  have hL1 : LenOk 24 (i + 1) := ⟨by omega, by simp only [maxLen]; omega⟩
  have hL2 : LenOk 16 (i + 1) := ⟨by omega, by simp only [maxLen]; omega⟩
  obtain ⟨v, hv⟩ : ∃ v, v = bag[i] := ⟨_, rfl⟩
  obtain ⟨RA, hRA⟩ : ∃ RA, RA = ((bag.take i).map RW).map (cP eQ) := ⟨_, rfl⟩
  obtain ⟨RB, hRB⟩ : ∃ RB, RB = (List.replicate i (1 : _root_.Rat)).map eQ := ⟨_, rfl⟩
  have hRAl : RA.length = i := by rw [hRA]; simp; omega
  have hRBl : RB.length = i := by rw [hRB]; simp
  have s1 : List.take (i + 1) (List.map (cP eQ ∘ RW) bag) = RA ++ [cP eQ (RW v)] := by rw [List.take_succ_eq_append_getElem (by simpa using hlt)]; simp [hRA, hv]
  have s2 : List.replicate (i + 1) [D.int .i64 1, D.int .i64 1] = RB ++ [[D.int .i64 1, D.int .i64 1]] := by rw [hRB, List.replicate_succ']; simp
  rw [<- hRA, <- hRB]
  refine anyQ2 fun Z => ?_
  simp [hlt, <- hv, ]
  refine loop_ruleL (X := Nat) (fun k _ => k ≤ AT.length) (fun k => [(2, .ptr 2 0 0), (4, .ptr 4 0 0), (5, .ptr 5 0 0), (7, .d (.int .i64 v)), (8, .own 903 0 k), (11, .d (.pl (bag.map cI))), (12, .d (.int .i64 bag.length)), (13, .d (.int .i64 i)), (18, .d (.pl (AT.map eAtom))), (19, .d (.int .i64 AT.length)), (20, .d (.int .i64 k))])
   (fun k => [(2, some (.box [.d (.int .i64 q.n), .d (.pl (AT.map eAtom)), .d (.pl OU)])), (4, some (.box [.d (.sl none none []), .d (.sl none none []), .d (.sl none none [])])), (5, some (.box [.own 901 0 i, .own 902 0 i, .d (.sl none none [])])), (901, some (.row 48 1 RA)), (902, some (.row 33 2 RB)), (903, some (.row 33 2 (((AT.take k).map fun a => r01 (a.vars.contains v)).map eQ)))]) (fun k => AT.length - k) ?_ ?_
  ·refine (lead_slot 8 903 33 2 (by omega) (by omega) (by simp)).bind ?_
   rintro _ rfl
   exact Lead.of ⟨0, by omega, rfl, rfl, Nat.le_refl _, by simp, by simp⟩
  intro k hs2 t2 m2 hk hh2
  by_cases hkn : k < AT.length
  ·have hwk := wr1 (i := k) (by omega)
   have hL3 : LenOk 16 (k + 1) := ⟨by omega, by simp only [maxLen]; omega⟩
   obtain ⟨a, ha⟩ : ∃ a, a = AT[k] := ⟨_, rfl⟩
   obtain ⟨U, hU⟩ : ∃ U, U = ((AT.take k).map fun a => r01 (a.vars.contains v)).map eQ := ⟨_, rfl⟩
   have hUl : U.length = k := by rw [hU]; simp; omega
   have s5 : List.take (k + 1) (List.map (eQ ∘ fun a => r01 (decide (v ∈ a.vars))) AT) = U ++ [[.int .i64 (if v ∈ a.vars then 1 else 0), .int .i64 1]] := by
    rw [List.take_succ_eq_append_getElem (by simpa using hkn)]
    simp [-eQ_def, hU, <- ha, r01_eQ, List.contains_eq_mem]
   have hcon := w_impl_ContainsVariable a v
   have hae : (eAtom a).map V.d = [V.d (.str a.rel), V.d (.pl (a.vars.map cI))] := by simp [eAtom, cStr]
   have hbit := w_impl_bit (a.vars.contains v)
   rw [hae] at hcon
   rw [<- hU]
   refine anyQ2 fun Z => ?_
   have hgk : (AT.map eAtom).getD k [] = [.str a.rel, .pl (a.vars.map cI)] := by simp [hkn, <- ha, eAtom, cStr]
   simp [hkn, <- ha, eAtom, cStr, ]
   refine call_f hcon (by simp) rfl fun hs3 hh3 => ?_
   try simp at hh3
   simp []
   refine call_f hbit (by simp) rfl fun hs4 hh4 => ?_
   try simp at hh4
   simp [hUl, hL3, hwk, ]
   exact back2 (k + 1) (by omega) (by omega) rfl (by simp <;> omega) (by simp) (by simp [s5])
  ·have hkn2 : k = AT.length := by omega
   have hRWv : ((AT.take k).map fun a => r01 (a.vars.contains v)) = RW v := by rw [hRW, hkn2, List.take_of_length_le (Nat.le_refl _)]
   rw [hRWv]
   have hRWl : (RW v).length = k := by rw [hRW, hkn2]; simp
   have htk : ((RW v).map eQ).take k = (RW v).map eQ := List.take_of_length_le (by simp; omega)
   simp [hkn2, hRAl, hRBl, hL1, hL2, hwi, ]
   exact back2 (i + 1) (by omega) (by omega) rfl (by simp <;> omega) (by simp) (by simp [s1, s2, <- hkn2, htk])
 ·have hin : i = bag.length := by omega
  subst hin
  rw [List.take_of_length_le (Nat.le_refl _)]
  simp []
  refine loop_ruleL (X := Nat) (fun k _ => k ≤ AT.length) (fun k => [(4, .ptr 4 0 0), (5, .ptr 5 0 0), (48, .d (.int .i64 AT.length)), (49, .d (.int .i64 k))])
   (fun k => [(4, some (.box [.d (.sl none none []), .d (.sl none none []), .d (.sl none none [])])), (5, some (.box [.own 901 0 bag.length, .own 902 0 bag.length, .own 904 0 k])), (901, some (.row 48 1 ((bag.map RW).map (cP eQ)))), (902, some (.row 33 2 ((List.replicate bag.length (1 : _root_.Rat)).map eQ))), (904, some (.row 33 2 ((List.replicate k (1 : _root_.Rat)).map eQ)))]) (fun k => AT.length - k) ?_ ?_
  ·refine (lead_box 5 2 904 33 2 [.own 901 0 bag.length, .own 902 0 bag.length, .d (.sl none none [])] (by omega) (by omega) (by omega) (by simp) rfl).bind ?_
   rintro _ rfl
   exact Lead.of ⟨0, by omega, rfl, rfl, Nat.le_refl _, by simp, by simp⟩
  intro k hs2 t2 m2 hk hh2
  by_cases hkn : k < AT.length
  ·have hwk := wr1 (i := k) (by omega)
   have hL3 : LenOk 16 (k + 1) := ⟨by omega, by simp only [maxLen]; omega⟩
   obtain ⟨U, hU⟩ : ∃ U, U = (List.replicate k (1 : _root_.Rat)).map eQ := ⟨_, rfl⟩
   have hUl : U.length = k := by rw [hU]; simp
   have s5 : List.replicate (k + 1) [D.int .i64 1, D.int .i64 1] = U ++ [[D.int .i64 1, D.int .i64 1]] := by rw [hU, List.replicate_succ']; simp
   rw [<- hU]
   refine anyQ2 fun Z => ?_
   simp [hkn, hUl, hL3, hwk, ]
   exact back2 (k + 1) (by omega) (by omega) rfl (by simp <;> omega) (by simp) (by simp [s5])
  ·have hkn2 : k = AT.length := by omega
   subst hkn2
   simp [List.take_of_length_le]
theorem w_impl_BagCoverWidth (q : PQuery) (b : List Int) : VC Tryz.prog 36 [.agg ((eQuery q).map V.d), .d (pS cI b)] (fun _ r => r = bcwV q b) := by
 have hqe : (eQuery q).map V.d = [V.d (.int .i64 q.n), V.d (.pl (q.atoms.map eAtom)), V.d (.pl (q.out.map cI))] := by simp [eQuery]
 refine VC.ofL EP s36 (by kernel_rfl) Tryz.func36 (by rfl) (by kernel_rfl) (by simp [Tryz.f36]) (by simp [Tryz.f36]) s36_ok fun B hl => ?_
 clear hl
 simp [hqe, Tryz.f36, ]
 refine call_f (w_impl_IsValidQuery q) (by simp [hqe]) rfl fun hs0 hh0 => ?_
 try simp at hh0
 cases hq : queryOk q
 ·simp [bcwV, hq, ]
 simp []
 refine call_f (w_impl_isBag q b) (by simp [hqe]) rfl fun hs1 hh1 => ?_
 try simp at hh1
 cases hb : bagI q.n b
 ·simp [bcwV, hq, hb, ]
 obtain ⟨f1, f2, f3, f4, f5⟩ := bag_facts hq hb
 obtain ⟨p, hp1, hp2⟩ := wid_some hq hb
 have hmin := w_impl_Minimize (covM q.atoms b) q.atoms.length (bag_lp hq hb) p hp1
 have hcl : (covM q.atoms b).length = b.length := by simp [covM]
 rw [hcl, hp2] at hmin
 simp []
 refine call_p (w_impl_coverOf q b f4 f2) (by simp [hqe]) fun hs2 hh2 _ => ?_
 try simp at hh2
 simp []
 refine call_p hmin (by simp) fun hs3 hh3 _ => ?_
 try simp at hh3
 simp [bcwV, hq, hb, ]
end
end Go.Proofs.YtaoaoijchijlcaaGreatDoor
namespace Go.Proofs.YtaoaoijchijlcaaGreatDoor
open Go.Vs Go.Proofs Go
set_option maxRecDepth 100000
set_option maxHeartbeats 1000000
section
attribute [local simp] pS cP eQ_def cI
theorem w_spec_l14Best (A : List (List _root_.Rat)) (n : Nat) (h : LPok A n) (p : List _root_.Rat × _root_.Rat) (hp : minQ A n = some p) :
  VC Tryz.prog 87 [.agg [.d (pS (cP eQ) A), .d (pS eQ (List.replicate A.length 1)), .d (pS eQ (List.replicate n 1))], .d (.int .i64 1)]
   (fun _ r => r = .tup [.d (.pl (p.1.map eQ)), .agg [.d (.int .i64 p.2.num), .d (.int .i64 (p.2.den : Int))], .d (.bool true)]) := by
 have hn4 := h.n4
 obtain ⟨PT, hPT⟩ : ∃ PT, PT = ptsQ A n := ⟨_, rfl⟩
 have hPl : PT.length <= 512 := by rw [hPT]; exact pts_len h
 have hPs : ∀ x ∈ PT, SolB n x := by rw [hPT]; exact pts_sol h
 have hb : bestQ PT = some p := by rw [hPT]; exact hp
 have hw1 : ∀ z : Int, -1 <= z -> z <= 1 -> IntKind.i64.wrap z = z := fun z h1 h2 => wrap64_of (by omega) (by omega)
 have hcb : ∀ a b : _root_.Rat, -1 <= cmpQ a b /\ cmpQ a b <= 1 := fun a b => by unfold cmpQ; split <;> (try split) <;> omega
 have hvs := w_spec_l14Points A n h
 rw [<- hPT] at hvs
 obtain ⟨B1, hB1⟩ : ∃ B1, B1 = List.replicate A.length (1 : _root_.Rat) := ⟨_, rfl⟩
 obtain ⟨C1, hC1⟩ : ∃ C1, C1 = List.replicate n (1 : _root_.Rat) := ⟨_, rfl⟩
 have hC1l : C1.length = n := by rw [hC1]; simp
 rw [<- hB1, <- hC1] at hvs ⊢
 refine VC.ofL EP s87 (by kernel_rfl) Tryz.func87 (by rfl) (by kernel_rfl) (by simp [Tryz.f87]) (by simp [Tryz.f87]) s87_ok fun B hl => ?_
 clear hl
 simp [Tryz.f87, s87_8, s87_13, s87_8, s87_13, ]
 refine call_p hvs (by simp) fun hs0 hh0 _ => ?_
 try simp at hh0
 simp [s87_8, s87_13, ]
 refine loop_ruleL (X := Nat) (fun i _ => i ≤ PT.length) (fun i => [(1, .d (.int .i64 1)), (2, .ptr 2 0 0), (5, .ptr 5 0 0), (7, .d (ptV (bestT PT i))), (8, .ptr 8 0 0), (9, .d (.pl (PT.map (cP eQ)))), (10, .d (.bool (bestT PT i).isSome)), (11, .d (.int .i64 i))])
  (fun i => [(2, some (.box [.d (.pl (A.map (cP eQ))), .d (.pl (B1.map eQ)), .d (.pl (C1.map eQ))])), (5, some (.box [.d (.int .i64 0), .d (.int .i64 0)])), (8, some (.box (match bestT PT i with | none => [.d (.int .i64 0), .d (.int .i64 0)] | some p => [.d (.int .i64 p.2.num), .d (.int .i64 (p.2.den : Int))])))]) (fun i => PT.length - i) ?_ ?_
 ·refine (lead_frp 14 (T := 33) (sz := 2) (es := []) (by simp)).bind ?_
  rintro _ rfl
  exact Lead.of ⟨0, by omega, rfl, rfl, Nat.le_refl _, by simp [bestT_zero, ptV], by simp [bestT_zero]⟩
 intro i hs1 t1 m1 hi hh1
 by_cases hlt : i < PT.length
 ·have hwi := wr1 (i := i) (by omega)
  have hm := List.getElem_mem hlt
  obtain ⟨x, hx⟩ : ∃ x, x = PT[i] := ⟨_, rfl⟩
  have hSx : SolB n x := hPs x (by rw [hx]; exact hm)
  have hxl := hSx.len
  have hdot := w_spec_DotProduct C1 x (by rw [hC1l, hxl]) (by rw [hC1l, hC1]; exact one_dots hSx hn4)
  have hsq : dotF C1.length (fnL C1) (fnL x) = sumQ x := by rw [hC1l, hC1]; exact sumQ_eq hxl
  rw [hsq] at hdot
  have hsm := sum_sm hSx hn4
  have hst := bestT_succ hlt
  rw [<- hx] at hst
  refine anyQ2 fun Z => ?_
  cases hbt : bestT PT i with
  | none =>
    rw [hbt] at hst
    simp only [bestS] at hst
    simp [hlt, <- hx, s87_8, s87_13, ]
    refine ⟨?_, ?_⟩
    all_goals
     refine call_f hdot (by simp) rfl fun hs2 hh2 => ?_
     try simp at hh2
     simp [hlt, <- hx, hwi, s87_8, s87_13, ]
     exact back2 (i + 1) (by omega) (by omega) rfl (by simp <;> omega) (by simp [hst, ptV, hx]) (by simp [hst])
  | some b =>
    rw [hbt] at hst
    simp only [bestS] at hst
    obtain ⟨hb1, hb2⟩ := bestT_sum hbt
    have hbm : smQ b.2 := by rw [hb1]; exact sum_sm (hPs _ (List.mem_of_mem_take hb2)) hn4
    simp [hlt, <- hx, s87_8, s87_13, ]
    refine ⟨?_, ?_⟩
    all_goals
     refine call_f hdot (by simp) rfl fun hs2 hh2 => ?_
     try simp at hh2
     simp [s87_8, s87_13, ]
     refine call_f (w_spec_CompareRationals (sumQ x) b.2 hsm hbm) (by simp) rfl fun hs3 hh3 => ?_
     try simp at hh3
     have hc := hcb (sumQ x) b.2
     simp [hw1 _ hc.1 hc.2]
     by_cases hl : sumQ x < b.2
     ·rw [if_pos hl] at hst
      simp [hlt, <- hx, cmpQ_lt.2 hl, hwi, s87_8, s87_13, ]
      exact back2 (i + 1) (by omega) (by omega) rfl (by simp <;> omega) (by simp [hst, ptV]) (by simp [hst])
     ·rw [if_neg hl] at hst
      have hnc : ¬ cmpQ (sumQ x) b.2 < 0 := fun e => hl (cmpQ_lt.1 e)
      simp [hnc, hwi, s87_8, s87_13, ]
      exact back2 (i + 1) (by omega) (by omega) rfl (by simp <;> omega) (by simp [hst, ptV]) (by simp [hst])
 ·have hin : i = PT.length := by omega
  subst hin
  have hbt : bestT PT PT.length = some p := by rw [bestT_all]; exact hb
  simp [hbt, ptV, s87_8, s87_13, ]
theorem w_spec_Minimize (A : List (List _root_.Rat)) (n : Nat) (h : LPok A n) (p : List _root_.Rat × _root_.Rat) (hp : minQ A n = some p) :
  VC Tryz.prog 55 [.agg [.d (pS (cP eQ) A), .d (pS eQ (List.replicate A.length 1)), .d (pS eQ (List.replicate n 1))]]
   (fun _ r => r = .tup [.d (.pl (p.1.map eQ)), .agg [.d (.int .i64 p.2.num), .d (.int .i64 (p.2.den : Int))], .d (.bool true)]) := by
 have hn4 := h.n4
 have hval := w_spec_IsValidLinearProgram A n h
 have hbest := w_spec_l14Best A n h p hp
 obtain ⟨B1, hB1⟩ : ∃ B1, B1 = List.replicate A.length (1 : _root_.Rat) := ⟨_, rfl⟩
 rw [<- hB1] at hval hbest ⊢
 refine VC.ofL EP s55 (by kernel_rfl) Tryz.func55 (by rfl) (by kernel_rfl) (by simp [Tryz.f55]) (by simp [Tryz.f55]) s55_ok fun B hl => ?_
 clear hl
 simp [Tryz.f55, s55_4, s55_4, ]
 refine call_f hval (by simp) rfl fun hs0 hh0 => ?_
 try simp at hh0
 simp [s55_4, ]
 refine call_f (w_spec_l14Plus n (by omega)) (by simp) rfl fun hs1 hh1 => ?_
 try simp at hh1
 simp [s55_4, ]
 refine call_p hbest (by simp) fun hs2 hh2 _ => ?_
 try simp at hh2
 simp [s55_4, ]
end
end Go.Proofs.YtaoaoijchijlcaaGreatDoor
namespace Go.Proofs.YtaoaoijchijlcaaGreatDoor
open Go.Vs Go.Proofs Go
set_option maxRecDepth 100000
set_option maxHeartbeats 1000000
section
attribute [local simp] pS cP eQ_def cI
theorem w_impl_DecompositionWidth (q : PQuery) (d : PDec) (hb : d.par.length <= 4294967296) : VC Tryz.prog 13 [.agg ((eQuery q).map V.d), .agg ((eDec d).map V.d)] (fun _ r => r = dwV q d) := by
 have hqe : (eQuery q).map V.d = [V.d (.int .i64 q.n), V.d (.pl (q.atoms.map eAtom)), V.d (.pl (q.out.map cI))] := by simp [eQuery]
 have hde : (eDec d).map V.d = [V.d (.pl (d.bags.map (cP cI))), V.d (.pl (d.par.map cI))] := by simp [eDec]
 obtain ⟨QA, hQA⟩ : ∃ QA, QA = q.atoms.map eAtom := ⟨_, rfl⟩
 obtain ⟨QO, hQO⟩ : ∃ QO, QO = q.out.map cI := ⟨_, rfl⟩
 rw [<- hQA, <- hQO] at hqe
 refine VC.ofL EP s13 (by kernel_rfl) Tryz.func13 (by rfl) (by kernel_rfl) (by simp [Tryz.f13]) (by simp [Tryz.f13]) s13_ok fun B hl => ?_
 clear hl
 simp [hqe, hde, Tryz.f13, ]
 refine call_f (w_impl_IsValidDecomposition q d hb) (by simp [hqe, hde]) rfl fun hs0 hh0 => ?_
 try simp at hh0
 cases hok : decOk q d
 ·simp [dwV, hok, ]
 obtain ⟨hq, hbs⟩ := dec_facts hok
 have hbl : d.bags.length ≤ 4294967296 := by
  have : d.bags.length = d.par.length := by simp only [decOk, Bool.and_eq_true, decide_eq_true_eq] at hok; exact hok.1.1.1.1.2
  omega
 have hsm := fun b hb => (wid_sm hq (hbs b hb)).1
 obtain ⟨bags, hbags⟩ : ∃ bags, bags = d.bags := ⟨_, rfl⟩
 have hdw : dwV q d = .tup [.agg [.d (.int .i64 (mxT q bags bags.length).num), .d (.int .i64 ((mxT q bags bags.length).den : Int))], .d (.bool true)] := by rw [hbags]; simp [dwV, hok, decW]
 have hne : bags ≠ [] := fun e => by
  rw [hbags] at e
  simp only [decOk, Bool.and_eq_true, List.all_eq_true, decide_eq_true_eq, e, List.length_nil, topN] at hok
  have h5 := (dec_n1 hq)
  have := hok.2 0 (by simp; omega)
  simp at this
 rw [hdw]
 rw [<- hbags] at hbs hsm hbl ⊢
 simp []
 refine loop_rule (X := Nat) (fun i => i ≤ bags.length) (fun i => [(2, .ptr 2 0 0), (4, .ptr 4 0 0), (6, .ptr 6 0 0), (17, .d (.pl (bags.map (cP cI)))), (18, .d (.int .i64 bags.length)), (19, .d (.int .i64 i))])
  (fun i => [(2, some (.box [.d (.int .i64 q.n), .d (.pl QA), .d (.pl QO)])), (4, some (.box [.d (.int .i64 0), .d (.int .i64 0)])), (6, some (.box (if i = 0 then [.d (.int .i64 0), .d (.int .i64 0)] else [.d (.int .i64 (mxT q bags i).num), .d (.int .i64 ((mxT q bags i).den : Int))])))]) (fun i => bags.length - i) 0 (by simp) (by simp) (by simp) ?_
 intro i hs1 t1 m1 hi hh1
 by_cases hlt : i < bags.length
 ·have hwi := wr1 (i := i) (by omega)
  have hm := List.getElem_mem hlt
  obtain ⟨b, hb'⟩ : ∃ b, b = bags[i] := ⟨_, rfl⟩
  rw [<- hb'] at hm
  obtain ⟨W, hW⟩ : ∃ W, W = widQ q.atoms b := ⟨_, rfl⟩
  have hws : smQ W := by rw [hW]; exact hsm b hm
  have hw1 : 1 <= W := by rw [hW]; exact (wid_sm hq (hbs b hm)).2
  have hbc := VC.to (w_impl_BagCoverWidth q b) (show bcwV q b = .tup [.agg [.d (.int .i64 W.num), .d (.int .i64 (W.den : Int))], .d (.bool true)] by rw [hW]; simp [bcwV, hq, hbs b hm])
  have hst := mxT_succ (q := q) hlt
  rw [<- hb', <- hW] at hst
  refine anyQ fun Z => ?_
  simp [hlt, <- hb', ]
  refine call_f hbc (by simp [hqe]) rfl fun hs2 hh2 => ?_
  try simp at hh2
  by_cases hi0 : i = 0
  ·subst hi0
   have hm0 : mxT q bags 1 = W := by rw [hst, mxT_zero, mxS, if_pos (by grind)]
   simp [hwi, ]
   exact back 1 (by omega) (by omega) rfl (by simp <;> omega) (by simp [show IntKind.i64.wrap 1 = 1 by decide]) (by simp [hm0])
  ·have hms := mxT_sm hsm i hi
   simp [hi0, ]
   refine call_f (w_impl_CompareRationals W (mxT q bags i) hws hms) (by simp) rfl fun hs3 hh3 => ?_
   try simp at hh3
   rw [mx_cmp] at hst
   by_cases hc : 0 < cmpQ W (mxT q bags i)
   ·rw [if_pos hc] at hst
    simp [hc, hwi, ]
    exact back (i + 1) (by omega) (by omega) rfl (by simp <;> omega) (by simp) (by simp [hst])
   ·rw [if_neg hc] at hst
    simp [hc, hwi, ]
    exact back (i + 1) (by omega) (by omega) rfl (by simp <;> omega) (by simp) (by simp [hst, hi0])
 ·have hin : i = bags.length := by omega
  have hi0 : i ≠ 0 := fun e => hne (List.eq_nil_of_length_eq_zero (by omega))
  subst hin
  simp [hi0, ]
end
end Go.Proofs.YtaoaoijchijlcaaGreatDoor
namespace Go.Proofs.YtaoaoijchijlcaaGreatDoor
open Go.Vs Go.Proofs Go
set_option maxRecDepth 100000
set_option maxHeartbeats 1000000
section
attribute [local simp] pS cP cI
end
end Go.Proofs.YtaoaoijchijlcaaGreatDoor
namespace Go.Proofs.YtaoaoijchijlcaaGreatDoor
open Go.Vs Go.Proofs Go
set_option maxRecDepth 100000
set_option maxHeartbeats 1000000
section
attribute [local simp] pS cP eQ_def cI
end
end Go.Proofs.YtaoaoijchijlcaaGreatDoor
namespace Go.Proofs.YtaoaoijchijlcaaGreatDoor
open Go.Vs Go.Proofs Go
set_option maxRecDepth 100000
set_option maxHeartbeats 1000000
section
attribute [local simp] pS cP eQ_def cI
end
end Go.Proofs.YtaoaoijchijlcaaGreatDoor
namespace Go.Proofs.YtaoaoijchijlcaaGreatDoor
open Go.Vs Go.Proofs Go
set_option maxRecDepth 100000
set_option maxHeartbeats 1000000
section
attribute [local simp] pS cP eQ_def cI
end
end Go.Proofs.YtaoaoijchijlcaaGreatDoor
namespace Go.Proofs.YtaoaoijchijlcaaGreatDoor
open Go.Vs Go.Proofs Go
set_option maxRecDepth 100000
set_option maxHeartbeats 1000000
def cW (n : Int) : List D := [.int .u8 n]
def curD (b : Sl Int) (c : Nat × Int) : List D := [dSl cW b, .int .i64 c.1, .int .i64 c.2]
def curO (b : Sl Int) (c : Nat × Int) : Prop := c.1 <= b.xs.length
def andZ (k : IntKind) (a b : Int) : Int := k.wrap (BitVec.ofInt k.bits a &&& BitVec.ofInt k.bits b).toNat
def xorZ (k : IntKind) (a b : Int) : Int := k.wrap (BitVec.ofInt k.bits a ^^^ BitVec.ofInt k.bits b).toNat
def shrZ (k : IntKind) (a b : Int) : Int := a.fdiv (2 ^ (min b.toNat k.bits))
theorem bD_add (k k' : IntKind) (a b : Int) : binD .add (.d (.int k a)) (.d (.int k' b)) = .int k (k.wrap (a + b)) := id rfl
theorem bD_sub (k k' : IntKind) (a b : Int) : binD .sub (.d (.int k a)) (.d (.int k' b)) = .int k (k.wrap (a - b)) := id rfl
theorem bD_mul (k k' : IntKind) (a b : Int) : binD .mul (.d (.int k a)) (.d (.int k' b)) = .int k (k.wrap (a * b)) := id rfl
theorem bD_rem (k k' : IntKind) (a b : Int) : binD .rem (.d (.int k a)) (.d (.int k' b)) = .int k (a.tmod b) := id rfl
theorem bD_and (k k' : IntKind) (a b : Int) : binD .and (.d (.int k a)) (.d (.int k' b)) = .int k (andZ k a b) := id rfl
theorem bD_xor (k k' : IntKind) (a b : Int) : binD .xor (.d (.int k a)) (.d (.int k' b)) = .int k (xorZ k a b) := id rfl
theorem bD_shr (k k' : IntKind) (a b : Int) : binD .shr (.d (.int k a)) (.d (.int k' b)) = .int k (shrZ k a b) := id rfl
theorem bD_lss (k k' : IntKind) (a b : Int) : binD .lss (.d (.int k a)) (.d (.int k' b)) = .bool (decide (a < b)) := id rfl
theorem bD_leq (k k' : IntKind) (a b : Int) : binD .leq (.d (.int k a)) (.d (.int k' b)) = .bool (decide (a <= b)) := id rfl
theorem bD_gtr (k k' : IntKind) (a b : Int) : binD .gtr (.d (.int k a)) (.d (.int k' b)) = .bool (decide (b < a)) := id rfl
theorem bD_eql (k k' : IntKind) (a b : Int) : binD .eql (.d (.int k a)) (.d (.int k' b)) = .bool (a == b) := id rfl
theorem and255 (a : Int) : 0 <= andZ .i64 a 255 /\ andZ .i64 a 255 < 256 := by
 have h : (BitVec.ofInt 64 a &&& BitVec.ofInt 64 255).toNat ≤ 255 := by
  rw [BitVec.toNat_and]
  exact Nat.and_le_right
 have e : andZ .i64 a 255 = ((BitVec.ofInt 64 a &&& BitVec.ofInt 64 255).toNat : Int) := by
  show IntKind.i64.wrap ((BitVec.ofInt 64 a &&& BitVec.ofInt 64 255).toNat : Int) = _
  exact wrap64_of (by omega) (by omega)
 rw [e]; omega
theorem forgetT {P : Program} {E : Md} {ops : Array Oper} {tr : Tr} {K : St -> Prop} {B hs : Nat} {W : List Nat} {t0 : Nat -> V} {m0 : Nat -> Option Blk} (S : List (Nat × V)) (M : List (Nat × Option Blk))
  (hS : ∀ p ∈ S, t0 p.1 = p.2) (hM : ∀ p ∈ M, m0 p.1 = p.2) (h : ∀ t m, vtr P E ops K tr ⟨B, hs, W, updL t S, updL m M⟩) : vtr P E ops K tr ⟨B, hs, W, t0, m0⟩ := by
 have := h t0 m0
 rwa [updL_has hS, updL_has hM] at this
theorem forgetG {G : St -> Prop} {B hs : Nat} {W : List Nat} {t0 : Nat -> V} {m0 : Nat -> Option Blk} (S : List (Nat × V)) (M : List (Nat × Option Blk))
  (hS : ∀ p ∈ S, t0 p.1 = p.2) (hM : ∀ p ∈ M, m0 p.1 = p.2) (h : ∀ t m, G ⟨B, hs, W, updL t S, updL m M⟩) : G ⟨B, hs, W, t0, m0⟩ := by
 have := h t0 m0
 rwa [updL_has hS, updL_has hM] at this
structure CurP (b : Sl Int) (q : V → Prop) (r : V) (cs : List V) : Prop where
 ex : ∃ c', q r /\ cs = (curD b c').map V.d /\ curO b c'
def byteQ (v : V) : Prop := ∃ x, v = .d (.int .i64 x) /\ 0 <= x /\ x < 256
def belQ (n : Int) (v : V) : Prop := ∃ x, v = .d (.int .i64 x) /\ 0 <= x /\ (0 < n -> x < n) /\ (n <= 0 -> x = 0)
def boolQ (v : V) : Prop := ∃ x, v = .d (.bool x)
def inQ (l : List Int) (v : V) : Prop := ∃ x, v = .d (.int .i64 x) /\ x ∈ l
def strQ (l : List (List UInt8)) (v : V) : Prop := ∃ x, v = .d (.str x) /\ x ∈ l
theorem call_cur {P : Program} {E : Md} {args : List Operand} {f : FuncId} {rest As : List V} {k : Nat} {dst : Option Tmp} {K : St -> Prop} {σ : St} {b : Sl Int} {q : V -> Prop} (c : Nat × Int) (hE : E f = true)
  (hc : VX P f [] (.ptr 1000 0 0 :: As) (some ((curD b c).map V.d)) (fun _ r cs _ => CurP b q r cs)) (hvs : args.map σ.ev = .ptr k 0 0 :: rest) (hm : σ.m k = some (.box ((curD b c).map V.d)))
  (hr : rpL σ.m rest = some As) (hk : keysVL rest = [])
  (hK : ∀ r c' hs', σ.hs <= hs' -> q r -> r.ln -> curO b c' -> K ({ σ with hs := hs', m := upd σ.m k (some (.box ((curD b c').map V.d))) }.put dst r)) : vcallA P E f args (.ptr k 0 0 :: rest) dst K σ := by
 refine call_xt hE hvs hm hr (by simp [curD, dSl]) hc fun r cs' ws n hs' h1 h2 h3 h4 h5 => ?_
 obtain ⟨c', hq, rfl, ho⟩ := h3.ex
 have : keysVL rest ++ keysVL ((curD b c).map V.d) = [] := by rw [hk]; simp [curD]
 rw [this]
 exact hK r c' hs' (Nat.le_trans h1 h2) hq h4 ho
theorem byte_fin {b : Sl Int} {i : Nat} {H x : Int} (h : i + 1 <= b.xs.length) (hx : 0 <= x /\ x < 256) : CurP b byteQ (.d (.int .i64 x)) [.d (.sl b.id b.T (b.xs.map cW)), .d (.int .i64 ((i : Int) + 1)), .d (.int .i64 H)] :=
 ⟨⟨(i + 1, H), ⟨_, rfl, hx.1, hx.2⟩, by simp [curD, dSl], h⟩⟩
theorem byte_fin0 {b : Sl Int} {i : Nat} {H x : Int} (h : i <= b.xs.length) (hx : 0 <= x /\ x < 256) : CurP b byteQ (.d (.int .i64 x)) [.d (.sl b.id b.T (b.xs.map cW)), .d (.int .i64 (i : Int)), .d (.int .i64 H)] :=
 ⟨⟨(i, H), ⟨_, rfl, hx.1, hx.2⟩, by simp [curD, dSl], h⟩⟩
section
attribute [local simp] pS dSl cP cI cW bD_add bD_sub bD_mul bD_rem bD_and bD_xor bD_shr bD_lss bD_leq bD_gtr bD_eql vendX vretX
attribute [-simp] binD
theorem w_spec_l1New (b : Sl Int) (hb : b.xs.length <= 1048576) : VN Tryz.prog 25 [.d (dSl cW b)] (fun _ ds => ∃ c, ds = curD b c /\ curO b c) := by
 refine VN.of EP s25 (by kernel_rfl) Tryz.func25 (by rfl) (by kernel_rfl) (by simp [Tryz.f25]) (by simp [Tryz.f25]) s25_ok fun B => ?_
 simp [Tryz.f25, ]
 refine loop_rule (X := Nat × Int) (fun p => p.1 <= b.xs.length) (fun p => [(0, .d (.sl b.id b.T (b.xs.map cW))), (3, .d (.int .i64 p.2)), (4, .d (.int .i64 p.1))]) (fun _ => []) (fun p => b.xs.length - p.1) (0, IntKind.i64.wrap (10101 + b.xs.length)) (by simp) (by simp) (by simp) ?_
 rintro ⟨i, h⟩ hs t m hi hh
 simp only at hi
 by_cases hlt : i < b.xs.length
 ·have hwi := wr1 (i := i) (by omega)
  by_cases h4 : (i : Int) < 4000
  ·simp [hlt, h4, hwi, ]
   exact back (i + 1, _) (by simp only; omega) (by simp only; omega) rfl (by simp <;> omega) (by simp; rfl) (by simp)
  ·simp [hlt, h4, ]
   exact ⟨curD b (0, h), .inr (by simp [curD]), 0, h, rfl, by simp [curO]⟩
 ·simp [hlt, ]
  exact ⟨curD b (0, h), .inr (by simp [curD]), 0, h, rfl, by simp [curO]⟩
theorem w_spec_l1Byte (b : Sl Int) (c : Nat × Int) (hb : b.xs.length <= 1048576) (hc : curO b c) : VX Tryz.prog 107 [] [.ptr 1000 0 0] (some ((curD b c).map V.d)) (fun _ r cs _ => CurP b byteQ r cs) := by
 refine VX.of EP s107 (by kernel_rfl) Tryz.func107 (by rfl) (by kernel_rfl) (by simp [Tryz.f107]) (by simp [Tryz.f107]) s107_ok ?_ ?_ fun B hB => ?_
 ·simp
 ·rintro cs h
  cases h
  simp [curD]
 obtain ⟨i, h⟩ := c
 simp only [curO] at hc
 simp [Tryz.f107, curD]
 generalize IntKind.i64.wrap (IntKind.i64.wrap (h * 6364136223846793005) + 1442695040888963407) = h'
 simp [s107_2, ]
 generalize xorZ IntKind.i64 (shrZ IntKind.i64 h' 33) (shrZ IntKind.i64 h' 45) = x'
 have hy := and255 x'
 generalize andZ IntKind.i64 x' 255 = y at hy ⊢
 refine forgetT [(0, .ptr 1000 0 0), (3, .d (.int .i64 y))] [(1000, some (.box [.d (.sl b.id b.T (b.xs.map cW)), .d (.int .i64 i), .d (.int .i64 h')]))] (by simp) (by simp) fun t m => ?_
 by_cases hlt : i < b.xs.length
 ·have hwi := wr1 (i := i) (by omega)
  simp [s107_3, hlt]
  simp [-w_region, s107_4, hlt, hwi]
  have hz := and255 (IntKind.i64.wrap (y + IntKind.i64.wrap b.xs[i]))
  generalize andZ IntKind.i64 (IntKind.i64.wrap (y + IntKind.i64.wrap b.xs[i])) 255 = z at hz ⊢
  refine forgetG [(0, .ptr 1000 0 0), (3, .d (.int .i64 z))] [(1000, some (.box [.d (.sl b.id b.T (b.xs.map cW)), .d (.int .i64 i), .d (.int .i64 h')]))] (by simp) (by simp) fun t m => ?_
  simp [hwi]
  exact .inr <| byte_fin (b := b) (by omega) hz
 ·simp [s107_3, hlt]
  exact .inr <| byte_fin0 hc hy
theorem w_spec_l1Below (b : Sl Int) (c : Nat × Int) (n : Int) (hb : b.xs.length <= 1048576) (hc : curO b c) (hn : n <= 1000000000) : VX Tryz.prog 90 [] [.ptr 1000 0 0, .d (.int .i64 n)] (some ((curD b c).map V.d)) (fun _ r cs _ => CurP b (belQ n) r cs) := by
 refine VX.of EP s90 (by kernel_rfl) Tryz.func90 (by rfl) (by kernel_rfl) (by simp [Tryz.f90]) (by simp [Tryz.f90]) s90_ok ?_ ?_ fun B hB => ?_
 ·simp
 ·rintro cs h
  cases h
  simp [curD]
 by_cases h0 : n <= 0
 ·simp [Tryz.f90, curD, h0]
  exact .inr ⟨⟨c, ⟨0, rfl, by omega, fun h => absurd h (by omega), fun _ => rfl⟩, by simp [curD], hc⟩⟩
 have tm : ∀ x : Int, 0 ≤ x → 0 ≤ x.tmod n ∧ x.tmod n < n := fun x hx => by
  rw [Int.tmod_eq_emod_of_nonneg hx]
  exact ⟨Int.emod_nonneg _ (by omega), Int.emod_lt_of_pos _ (by omega)⟩
 have hn0 : ¬ n = 0 := by omega
 by_cases h1 : n <= 256
 ·simp [Tryz.f90, curD, h0, h1]
  refine call_cur c E107 (w_spec_l1Byte b c hb hc) (by simp) (by simp [curD]) (by simp) (by simp) fun r1 c1 hs1 hh1 hq1 hl1 o1 => ?_
  obtain ⟨x1, rfl, a1, b1⟩ := hq1
  simp [curD, hn0]
  exact .inr ⟨⟨c1, ⟨_, rfl, (tm x1 a1).1, fun _ => (tm x1 a1).2, fun h => absurd h h0⟩, by simp [curD], o1⟩⟩
 simp [Tryz.f90, curD, h0, h1]
 refine call_cur c E107 (w_spec_l1Byte b c hb hc) (by simp) (by simp [curD]) (by simp) (by simp) fun r1 c1 hs1 hh1 hq1 hl1 o1 => ?_
 obtain ⟨x1, rfl, a1, b1⟩ := hq1
 simp [curD]
 refine call_cur c1 E107 (w_spec_l1Byte b c1 hb o1) (by simp) (by simp [curD]) (by simp) (by simp) fun r2 c2 hs2 hh2 hq2 hl2 o2 => ?_
 obtain ⟨x2, rfl, a2, b2⟩ := hq2
 simp [curD]
 refine call_cur c2 E107 (w_spec_l1Byte b c2 hb o2) (by simp) (by simp [curD]) (by simp) (by simp) fun r3 c3 hs3 hh3 hq3 hl3 o3 => ?_
 obtain ⟨x3, rfl, a3, b3⟩ := hq3
 simp [curD]
 refine call_cur c3 E107 (w_spec_l1Byte b c3 hb o3) (by simp) (by simp [curD]) (by simp) (by simp) fun r4 c4 hs4 hh4 hq4 hl4 o4 => ?_
 obtain ⟨x4, rfl, a4, b4⟩ := hq4
 have w1 : IntKind.i64.wrap (x1 * 16777216) = x1 * 16777216 := wrap64_of (by omega) (by omega)
 have w2 : IntKind.i64.wrap (x2 * 65536) = x2 * 65536 := wrap64_of (by omega) (by omega)
 have w3 : IntKind.i64.wrap (x3 * 256) = x3 * 256 := wrap64_of (by omega) (by omega)
 have w4 : IntKind.i64.wrap (x1 * 16777216 + x2 * 65536) = x1 * 16777216 + x2 * 65536 := wrap64_of (by omega) (by omega)
 have w5 : IntKind.i64.wrap (x1 * 16777216 + x2 * 65536 + x3 * 256) = x1 * 16777216 + x2 * 65536 + x3 * 256 := wrap64_of (by omega) (by omega)
 have w6 : IntKind.i64.wrap (x1 * 16777216 + x2 * 65536 + x3 * 256 + x4) = x1 * 16777216 + x2 * 65536 + x3 * 256 + x4 := wrap64_of (by omega) (by omega)
 simp [curD, hn0, w1, w2, w3, w4, w5, w6]
 exact .inr ⟨⟨c4, ⟨_, rfl, (tm _ (by omega)).1, fun _ => (tm _ (by omega)).2, fun h => absurd h h0⟩, by simp [curD], o4⟩⟩
theorem w_spec_l1Once (b : Sl Int) (c : Nat × Int) (n : Int) (hb : b.xs.length <= 1048576) (hc : curO b c) (hn : n <= 1000000000) : VX Tryz.prog 66 [] [.ptr 1000 0 0, .d (.int .i64 n)] (some ((curD b c).map V.d)) (fun _ r cs _ => CurP b boolQ r cs) := by
 refine VX.of EP s66 (by kernel_rfl) Tryz.func66 (by rfl) (by kernel_rfl) (by simp [Tryz.f66]) (by simp [Tryz.f66]) s66_ok ?_ ?_ fun B hB => ?_
 ·simp
 ·rintro cs h
  cases h
  simp [curD]
 simp [Tryz.f66, curD]
 refine call_cur c E90 (w_spec_l1Below b c n hb hc hn) (by simp) (by simp [curD]) (by simp) (by simp) fun r1 c1 hs1 hh1 hq1 hl1 o1 => ?_
 obtain ⟨x1, rfl, a1, b1, d1⟩ := hq1
 simp [curD]
 exact .inr ⟨⟨c1, ⟨_, rfl⟩, by simp [curD], o1⟩⟩
theorem w_spec_l1PickInt (b : Sl Int) (c : Nat × Int) (l : List Int) (hb : b.xs.length <= 1048576) (hc : curO b c) (hl0 : l ≠ []) (hll : l.length <= 1000) : VX Tryz.prog 94 [] [.ptr 1000 0 0, .d (pS cI l)] (some ((curD b c).map V.d)) (fun _ r cs _ => CurP b (inQ l) r cs) := by
 refine VX.of EP s94 (by kernel_rfl) Tryz.func94 (by rfl) (by kernel_rfl) (by simp [Tryz.f94]) (by simp [Tryz.f94]) s94_ok ?_ ?_ fun B hB => ?_
 ·simp
 ·rintro cs h
  cases h
  simp [curD]
 have hp := List.length_pos_iff.2 hl0
 simp [Tryz.f94, curD]
 refine call_cur c E90 (w_spec_l1Below b c l.length hb hc (by omega)) (by simp) (by simp [curD]) (by simp) (by simp) fun r1 c1 hs1 hh1 hq1 hl1 o1 => ?_
 obtain ⟨x1, rfl, a1, b1, d1⟩ := hq1
 have b1' := b1 (by omega)
 obtain ⟨k, rfl⟩ : ∃ k : Nat, x1 = k := ⟨x1.toNat, by omega⟩
 have hk : k < l.length := by omega
 simp [curD, hk]
 exact .inr ⟨⟨c1, ⟨_, rfl, List.getElem_mem hk⟩, by simp [curD], o1⟩⟩
theorem w_spec_l1Pick (b : Sl Int) (c : Nat × Int) (l : List (List UInt8)) (hb : b.xs.length <= 1048576) (hc : curO b c) (hl0 : l ≠ []) (hll : l.length <= 1000) : VX Tryz.prog 89 [] [.ptr 1000 0 0, .d (pS cStr l)] (some ((curD b c).map V.d)) (fun _ r cs _ => CurP b (strQ l) r cs) := by
 refine VX.of EP s89 (by kernel_rfl) Tryz.func89 (by rfl) (by kernel_rfl) (by simp [Tryz.f89]) (by simp [Tryz.f89]) s89_ok ?_ ?_ fun B hB => ?_
 ·simp
 ·rintro cs h
  cases h
  simp [curD]
 have hp := List.length_pos_iff.2 hl0
 simp [Tryz.f89, curD]
 refine call_cur c E90 (w_spec_l1Below b c l.length hb hc (by omega)) (by simp) (by simp [curD]) (by simp) (by simp) fun r1 c1 hs1 hh1 hq1 hl1 o1 => ?_
 obtain ⟨x1, rfl, a1, b1, d1⟩ := hq1
 have b1' := b1 (by omega)
 obtain ⟨k, rfl⟩ : ∃ k : Nat, x1 = k := ⟨x1.toNat, by omega⟩
 have hk : k < l.length := by omega
 simp [curD, hk, cStr]
 exact .inr ⟨⟨c1, ⟨_, rfl, List.getElem_mem hk⟩, by simp [curD], o1⟩⟩
end
end Go.Proofs.YtaoaoijchijlcaaGreatDoor
namespace Go.Proofs.YtaoaoijchijlcaaGreatDoor
open Go.Vs Go.Proofs Go
set_option maxRecDepth 100000
set_option maxHeartbeats 1000000
theorem tkLL_mapW (l : List Int) : tkLL (l.map cW) = true := by
 induction l with
 | nil => rfl
 | cons x r ih => simp only [List.map_cons, tkLL, ih, cW]; simp [tkL, D.tk]
section
attribute [local simp] pS dSl cP cI cW
theorem call_curK {P : Program} {E : Md} {args : List Operand} {f : FuncId} {rest As : List V} {k : Nat} {dst : Option Tmp} {K : St -> Prop} {σ : St} {b : Sl Int} {q : V -> Prop} (c : Nat × Int) (hE : E f = true)
  (hc : VX P f [] (.ptr 1000 0 0 :: As) (some ((curD b c).map V.d)) (fun _ r cs _ => CurP b q r cs)) (hvs : args.map σ.ev = .ptr k 0 0 :: rest) (hm : σ.m k = some (.box ((curD b c).map V.d)))
  (hr : rpL σ.m rest = some As)
  (hK : ∀ r c' hs', σ.hs <= hs' -> q r -> r.ln -> curO b c' -> K ({ (σ.frps (keysVL rest)) with hs := hs', m := upd (σ.frps (keysVL rest)).m k (some (.box ((curD b c').map V.d))) }.put dst r)) : vcallA P E f args (.ptr k 0 0 :: rest) dst K σ := by
 refine call_xt hE hvs hm hr (by simp [curD, dSl]) hc fun r cs' ws n hs' h1 h2 h3 h4 h5 => ?_
 obtain ⟨c', hq, rfl, ho⟩ := h3.ex
 have : keysVL rest ++ keysVL ((curD b c).map V.d) = keysVL rest := by simp [curD]
 rw [this]
 exact hK r c' hs' (Nat.le_trans h1 h2) hq h4 ho
theorem call_cp {P : Program} {E : Md} {args : List Operand} {f : FuncId} {rest As : List V} {k : Nat} {dst : Option Tmp} {K : St -> Prop} {σ : St} {b : Sl Int} {post : V -> List V -> Prop} (c : Nat × Int) (hE : E f = true)
  (hc : VX P f [] (.ptr 1000 0 0 :: As) (some ((curD b c).map V.d)) (fun _ r cs _ => post r cs)) (hvs : args.map σ.ev = .ptr k 0 0 :: rest) (hm : σ.m k = some (.box ((curD b c).map V.d)))
  (hr : rpL σ.m rest = some As) (hk : keysVL rest = [])
  (hK : ∀ r cs hs', σ.hs <= hs' -> post r cs -> K ({ σ with hs := hs', m := upd σ.m k (some (.box cs)) }.put dst r)) : vcallA P E f args (.ptr k 0 0 :: rest) dst K σ := by
 refine call_xt hE hvs hm hr (by simp [curD, dSl]) hc fun r cs' ws n hs' h1 h2 h3 h4 h5 => ?_
 have : keysVL rest ++ keysVL ((curD b c).map V.d) = [] := by rw [hk]; simp [curD]
 rw [this]
 exact hK r cs' hs' (Nat.le_trans h1 h2) h3
end
def nms : List (List UInt8) := [[114], [115], [116], [117], [118]]
theorem nms_len : nms.length = 5 := rfl
theorem nms_one : ∀ s ∈ nms, s.length <= 10 := by decide
end Go.Proofs.YtaoaoijchijlcaaGreatDoor
namespace Go.Proofs.YtaoaoijchijlcaaGreatDoor
open Go.Vs Go.Proofs Go
set_option maxRecDepth 100000
set_option maxHeartbeats 1000000
section
attribute [local simp] plI_id plStr_id map_plI map_plStr pS cP cI cStr cU8 cB
theorem w_impl_VariableName (v : Int) : VC Tryz.prog 81 [.d (.int .i64 v)] (fun _ r => r = .d (.str (varNm v))) := by
 refine VC.ofL EP s81 (by kernel_rfl) Tryz.func81 (by rfl) (by kernel_rfl) (by simp [Tryz.f81]) (by simp [Tryz.f81]) s81_ok fun B hl => ?_
 simp [Tryz.f81, ]
 refine call_f (w_impl_within v 0 4) (by simp) rfl fun hs1 hh1 => ?_
 simp at hh1
 cases h : inR v 0 4
 ·simp [varNm, h]
 have h' := h
 simp only [inR, Bool.and_eq_true, decide_eq_true_eq] at h'
 have hw : IntKind.i64.wrap (v + 1) = v + 1 := wrap64_of (by omega) (by omega)
 obtain ⟨k, rfl⟩ : ∃ k : Nat, v = (k : Int) := ⟨v.toNat, by omega⟩
 have hk : k < 5 := by omega
 have h1 : ((k : Int) + 1).toNat = k + 1 := by omega
 simp [varNm, h, hw, h1]
 omega
theorem w_spec_VariableName (v : Int) : VC Tryz.prog 82 [.d (.int .i64 v)] (fun _ r => r = .d (.str (varNm v))) := by
 refine VC.ofL EP s82 (by kernel_rfl) Tryz.func82 (by rfl) (by kernel_rfl) (by simp [Tryz.f82]) (by simp [Tryz.f82]) s82_ok fun B hl => ?_
 simp [Tryz.f82, ]
 refine call_f (w_spec_l1In v 0 4) (by simp) rfl fun hs1 hh1 => ?_
 simp at hh1
 cases h : inR v 0 4
 ·simp [varNm, h]
 have h' := h
 simp only [inR, Bool.and_eq_true, decide_eq_true_eq] at h'
 have hw : IntKind.i64.wrap (v + 1) = v + 1 := wrap64_of (by omega) (by omega)
 obtain ⟨k, rfl⟩ : ∃ k : Nat, v = (k : Int) := ⟨v.toNat, by omega⟩
 have hk : k < 5 := by omega
 have h1 : ((k : Int) + 1).toNat = k + 1 := by omega
 simp [varNm, h, hw, h1]
 omega
theorem w_impl_namesOf (l : List Int) : VC Tryz.prog 47 [.d (pS cI l)] (fun _ r => r = .d (.str (varsS l))) := by
 refine VC.ofL EP s47 (by kernel_rfl) Tryz.func47 (by rfl) (by kernel_rfl) (by simp [Tryz.f47]) (by simp [Tryz.f47]) s47_ok fun B hl => ?_
 simp [pS, maxLen] at hl
 simp [Tryz.f47, ]
 refine loop_rule (X := Nat) (fun i => i <= l.length) (fun i => [(3, .d (.str (varsS (l.take i)))), (6, .d (.pl (l.map cI))), (7, .d (.int .i64 l.length)), (8, .d (.int .i64 i))]) (fun _ => []) (fun i => l.length - i) 0 (by simp) (by simp [varsS]) (by simp) ?_
 intro i hs t m hi hh
 by_cases hlt : i < l.length
 ·have hwi := wr1 (i := i) (by omega)
  simp [hlt, ]
  refine call_f (w_impl_VariableName l[i]) (by simp) rfl fun hs1 hh1 => ?_
  simp at hh1
  have h1 := varsS_len (l.take i)
  have h2 := varNm_len l[i]
  rw [List.length_take] at h1
  simp [hwi]
  refine ⟨by omega, ?_⟩
  exact back (i + 1) (by omega) (by omega) rfl (by simp <;> omega) (by simp [varsS_step hlt]) (by simp)
 ·simp [hlt, List.take_of_length_le (show l.length <= i by omega)]
theorem w_spec_l7Vars (l : List Int) (hb : l.length <= 4611686018427387904) : VC Tryz.prog 50 [.d (pS cI l)] (fun _ r => r = .d (.str ([40] ++ varsS l ++ [41]))) := by
 refine VC.ofL EP s50 (by kernel_rfl) Tryz.func50 (by rfl) (by kernel_rfl) (by simp [Tryz.f50]) (by simp [Tryz.f50]) s50_ok fun B hl => ?_
 simp [pS, maxLen] at hl
 simp [Tryz.f50, ]
 refine loop_rule (X := Nat) (fun i => i <= l.length) (fun i => [(0, .d (.pl (l.map cI))), (3, .d (.str ([40] ++ varsS (l.take i)))), (4, .d (.int .i64 i))]) (fun _ => []) (fun i => l.length - i) 0 (by simp) (by simp [varsS]) (by simp) ?_
 intro i hs t m hi hh
 have h1 := varsS_len (l.take i)
 rw [List.length_take] at h1
 by_cases hlt : i < l.length
 ·have hwi := wr1 (i := i) (by omega)
  simp [hlt, ]
  refine call_f (w_spec_VariableName l[i]) (by simp) rfl fun hs1 hh1 => ?_
  simp at hh1
  have h2 := varNm_len l[i]
  simp [hwi]
  refine ⟨by omega, ?_⟩
  exact back (i + 1) (by omega) (by omega) rfl (by simp <;> omega) (by simp [varsS_step hlt]) (by simp)
 ·have h3 := varsS_len l
  simp [hlt, List.take_of_length_le (show l.length <= i by omega)]
  omega
theorem w_impl_join (l : List (List UInt8)) (sep : List UInt8) (hw : strW sep.length l <= 4611686018427387904) : VC Tryz.prog 49 [.d (pS cStr l), .d (.str sep)] (fun _ r => r = .d (.str (joinB sep l))) := by
 refine VC.ofL EP s49 (by kernel_rfl) Tryz.func49 (by rfl) (by kernel_rfl) (by simp [Tryz.f49]) (by simp [Tryz.f49]) s49_ok fun B hl => ?_
 simp [pS, maxLen] at hl
 simp [Tryz.f49, ]
 refine loop_rule (X := Nat) (fun i => i <= l.length) (fun i => [(1, .d (.str sep)), (5, .d (.str (joinB sep (l.take i)))), (8, .d (.pl (l.map cStr))), (9, .d (.int .i64 l.length)), (10, .d (.int .i64 i))]) (fun _ => []) (fun i => l.length - i) 0 (by simp) (by simp [joinB]) (by simp) ?_
 intro i hs t m hi hh
 by_cases hlt : i < l.length
 ·have hwi := wr1 (i := i) (by omega)
  have h1 := joinB_len sep (l.take i)
  have h2 := strW_at (s := sep.length) hlt
  have hst := joinB_step (sep := sep) hlt
  by_cases h0 : i = 0
  ·subst h0
   have hwi0 : IntKind.i64.wrap 1 = 1 := by simpa using hwi
   have hst0 : joinB sep (l.take 1) = l[0] := by simpa [joinB] using hst
   have j0 : joinB sep [] = [] := rfl
   simp [hlt, hwi0, j0, ]
   refine ⟨by omega, ?_⟩
   exact back 1 (by omega) (by omega) rfl (by simp <;> omega) (by simp [hst0]) (by simp)
  ·have h0' : 0 < i := by omega
   simp only [h0, if_false] at hst
   simp [hlt, h0, h0', hwi, ]
   refine ⟨by omega, by omega, ?_⟩
   exact back (i + 1) (by omega) (by omega) rfl (by simp <;> omega) (by simp [hst]) (by simp)
 ·simp [hlt, List.take_of_length_le (show l.length <= i by omega)]
end
end Go.Proofs.YtaoaoijchijlcaaGreatDoor
namespace Go.Proofs.YtaoaoijchijlcaaGreatDoor
open Go.Vs Go.Proofs Go
set_option maxRecDepth 100000
set_option maxHeartbeats 1000000
section
attribute [local simp] plI_id plStr_id map_plI map_plStr pS cP cI cStr cU8 cB
theorem w_spec_l5Cut (s : List UInt8) (c : UInt8) (hb : s.length <= 1000000000) : VC Tryz.prog 91 [.d (.str s), .d (.int .u8 c.toNat)] (fun _ r => r = .d (pS cStr (cutB c s))) := by
 refine VC.ofL EP s91 (by kernel_rfl) Tryz.func91 (by rfl) (by kernel_rfl) (by simp [Tryz.f91]) (by simp [Tryz.f91]) s91_ok fun B hl => ?_
 simp [Tryz.f91, ]
 refine loop_rule (X := Nat × Nat × List (List UInt8)) (fun p => CutI c s p) (fun p => [(0, .d (.str s)), (1, .d (.int .u8 c.toNat)), (5, .own 8 0 p.2.2.length), (6, .d (.int .i64 p.1)), (7, .d (.int .i64 p.2.1))]) (fun p => [(8, some (.row 9 1 (p.2.2.map cStr)))]) (fun p => s.length - p.2.1) (0, 0, []) .zero (by simp) (by simp) ?_
 rintro ⟨f, i, out⟩ hs t m hI hh
 have hf := hI.fr
 have hi := hI.le
 have hol := hI.len
 simp only at hf hi hol
 have hwi := wr1 (i := i) (by omega)
 have hL : LenOk 16 (out.length + 1) := ⟨by omega, by simp only [maxLen]; omega⟩
 by_cases hlt : i < s.length
 ·by_cases e : s[i] = c
  ·have hn := hI.hit hlt e
   simp [hlt, e, hwi, hL, hf, hi, ]
   exact back (i + 1, i + 1, _) hn (by simp only; omega) rfl (by simp <;> omega) (by simp) (by simp [List.take_of_length_le])
  ·have hn := hI.miss hlt e
   have e' : ¬ s[i].toNat = c.toNat := fun h => e (UInt8.toNat_inj.1 h)
   simp [hlt, e, e', hwi, hL, ]
   exact back (f, i + 1, out) hn (by simp only; omega) rfl (by simp <;> omega) (by simp) (by simp)
 ·have hn := hI.done (by omega)
  have hil : i = s.length := by omega
  subst hil
  simp [hL, hf, ]
  rw [List.take_of_length_le (by simp), <- hn.1]; simp
end
end Go.Proofs.YtaoaoijchijlcaaGreatDoor
namespace Go.Proofs.YtaoaoijchijlcaaGreatDoor
open Go.Vs Go.Proofs Go
set_option maxRecDepth 100000
set_option maxHeartbeats 1000000
section
attribute [local simp] plI_id plStr_id map_plI map_plStr pS cP cI cStr
theorem e_spec_l7List (s : List UInt8) (hb : s.length <= 100000) : VC Tryz.prog 92 [.d (.str s)]
  (fun n r => ∃ y : Ints, r = .d (dSl cI y) /\ y.xs = lstV s /\ okS okI y /\ Good (cS cI y) (whS whI y) n /\ y.T = some (3, 1)) := by
 refine VC.of E s92 (by kernel_rfl) Tryz.func92 (by rfl) (by kernel_rfl) (by simp [Tryz.f92]) (by simp [Tryz.f92]) s92_ok fun B => ?_
 simp [Tryz.f92, s92_8, s92_8, ]
 have hlv := lstV_len s
 refine loop_rule (X := Nat) (fun i => i <= s.length) (fun i => [(0, .d (.str s)), (3, .own 6 0 (lstV (s.take i)).length), (4, .d (.int .i64 i))]) (fun i => [(6, some (.row 3 1 ((lstV (s.take i)).map cI)))]) (fun i => s.length - i) 0 (by simp) (by simp [lstV]) (by simp [lstV]) ?_
 intro i hs t m hi hh
 have hlt2 := lstV_len (s.take i)
 rw [List.length_take] at hlt2
 by_cases hlt : i < s.length
 ·have hwi := wr1 (i := i) (by omega)
  have hstp := lstV_step hlt
  obtain ⟨L, hL⟩ : ∃ L, L = lstV (s.take i) := ⟨_, rfl⟩
  rw [<- hL] at hstp hlt2 ⊢
  obtain ⟨c, hc⟩ : ∃ c, c = s[i] := ⟨_, rfl⟩
  rw [<- hc] at hstp
  refine anyQ fun Q => ?_
  simp [hlt, s92_8, ]
  refine loop_rule (X := Nat) (fun j => j <= 5) (fun j => [(0, .d (.str s)), (3, .own 6 0 (L ++ lstT c j).length), (4, .d (.int .i64 i)), (5, .d (.int .i64 j))]) (fun j => [(6, some (.row 3 1 ((L ++ lstT c j).map cI)))]) (fun j => 5 - j) 0 (by simp) (by simp [lstT, rangeI_zero]) (by simp [lstT, rangeI_zero]) ?_
  intro j hs2 t m hj hh2
  have hjl := lstT_len c j
  by_cases hj5 : j < 5
  ·have hwj := wr1 (i := j) (by omega)
   have hjz : (j : Int) < 5 := by omega
   have hs3 := lstT_succ c j
   refine anyQ fun Q => ?_
   have hsl : (s.drop i).take 1 = [c] := by rw [List.drop_eq_getElem_cons hlt, hc]; rfl
   have hL1 : LenOk 8 (L.length + (lstT c j).length + 1) := ⟨by omega, by simp only [maxLen]; omega⟩
   simp [hj5, hjz, hwi, s92_8, ]
   repeat' apply And.intro
   all_goals (try omega)
   all_goals
    refine call_f (w_spec_VariableName j) (by simp) rfl fun hs4 hh4 => ?_
    simp at hh4
    by_cases e : varNm j = [c]
    ·rw [if_pos e] at hs3
     simp [hj5, hjz, hwi, hwj, e, hsl, hL1, List.take_of_length_le, s92_8, ]
     exact back (j + 1) (by omega) (by omega) rfl (by simp <;> omega) (by simp [hs3]; omega) (by simp [hs3])
    ·rw [if_neg e, List.append_nil] at hs3
     simp [hj5, hjz, hwi, hwj, e, hsl, s92_8, ]
     exact back (j + 1) (by omega) (by omega) rfl (by simp <;> omega) (by simp [hs3]) (by simp [hs3])
  ·have hj' : j = 5 := by omega
   have hjz : ¬ (j : Int) < 5 := by omega
   subst hj'
   simp [hwi, s92_8, ]
   exact back (i + 1) (by omega) (by omega) rfl (by simp <;> omega) (by simp [hstp, lstT, lstB]) (by simp [hstp, lstT, lstB])
 ·simp [hlt, List.take_of_length_le (show s.length ≤ i by omega), s92_8, ]
  intro γ hs' h1 hg
  obtain ⟨q1, q2⟩ := gam_at hg (k := 6) (T := 3) (sz := 1) (es := (lstV s).map cI) (by simp)
  clear hg
  exact ⟨⟨γ 6, some (3, 1), lstV s⟩, by simp [dSl, List.take_of_length_le], rfl, ⟨by simp only [maxLen]; show (lstV s).length <= _; omega, fun _ _ => trivial⟩, good_ints (fun g hg => (q1 g hg).1) (by simpa using q2), rfl⟩
end
end Go.Proofs.YtaoaoijchijlcaaGreatDoor
namespace Go.Proofs.YtaoaoijchijlcaaGreatDoor
open Go.Vs Go.Proofs Go
set_option maxRecDepth 100000
set_option maxHeartbeats 1000000
section
attribute [local simp] plI_id plStr_id map_plI map_plStr pS cP cI cStr
theorem fmtA_len {a : PAtom} (h1 : a.rel.length <= 1000000) (h2 : a.vars.length <= 1000000) : (fmtA a).length <= 2000010 := by
 have := varsS_len a.vars
 simp only [fmtA, List.length_append, List.length_singleton]; omega
theorem w_spec_FormatQuery (q : PQuery) (hst : ∀ a ∈ q.atoms, a.rel.length <= maxLen) : VC Tryz.prog 93 [.agg ((eQuery q).map V.d)] (fun _ r => r = .d (.str (fmtQ q))) := by
 refine VC.ofL EP s93 (by kernel_rfl) Tryz.func93 (by rfl) (by kernel_rfl) (by simp [Tryz.f93]) (by simp [Tryz.f93]) s93_ok fun B hl => ?_
 obtain ⟨n, l, o⟩ := q
 simp only at hst
 have hF : fmtQ ⟨n, l, o⟩ = if queryOk ⟨n, l, o⟩ then ([40] ++ varsS o ++ [41]) ++ [61] ++ joinB [44] (l.map fmtA) else [] := rfl
 simp [Tryz.f93, s93_9, s93_9, eQuery]
 refine call_f (w_spec_IsValidQuery ⟨n, l, o⟩ hst) (by simp [eQuery]) rfl fun hs1 hh1 => ?_
 simp at hh1
 cases hq : queryOk ⟨n, l, o⟩
 ·rw [if_neg (by rw [hq]; simp)] at hF
  simp [hF, s93_9, eQuery]
 rw [if_pos hq] at hF
 have hqb := qok_small hq
 obtain ⟨hl4, ho5, hat⟩ := hqb
 simp only at hl4 ho5 hat
 have hvo := varsS_len o
 have hfl : ∀ a ∈ l, (fmtA a).length ≤ 2000010 := fun a ha => by
  have := hat a ha
  exact fmtA_len (by omega) (by omega)
 simp [s93_9, eQuery]
 refine call_f (w_spec_l7Vars o (by omega)) (by simp) rfl fun hs2 hh2 => ?_
 simp at hh2
 simp [s93_9, eQuery]
 refine ⟨by omega, ?_⟩
 obtain ⟨H, hH⟩ : ∃ H, H = ([40] ++ varsS o ++ [41]) ++ [61] := ⟨_, rfl⟩
 have hHl : H.length <= 100 := by rw [hH]; simp; omega
 refine loop_rule (X := Nat) (fun i => i <= l.length) (fun i => [(1, .ptr 1 0 0), (3, .d (.str (H ++ joinB [44] ((l.take i).map fmtA)))), (4, .d (.int .i64 i))]) (fun i => [(1, some (.box [.d (.int .i64 n), .d (.pl (l.map eAtom)), .d (.pl (o.map cI))]))]) (fun i => l.length - i) 0 (by simp) (by simp [joinB, hH]) (by simp) ?_
 intro i hs t m hi hh
 by_cases hlt : i < l.length
 ·have hwi := wr1 (i := i) (by omega)
  have hjl := joinB_len [44] ((l.take i).map fmtA)
  have hst := strW_map fmtA 1 2000010 (l.take i) fun a ha => hfl a (List.mem_of_mem_take ha)
  rw [List.length_take] at hst
  have hstp := joinB_step (sep := [44]) (l := l.map fmtA) (i := i) (by simpa using hlt)
  rw [show (l.map fmtA).take i = (l.take i).map fmtA from List.map_take.symm, List.getElem_map] at hstp
  have hw1 : IntKind.i64.wrap 1 = 1 := wrap64_of (by omega) (by omega)
  have hm := List.getElem_mem hlt
  obtain ⟨ar, av, hA⟩ : ∃ ar av, l[i] = ⟨ar, av⟩ := ⟨_, _, rfl⟩
  rw [hA] at hm hstp
  have hab := hat _ hm
  simp only at hab
  have hvl := varsS_len av
  obtain ⟨J, hJ⟩ : ∃ J, J = joinB [44] ((l.take i).map fmtA) := ⟨_, rfl⟩
  rw [<- hJ] at hstp hjl ⊢
  simp only [List.length_singleton] at hjl
  have hJl : J.length ≤ 10000000 := by
   have : (2000010 + 1) * min i l.length <= 2000011 * 4 := Nat.mul_le_mul (Nat.le_refl _) (by omega)
   omega
  refine anyQ fun Q => ?_
  by_cases h0 : i = 0
  ·subst h0
   simp [hlt, hA, eAtom, s93_9, eQuery]
   repeat' apply And.intro
   all_goals (try omega)
   all_goals
    refine call_f (w_spec_l7Vars av (by omega)) (by simp) rfl fun hs4 hh4 => ?_
    simp at hh4
    simp [hlt, hwi, hA, eAtom, s93_9, eQuery]
    repeat' apply And.intro
    all_goals (try omega)
    all_goals exact back (0 + 1) (by omega) (by omega) rfl (by simp <;> omega) (by simp [hstp, hw1, fmtA]) (by simp)
  ·have h0' : 0 < i := by omega
   simp [hlt, h0', hA, eAtom, s93_9, eQuery]
   repeat' apply And.intro
   all_goals (try omega)
   all_goals
    refine call_f (w_spec_l7Vars av (by omega)) (by simp) rfl fun hs4 hh4 => ?_
    simp at hh4
    simp [hlt, hwi, hA, eAtom, s93_9, eQuery]
    repeat' apply And.intro
    all_goals (try omega)
    all_goals exact back (i + 1) (by omega) (by omega) rfl (by simp <;> omega) (by simp [hstp, h0, fmtA]) (by simp)
 ·simp [hlt, hF, List.take_of_length_le (show l.length <= i by omega), hH, s93_9, eQuery]
end
end Go.Proofs.YtaoaoijchijlcaaGreatDoor
namespace Go.Proofs.YtaoaoijchijlcaaGreatDoor
open Go.Vs Go.Proofs Go
set_option maxRecDepth 100000
set_option maxHeartbeats 1000000
section
attribute [local simp] plI_id plStr_id map_plI map_plStr pS cP cI cStr
theorem plA_app (nm : List UInt8) (y : Ints) (l : List UInt8) (h1 : nm = (cutB 40 l).getD 0 []) (h2 : y.xs = lstV l) : plAtom ⟨nm, y⟩ = prsA l := by
 simp only [plAtom, prsA, plS, plStr_id, map_plI, h1, h2]
theorem seqAny2 {P : Program} {E : Md} {sc : Nat -> Tr} {a b : Code} {Q : Exit -> St -> Prop} {σ : St} (h : ∀ b', vwp P E sc (a.seq b') Q σ) : vwp P E sc (a.seq b) Q σ := h b
theorem copI_up {α β : Type} {c : α -> List D} {wh : α -> Prop} {ok : α -> Prop} {pl : α -> β} {l : List β} {B : Nat} {p : Nat × List α} {h h' : Nat} (H : CopI c wh ok pl l B p h) (hh : h <= h') : CopI c wh ok pl l B p h' :=
 ⟨H.le, H.pl, H.ok, ⟨H.good.nd, H.good.lo, fun g hg => Nat.lt_of_lt_of_le (H.good.hi g hg) hh, H.good.wh⟩⟩
theorem e_spec_ParseQuery (s : List UInt8) (hb : s.length <= 1000) : VC Tryz.prog 65 [.d (.str s)]
  (fun n v => ∃ y : Query, v = .tup [.agg ((cQuery y).map V.d), .d (.bool (prsB' s))] /\ plQuery y = prsP s /\ okQuery y /\ Good (cQuery y) (whQuery y) n /\ (∀ g, y.atoms.id = some g -> y.atoms.T = some (59, 2)) /\ (∀ g, y.out.id = some g -> y.out.T = some (3, 1))) := by
 refine VC.of E s65 (by kernel_rfl) Tryz.func65 (by rfl) (by kernel_rfl) (by simp [Tryz.f65]) (by simp [Tryz.f65]) s65_ok fun B => ?_
 have h0 : ∀ n : Nat, plQuery ⟨0, nilS, nilS⟩ = ⟨0, [], []⟩ ∧ okQuery ⟨0, nilS, nilS⟩ ∧ Good (cQuery ⟨0, nilS, nilS⟩) (whQuery ⟨0, nilS, nilS⟩) n := fun n =>
  ⟨by simp [plQuery, nilS, plS], ⟨trivial, ok_nilS, ok_nilS⟩, by simp [cQuery, cCnt, nilS, cS, cI, dSl, idsL, D.ids, idsLL], by simp [cQuery, cCnt, nilS, cS, cI, dSl, idsL, D.ids, idsLL], ⟨trivial, ⟨⟨by simp [nilS], by simp [nilS]⟩, by simp [nilS]⟩, ⟨⟨by simp [nilS], by simp [nilS]⟩, by simp [nilS]⟩⟩⟩
 simp [Tryz.f65, s65_10, s65_17, s65_10, s65_17, ]
 refine call_some (VC.track (w_spec_l5Cut s 61 (by omega)) (by simp) (by simp [V.pn])) (by simp) (by simp) fun n1 hs1 r1 hn1 hm1 hp1 hr1 => ?_
 obtain ⟨hq1, ht1⟩ := hp1
 obtain ⟨⟨wid, wT, w⟩, rfl, pw⟩ := rp_sl tk_Str hq1 ht1
 have pw : w = cutB 61 s := by simpa [plS] using pw
 simp at hn1
 have hB : prsB' s = (decide (w.length = 2) && decide (fmtQ (prsC s) = s) && decide (s ≠ [])) := by rw [pw]; rfl
 by_cases hw2 : w.length = 2
 case neg =>
  have hw2' : ¬ (w.length : Int) = 2 := by omega
  have hBf : prsB' s = false := by rw [hB]; simp [hw2]
  have hP : prsP s = ⟨0, [], []⟩ := by rw [prsP, if_neg (by rw [hBf]; simp)]
  simp [hw2, hw2', hBf, hP, dSl, cS, s65_10, s65_17, ]
  exact ⟨⟨0, nilS, nilS⟩, by simp [cQuery, cS, dSl, nilS], (h0 B).1, (h0 B).2.1, (h0 B).2.2, by simp [nilS], by simp [nilS]⟩
 obtain ⟨w0, w1, rfl⟩ : ∃ w0 w1, w = [w0, w1] := by
  match w, hw2 with
  | [a, b], _ => exact ⟨a, b, rfl⟩
 have hC : prsC s = ⟨prsM (cutB 44 w1), (cutB 44 w1).map prsA, lstV w0⟩ := by rw [prsC, <- pw]; rfl
 have hwl0 : w0.length <= 1000 := Nat.le_trans (cutB_mem (c := 61) (s := s) (by rw [<- pw]; simp)) hb
 have hwl1 : w1.length <= 1000 := Nat.le_trans (cutB_mem (c := 61) (s := s) (by rw [<- pw]; simp)) hb
 simp [dSl, cS, s65_10, s65_17, ]
 refine call_some (e_spec_l7List w0 (by omega)) (by simp) (by simp) fun n2 hs2 r2 hn2 hm2 hp2 hr2 => ?_
 obtain ⟨y0, rfl, p0, k0, G0, T0⟩ := hp2
 simp at hn2
 have u0 : ∀ g ∈ idsL (cS cI y0), g < hs2 := fun g hg => hr2 g (by rw [idsL_cS] at hg; exact hg)
 simp [dSl, cS, s65_10, s65_17, ]
 refine call_some (VC.track (w_spec_l5Cut w1 44 (by omega)) (by simp) (by simp [V.pn])) (by simp) (by simp) fun n3 hs3 r3 hn3 hm3 hp3 hr3 => ?_
 obtain ⟨hq3, ht3⟩ := hp3
 obtain ⟨⟨cid, cT, ls⟩, rfl, pl3⟩ := rp_sl tk_Str hq3 ht3
 have pl3 : ls = cutB 44 w1 := by simpa [plS] using pl3
 have hll : ls.length <= 1001 := by rw [pl3]; have := cutB_len 44 w1; omega
 have hlm : ∀ x ∈ ls, x.length <= 1000 := fun x hx => by rw [pl3] at hx; exact Nat.le_trans (cutB_mem hx) hwl1
 rw [<- pl3] at hC
 simp at hn3
 simp [dSl, cS, s65_17, ]
 refine loop_ruleL (X := Nat × List Atom) (CopI cAtom whAtom okAtom plAtom (ls.map prsA) hs3) (fun p => [(0, .d (.str s)), (2, .ptr 2 0 0), (3, .d (.bool false)), (5, .ptr 5 0 0), (6, .d (.sl cid cT (ls.map cStr))), (7, .d (.int .i64 p.1))]) (fun p => [(2, some (.box [.d (.int .i64 0), .d (.sl none none []), .d (.sl none none [])])), (5, some (.box [.d (.int .i64 (prsM (ls.take p.1))), .own 900 0 p.2.length, .d (dSl cI y0)])), (900, some (.row 59 2 (p.2.map cAtom)))]) (fun p => ls.length - p.1) ?_ ?_
 ·refine (lead_box 5 1 900 59 2 [.d (.int .i64 0), .d (.sl none none []), .d (dSl cI y0)] (by omega) (by omega) (by omega) (by simp [dSl]) rfl).bind ?_
  rintro _ rfl
  exact Lead.of ⟨(0, []), .zero, rfl, rfl, Nat.le_refl _, by simp, by simp [dSl, prsM]⟩
 rintro ⟨i, ys⟩ hs t m hI hh
 have hle := hI.le
 have hyl := hI.len
 simp only [List.length_map] at hle
 by_cases hlt : i < ls.length
 ·have hwi := wr1 (i := i) (by omega)
  have hL : LenOk 40 (ys.length + 1) := ⟨by omega, by simp only [maxLen]; omega⟩
  obtain ⟨li, hli⟩ : ∃ li, li = ls[i] := ⟨_, rfl⟩
  have hlil : li.length <= 1000 := by rw [hli]; exact hlm _ (List.getElem_mem hlt)
  have hns := prsM_step hlt
  have hn5 := prsM_in (ls.take i)
  rw [<- hli] at hns
  refine anyQ2 fun Q => ?_
  simp [hlt, <- hli, dSl, s65_17, ]
  refine call_some (VC.track (w_spec_l5Cut li 40 (by omega)) (by simp) (by simp [V.pn])) (by simp) (by simp) fun n4 hs4 r4 hn4 hm4 hp4 hr4 => ?_
  obtain ⟨hq4, ht4⟩ := hp4
  obtain ⟨⟨did, dT, ds⟩, rfl, pd⟩ := rp_sl tk_Str hq4 ht4
  have pd : ds = cutB 40 li := by simpa [plS] using pd
  obtain ⟨d0, dr, rfl⟩ : ∃ d0 dr, ds = d0 :: dr := by
   have := (cutA_len 40 li []).2
   rw [pd]
   cases h : cutB 40 li with
   | nil => exact absurd h this
   | cons a r => exact ⟨a, r, rfl⟩
  have hd0 : d0.length <= 1000 := Nat.le_trans (cutB_mem (c := 40) (s := li) (by rw [<- pd]; simp)) hlil
  have hpa : ∀ y : Ints, y.xs = lstV li -> plAtom ⟨d0, y⟩ = prsA li := fun y h => plA_app d0 y li (by rw [<- pd]; rfl) h
  simp at hn4
  simp [hlt, <- hli, dSl, cS, s65_17, ]
  refine cutT (X := Ints) (fun y hs' => y.xs = lstV li /\ okS okI y /\ (∃ m, hs4 <= m /\ m <= hs' /\ Good (cAtom ⟨d0, y⟩) (whAtom ⟨d0, y⟩) m) /\ ∀ g ∈ idsL (cAtom ⟨d0, y⟩), g < hs') (fun _ => [(0, .d (.str s)), (2, .ptr 2 0 0), (3, .d (.bool false)), (5, .ptr 5 0 0), (6, .d (.sl cid cT (ls.map cStr))), (7, .d (.int .i64 i))]) (fun y => [(2, some (.box [.d (.int .i64 0), .d (.sl none none []), .d (.sl none none [])])), (5, some (.box [.d (.int .i64 (prsM (ls.take i))), .own 900 0 (ys ++ [(⟨d0, y⟩ : Atom)]).length, .d (dSl cI y0)])), (900, some (.row 59 2 ((ys ++ [(⟨d0, y⟩ : Atom)]).map cAtom)))]) ?_ ?_
  ·intro K hK
   simp [hlt, <- hli, dSl, cS, s65_10, ]
   repeat' apply And.intro
   all_goals
    refine call_some (e_spec_l7List li (by omega)) (by simp) (by simp) fun n5 hs5 r5 hn5' hm5 hp5 hr5 => ?_
    obtain ⟨y, rfl, p5, k5, G5, T5⟩ := hp5
    simp at hn5'
    have u5 : ∀ g ∈ idsL (cAtom ⟨d0, y⟩), g < hs5 := fun g hg => hr5 g (by
     rw [cAtom, idsL_app] at hg
     have := (List.mem_append.1 hg).resolve_left (by simp [cStr, idsL, D.ids])
     rw [idsL_cS] at this; exact this)
    have Ga : Good (cAtom ⟨d0, y⟩) (whAtom ⟨d0, y⟩) n5 := Good.app (good_Str n5 d0) G5 fun g h h' => by simp [cStr, idsL, D.ids] at h
    simp [hL, hlt, <- hli, dSl, cS, s65_10, ]
    exact hK y _ ⟨p5, k5, ⟨n5, by omega, hm5, Ga⟩, u5⟩ rfl rfl (by simp <;> omega) (by simp) (by simp [dSl, cAtom, cStr, cS])
  rintro y hs5 t m ⟨py, ky, ⟨m5, hm5, hm5', Ga⟩, uy⟩ hh5
  obtain ⟨ys2, hys2⟩ : ∃ ys2, ys2 = ys ++ [(⟨d0, y⟩ : Atom)] := ⟨_, rfl⟩
  have hI2 := hI.snoc (by simpa using hlt) (by rw [hpa y py, List.getElem_map, <- hli]) (show okAtom (⟨d0, y⟩ : Atom) from ⟨show d0.length <= maxLen by simp only [maxLen]; omega, ky⟩) ⟨by omega, by omega⟩ hm5' Ga uy
  rw [<- hys2] at hI2 ⊢
  obtain ⟨n0, hn0⟩ : ∃ n0, n0 = prsM (ls.take i) := ⟨_, rfl⟩
  rw [<- hn0] at hns hn5 ⊢
  simp [dSl, cS, s65_17, ]
  refine loop_rule (X := Nat) (fun k => k <= li.length) (fun k => [(0, .d (.str s)), (2, .ptr 2 0 0), (3, .d (.bool false)), (5, .ptr 5 0 0), (6, .d (.sl cid cT (ls.map cStr))), (7, .d (.int .i64 i)), (9, .d (.int .i64 k))]) (fun k => [(2, some (.box [.d (.int .i64 0), .d (.sl none none []), .d (.sl none none [])])), (5, some (.box [.d (.int .i64 (vcS n0 (li.take k))), .own 900 0 ys2.length, .d (dSl cI y0)])), (900, some (.row 59 2 (ys2.map cAtom)))]) (fun k => li.length - k) 0 (by simp) (by simp) (by simp [dSl, vcS]) ?_
  intro k hs6 t m hk hh6
  by_cases hkl : k < li.length
  ·have hwk := wr1 (i := k) (by omega)
   have hst := vcS_step (n := n0) hkl
   have hin := vcS_in (li.take k) hn5
   obtain ⟨nk, hnk⟩ : ∃ nk, nk = vcS n0 (li.take k) := ⟨_, rfl⟩
   obtain ⟨c, hc⟩ : ∃ c, c = li[k] := ⟨_, rfl⟩
   rw [<- hnk, <- hc] at hst
   rw [<- hnk] at hin ⊢
   have hsl : (li.drop k).take 1 = [c] := by rw [List.drop_eq_getElem_cons hkl, hc]; rfl
   refine anyQ fun Q => ?_
   simp [hlt, <- hli, hkl, dSl, cS, s65_10, s65_17, ]
   refine loop_rule (X := Int × Int) (fun p => VcI c nk p.1 p.2) (fun p => [(0, .d (.str s)), (2, .ptr 2 0 0), (3, .d (.bool false)), (5, .ptr 5 0 0), (6, .d (.sl cid cT (ls.map cStr))), (7, .d (.int .i64 i)), (9, .d (.int .i64 k)), (10, .d (.int .i64 p.1))]) (fun p => [(2, some (.box [.d (.int .i64 0), .d (.sl none none []), .d (.sl none none [])])), (5, some (.box [.d (.int .i64 p.2), .own 900 0 ys2.length, .d (dSl cI y0)])), (900, some (.row 59 2 (ys2.map cAtom)))]) (fun p => (5 - p.1).toNat) (nk, nk) (VcI.zero hin) (by simp) (by simp [dSl]) ?_
   rintro ⟨v, cur⟩ hs7 t m hV hh7
   have hv5 := hV.le
   simp only at hv5
   by_cases hv : v < 5
   ·have hn := hV.step hv
    have hwv : IntKind.i64.wrap (v + 1) = v + 1 := wrap64_of (by omega) (by omega)
    refine anyQ fun Q => ?_
    simp [hlt, <- hli, hkl, hwk, hv, dSl, cS, s65_10, s65_17, ]
    repeat' apply And.intro
    all_goals (try omega)
    all_goals
     refine call_f (w_spec_VariableName v) (by simp) rfl fun hs8 hh8 => ?_
     simp at hh8
     by_cases e : varNm v = [c]
     ·rw [if_pos e] at hn
      simp [hlt, <- hli, hkl, hwk, hv, hwv, e, hsl, dSl, cS, s65_10, s65_17, ]
      exact back (_, _) hn (by simp only; omega) rfl (by simp <;> omega) (by simp) (by simp [dSl])
     ·rw [if_neg e] at hn
      simp [hlt, <- hli, hkl, hwk, hv, hwv, e, hsl, dSl, cS, s65_10, s65_17, ]
      exact back (_, _) hn (by simp only; omega) rfl (by simp <;> omega) (by simp) (by simp [dSl])
   ·have hd := hV.done hv
    simp [hv, hwk, dSl, cS, s65_10, s65_17, ]
    exact back (k + 1) (by omega) (by omega) rfl (by simp <;> omega) (by simp) (by simp [dSl, hst, hd])
  ·have hkl' : k = li.length := by omega
   subst hkl'
   simp [hlt, <- hli, hwi, dSl, cS, s65_10, s65_17, ]
   exact back2 (i + 1, ys2) (copI_up hI2 (by simp <;> omega)) (by simp only; omega) rfl (by simp <;> omega) (by simp) (by simp [dSl, hns])
 ·have hil : i = ls.length := by omega
  have hall := hI.all (by simp; omega)
  rw [hil, List.take_of_length_le (Nat.le_refl _)]
  have hFq : ∀ g : Option Nat, plQuery ⟨prsM ls, ⟨g, some (59, 2), ys⟩, y0⟩ = prsC s := fun g => by
   rw [hC]
   simp only [plQuery, plS, hall, map_plI, p0, plI]
  have hsz : ∀ a ∈ (prsC s).atoms, a.rel.length ≤ maxLen := fun a ha => by
   rw [hC] at ha
   simp only [List.mem_map] at ha
   obtain ⟨x, hx, rfl⟩ := ha
   have := hlm x hx
   have h2 : ((cutB 40 x).getD 0 []).length ≤ x.length := by
    have h3 := (cutA_len 40 x []).2
    cases h : cutB 40 x with
    | nil => simp
    | cons a r => exact cutB_mem (c := 40) (s := x) (by rw [h]; simp)
   simp only [prsA, maxLen]; omega
  have hpA : hpLL (ys.map cAtom) = false := hpLL_map (fun a => by simp) ys
  have hBe : prsB' s = (decide (fmtQ (prsC s) = s) && decide (s ≠ [])) := by rw [hB]; simp
  refine seqAny2 fun b' => ?_
  simp [dSl, cS, hil, s65_10, s65_17, ]
  refine call_own (post := fun _ r => r = .d (.str (fmtQ (prsC s)))) (by simp) (fun γ n hn hg => ⟨[.agg ((cQuery ⟨prsM ls, ⟨γ 900, some (59, 2), ys⟩, y0⟩).map V.d)], by simp [hpA, cQuery, cS, dSl, List.take_of_length_le], ?_⟩) (by rintro _ _ rfl; simp [V.ids, D.ids, V.hp, D.hp]) fun n9 hs9 r9 hn9 hm9 hp9 hr9 => ?_
  ·refine (w_spec_FormatQuery (prsC s) hsz).er ?_
   simp only [rpL, rp, rpL_d, Option.map_some, er_cQuery, hFq]
  obtain rfl := hp9
  replace hn9 : hs <= n9 := hn9
  have fin : ∀ (γ : Nat → Option Nat) (hs' : Nat) (σ : St), σ.B = B → σ.m 900 = some (.row 59 2 (ys.map cAtom)) → σ.m 5 = some (.box [.d (.int .i64 (prsM ls)), .own 900 0 ys.length, .d (.sl y0.id y0.T (y0.xs.map cI))]) → Gam σ γ hs' → plQuery ⟨prsM ls, ⟨γ 900, some (59, 2), ys⟩, y0⟩ = prsC s ∧ okQuery ⟨prsM ls, ⟨γ 900, some (59, 2), ys⟩, y0⟩ ∧ Good (cQuery ⟨prsM ls, ⟨γ 900, some (59, 2), ys⟩, y0⟩) (whQuery ⟨prsM ls, ⟨γ 900, some (59, 2), ys⟩, y0⟩) B := fun γ hs' σ hσB hm9 hm5 hg => by
   obtain ⟨q1, q2⟩ := gam_at hg hm9
   rw [hσB] at q1
   have q3 := gam_row hg hm9
   have qf : ∀ g, γ 900 = some g → g ∉ (dSl cI y0).ids := fun g hγ => by
    have hb := (hg.fr 900 59 2 _ g hm9 hγ).1.box 5 _ hm5
    simpa [V.ids, idsVL, D.ids, idsLL, dSl] using hb
   clear hg
   have hG := hI.good
   have K2 : Good (cS cAtom ⟨γ 900, some (59, 2), ys⟩) (whS whAtom ⟨γ 900, some (59, 2), ys⟩) B := good_row (fun g hg => (q1 g hg).1) (by simpa using q2) q3 ⟨hG.nd, fun g hg => Nat.le_trans (by omega) (hG.lo g hg)⟩ hG.wh
   refine ⟨hFq _, ⟨trivial, ⟨by simp only [maxLen]; show ys.length <= _; omega, hI.ok⟩, k0⟩, ?_⟩
   have K1 := Good.app (good_I B (prsM ls)) K2 (fun g h h' => by simp [cI, idsL, D.ids] at h)
   have K := Good.app K1 (G0.le (show B ≤ n2 by omega)) (fun g h h' => by
    have h0 := u0 g h'
    rw [idsL_app] at h
    rcases List.mem_append.1 h with h | h
    ·simp [cI, idsL, D.ids] at h
    ·rw [idsL_cS] at h h'
     simp only [dSl, D.ids, List.mem_append] at h
     rcases h with h | h
     ·exact qf g (by cases hk : γ 900 with
      | none => rw [hk] at h; simp at h
      | some z => rw [hk] at h; simp at h; rw [h]) h'
     ·have := hG.lo g h; omega)
   exact ⟨K.nd, K.lo, K.wh.1.1, K.wh.1.2, K.wh.2⟩
  by_cases hf : fmtQ (prsC s) = s
  case neg =>
   have hBf : prsB' s = false := by rw [hBe]; simp [hf]
   have hP : prsP s = ⟨0, [], []⟩ := by rw [prsP, if_neg (by rw [hBf]; simp)]
   simp [hf, hBf, hP, dSl, cS, s65_10, s65_17, ]
   exact ⟨⟨0, nilS, nilS⟩, by simp [cQuery, cS, dSl, nilS], (h0 B).1, (h0 B).2.1, (h0 B).2.2, by simp [nilS], by simp [nilS]⟩
  by_cases hs0 : s = []
  ·have hBf : prsB' s = false := by rw [hBe]; simp [hs0]
   have hP : prsP s = ⟨0, [], []⟩ := by rw [prsP, if_neg (by rw [hBf]; simp)]
   have hf' := eq_true hf
   have hs0' := eq_true hs0
   simp [hf', hs0', hBf, hP, dSl, cS, s65_10, s65_17, ]
   exact ⟨⟨0, nilS, nilS⟩, by simp [cQuery, cS, dSl, nilS], (h0 B).1, (h0 B).2.1, (h0 B).2.2, by simp [nilS], by simp [nilS]⟩
  have hBf : prsB' s = true := by rw [hBe]; simp [hs0, hf]
  have hP : prsP s = prsC s := by rw [prsP, if_pos hBf]
  have hf' := eq_true hf
  have hs0' := eq_false hs0
  simp [hf', hs0', hBf, hP, dSl, cS, s65_10, s65_17, ]
  intro γ hs' h1' hg
  have hfin := fin γ hs' _ rfl (by simp) (by simp) hg
  clear hg
  exact ⟨⟨prsM ls, ⟨γ 900, some (59, 2), ys⟩, y0⟩, by simp [cQuery, cS, dSl, hpA, List.take_of_length_le], hfin.1, hfin.2.1, hfin.2.2, fun _ _ => rfl, fun _ _ => T0⟩
end
end Go.Proofs.YtaoaoijchijlcaaGreatDoor
namespace Go.Proofs.YtaoaoijchijlcaaGreatDoor
open Go.Vs Go.Proofs Go
set_option maxRecDepth 100000
set_option maxHeartbeats 1000000
structure QryC (tA tI : Nat) (b : Sl Int) (n : Nat) (r : V) (cs : List V) : Prop where
 ex : ∃ (c' : Nat × Int) (y : Query), r = .agg ((cQuery y).map V.d) /\ okQuery y /\ Good (cQuery y) (whQuery y) n /\ queryOk (plQuery y) = true /\ smallQ (plQuery y) /\ ((∀ g, y.atoms.id = some g -> y.atoms.T = some (tA, 2)) /\ (∀ g, y.out.id = some g -> y.out.T = some (tI, 1))) /\ cs = (curD b c').map V.d /\ curO b c'
section
attribute [local simp] pS dSl cP cI cW
theorem w_spec_l7Query (b : Sl Int) (c : Nat × Int) (hb : b.xs.length <= 1048576) (hc : curO b c) : VX Tryz.prog 64 [] [.ptr 1000 0 0] (some ((curD b c).map V.d)) (fun n r cs _ => QryC 59 3 b n r cs) := by
 refine VX.of E s64 (by kernel_rfl) Tryz.func64 (by rfl) (by kernel_rfl) (by simp [Tryz.f64]) (by simp [Tryz.f64]) s64_ok ?_ ?_ fun B hB => ?_
 ·simp
 ·rintro cs h
  cases h
  simp [curD]
 simp [Tryz.f64, s64_14, s64_14, curD]
 refine call_curK c E89 (w_spec_l1Pick b c knownQ hb hc (by simp [knownQ]) (by simp [knownQ])) (by simp) (by simp [curD]) (by simp [knownQ, cStr]) fun r0 c0 hs0 hh0 hq0 hl0 o0 => ?_
 obtain ⟨s, rfl, hs⟩ := hq0
 have hsl := known_len s hs
 have hB0 : B <= hs0 := hh0
 simp [s64_14, curD]
 refine call_some (e_spec_ParseQuery s (by omega)) (by simp) (by simp) fun n1 hs1 r1 hn1 hm1 hp1 hr1 => ?_
 obtain ⟨q, rfl, pq, kq, Gq, TA, TI⟩ := hp1
 have hn1' : hs0 <= n1 := hn1
 have okq := known_ok s hs
 have smq := known_small s hs
 rw [<- pq] at okq smq
 obtain ⟨qn, ⟨qaid, qaT, qa⟩, ⟨qoid, qoT, qo⟩⟩ := q
 have hfin : ∀ c' : Nat × Int, curO b c' -> QryC 59 3 b B (.agg ((cQuery ⟨qn, ⟨qaid, qaT, qa⟩, ⟨qoid, qoT, qo⟩⟩).map V.d)) ((curD b c').map V.d) := fun c' ho => ⟨⟨c', _, rfl, kq, Gq.le (by omega), okq, smq, ⟨TA, TI⟩, rfl, ho⟩⟩
 simp [cQuery, cS, s64_14, curD]
 refine call_cur c0 E66 (w_spec_l1Once b c0 3 hb o0 (by omega)) (by simp) (by simp [curD]) (by simp) (by simp) fun r2 c2 hs2 hh2 hq2 hl2 o2 => ?_
 obtain ⟨u, rfl⟩ := hq2
 have hh2' : hs1 <= hs2 := hh2
 cases u
 ·simp [vendX, cQuery, cS, s64_14, curD]
  intro γ hs' h1 hg
  clear hg
  simpa [cQuery, cS, curD] using hfin c2 o2
 simp [cQuery, cS, s64_14, curD]
 refine call_cur c2 E90 (w_spec_l1Below b c2 4 hb o2 (by omega)) (by simp) (by simp [curD]) (by simp) (by simp) fun r3 c3 hs3 hh3 hq3 hl3 o3 => ?_
 obtain ⟨N, rfl, N0, N1, _⟩ := hq3
 have N1 := N1 (by omega)
 have hh3' : hs2 <= hs3 := hh3
 have hwN : IntKind.i64.wrap (1 + N) = 1 + N := wrap64_of (by omega) (by omega)
 simp [hwN, s64_14, curD]
 refine call_cur c3 E90 (w_spec_l1Below b c3 4 hb o3 (by omega)) (by simp) (by simp [curD]) (by simp) (by simp) fun r4 c4 hs4 hh4 hq4 hl4 o4 => ?_
 obtain ⟨M, rfl, M0, M1, _⟩ := hq4
 have M1 := M1 (by omega)
 have hh4' : hs3 <= hs4 := hh4
 obtain ⟨M, rfl⟩ : ∃ k : Nat, M = k := ⟨M.toNat, by omega⟩
 have hwM : IntKind.i64.wrap (1 + (M : Int)) = ((M + 1 : Nat) : Int) := by rw [wrap64_of (by omega) (by omega)]; omega
 obtain ⟨N', hN'⟩ : ∃ N' : Int, N' = 1 + N := ⟨_, rfl⟩
 simp [hwM, <- hN', cQuery, cS, curD]
 refine loop_ruleL (X := (Nat × Int) × List Atom × Nat) (fun p h => curO b p.1 /\ p.2.1.length + p.2.2 <= 4 /\ GoodL cAtom whAtom B h p.2.1 /\ ∀ y ∈ p.2.1, okAtom y) (fun p => [(0, .ptr 1000 0 0), (2, .ptr 2 0 0), (4, .ptr 4 0 0), (6, .ptr 6 0 0), (7, .d (.int .i64 p.2.2))]) (fun p => [(1000, some (.box ((curD b p.1).map V.d))), (2, some (.box [.d (.int .i64 0), .d (.sl none none []), .d (.sl none none [])])), (4, some (.box ((cQuery ⟨qn, ⟨qaid, qaT, qa⟩, ⟨qoid, qoT, qo⟩⟩).map V.d))), (6, some (.box [.d (.int .i64 N'), .own 900 0 p.2.1.length, .d (.sl none none [])])), (900, some (.row 59 2 (p.2.1.map cAtom)))]) (fun p => p.2.2) ?_ ?_
 ·refine (lead_box 6 1 900 59 2 [.d (.int .i64 N'), .d (.sl none none []), .d (.sl none none [])] (by omega) (by omega) (by omega) (by simp) rfl).bind ?_
  rintro _ rfl
  exact Lead.of ⟨(c4, [], M + 1), ⟨o4, by simp; omega, GoodL.nil, by simp⟩, rfl, rfl, Nat.le_refl _, by simp, by simp [curD, cQuery, cS]⟩
 rintro ⟨c5, ys, k⟩ hs t m ⟨o5, hyl, hG, hyk⟩ hh
 simp only at o5 hyl hG hyk
 have hh' : hs4 <= hs := hh
 cases k with
 | succ k =>
   obtain ⟨u, hu⟩ : ∃ u : Nat, u = k + 1 := ⟨_, rfl⟩
   have hup : 0 < u := by omega
   have hwm : IntKind.i64.wrap ((u : Int) - 1) = k := by rw [wrap64_of (by omega) (by omega)]; omega
   have hL : LenOk 40 (ys.length + 1) := ⟨by omega, by simp only [maxLen]; omega⟩
   rw [<- hu] at hyl ⊢
   refine anyQ2 fun Q => ?_
   simp [hup, cQuery, cS, curD, ]
   refine call_cur c5 E90 (w_spec_l1Below b c5 5 hb o5 (by omega)) (by simp) (by simp [curD]) (by simp) (by simp) fun r6 c6 hs6 hh6 hq6 hl6 o6 => ?_
   obtain ⟨x, rfl, x0, x1, _⟩ := hq6
   have x1 := x1 (by omega)
   have hh6' : hs <= hs6 := hh6
   obtain ⟨j, rfl⟩ : ∃ j : Nat, x = j := ⟨x.toNat, by omega⟩
   have hj : j < nms.length := by rw [nms_len]; omega
   have hj5 : j < 5 := by omega
   obtain ⟨nm, hnm⟩ : ∃ nm, nm = nms[j]'hj := ⟨_, rfl⟩
   have hnl : nm.length <= 10 := by rw [hnm]; exact nms_one _ (List.getElem_mem hj)
   have eN : [[D.str [114]], [D.str [115]], [D.str [116]], [D.str [117]], [D.str [118]]] = nms.map cStr := rfl
   obtain ⟨M2, hM2⟩ : ∃ M2 : Nat, IntKind.i64.wrap (2 + IntKind.i64.wrap ((j : Int) / 4)) = M2 ∧ M2 ≤ 3 := by
    have h5 : j = 0 \/ j = 1 \/ j = 2 \/ j = 3 \/ j = 4 := by omega
    rcases h5 with rfl | rfl | rfl | rfl | rfl
    ·exact ⟨2, by decide, by omega⟩
    ·exact ⟨2, by decide, by omega⟩
    ·exact ⟨2, by decide, by omega⟩
    ·exact ⟨2, by decide, by omega⟩
    ·exact ⟨3, by decide, by omega⟩
   obtain ⟨hM2, hM3⟩ := hM2
   simp [eN, hj, hj5, <- hnm, hM2, nms_len, cStr, cQuery, cS, curD, ]
   refine loop_ruleL (X := (Nat × Int) × List Int × Nat) (fun p h => (curO b p.1 /\ p.2.1.length + p.2.2 <= 3)) (fun p => [(0, .ptr 1000 0 0), (2, .ptr 2 0 0), (4, .ptr 4 0 0), (6, .ptr 6 0 0), (7, .d (.int .i64 u)), (9, .ptr 9 0 0), (10, .d (.int .i64 p.2.2))]) (fun p => [(1000, some (.box ((curD b p.1).map V.d))), (2, some (.box [.d (.int .i64 0), .d (.sl none none []), .d (.sl none none [])])), (4, some (.box ((cQuery ⟨qn, ⟨qaid, qaT, qa⟩, ⟨qoid, qoT, qo⟩⟩).map V.d))), (6, some (.box [.d (.int .i64 N'), .own 900 0 ys.length, .d (.sl none none [])])), (900, some (.row 59 2 (ys.map cAtom))), (9, some (.box [.d (.str nm), .own 901 0 p.2.1.length])), (901, some (.row 3 1 (p.2.1.map cI)))]) (fun p => p.2.2) ?_ ?_
   ·refine (lead_box 9 1 901 3 1 [.d (.str nm), .d (.sl none none [])] (by omega) (by omega) (by omega) (by simp) rfl).bind ?_
    rintro _ rfl
    exact Lead.of ⟨(c6, [], M2), ⟨o6, by simp; omega⟩, rfl, rfl, Nat.le_refl _, by simp, by simp [curD, cQuery, cS]⟩
   rintro ⟨c7, vs, k2⟩ hs7 t m ⟨o7, hvl⟩ hh7
   simp only at o7 hvl
   have hh7' : hs6 <= hs7 := hh7
   cases k2 with
   | succ k2 =>
     obtain ⟨u2, hu2⟩ : ∃ u2 : Nat, u2 = k2 + 1 := ⟨_, rfl⟩
     have hup2 : 0 < u2 := by omega
     have hwm2 : IntKind.i64.wrap ((u2 : Int) - 1) = k2 := by rw [wrap64_of (by omega) (by omega)]; omega
     have hL2 : LenOk 8 (vs.length + 1) := ⟨by omega, by simp only [maxLen]; omega⟩
     rw [<- hu2] at hvl ⊢
     refine anyQ2 fun Q => ?_
     simp [hup2, cQuery, cS, curD, ]
     refine cutT (X := (Nat × Int) × Int) (fun p _ => curO b p.1) (fun _ => [(0, .ptr 1000 0 0), (2, .ptr 2 0 0), (4, .ptr 4 0 0), (6, .ptr 6 0 0), (7, .d (.int .i64 u)), (9, .ptr 9 0 0), (10, .d (.int .i64 u2))]) (fun p => [(1000, some (.box ((curD b p.1).map V.d))), (2, some (.box [.d (.int .i64 0), .d (.sl none none []), .d (.sl none none [])])), (4, some (.box ((cQuery ⟨qn, ⟨qaid, qaT, qa⟩, ⟨qoid, qoT, qo⟩⟩).map V.d))), (6, some (.box [.d (.int .i64 N'), .own 900 0 ys.length, .d (.sl none none [])])), (900, some (.row 59 2 (ys.map cAtom))), (9, some (.box [.d (.str nm), .own 901 0 (vs ++ [p.2]).length])), (901, some (.row 3 1 ((vs ++ [p.2]).map cI)))]) ?_ ?_
     ·intro K hK
      simp [hup2, cQuery, cS, curD, s64_14, ]
      repeat' apply And.intro
      all_goals
       refine call_cur c7 E90 (w_spec_l1Below b c7 N' hb o7 (by omega)) (by simp) (by simp [curD]) (by simp) (by simp) fun r8 c8 hs8 hh8 hq8 hl8 o8 => ?_
       obtain ⟨v, rfl, _, _, _⟩ := hq8
       simp [hL2, hup2, List.take_of_length_le, cQuery, cS, curD, s64_14, ]
       exact hK (c8, v) _ o8 rfl rfl (by simpa using hh8) (by simp) (by simp [curD, cQuery, cS])
     rintro ⟨c8, v⟩ hs8 t m o8 hh8
     simp only at o8
     simp [hwm2, cQuery, cS, curD, ]
     exact back2 (c8, vs ++ [v], k2) ⟨o8, by simp; omega⟩ (by simp only; omega) rfl (by simp <;> omega) (by simp) (by simp [curD, cQuery, cS])
   | zero =>
     have hpI : hpLL (vs.map cI) = false := hpLL_mapI _
     simp [cQuery, cS, curD, ]
     rw [w_bs1 (k' := 901) (ks := []) _ _ _ (by simp) (by simp)]
     intro γ hs8 h1 hg
     simp only at h1
     obtain ⟨q1, q2⟩ := gam_at hg (k := 901) (T := 3) (sz := 1) (es := vs.map cI) (by simp)
     have q3 := gam_row2 hg (k := 901) (T := 3) (sz := 1) (es := vs.map cI) (k2 := 900) (T2 := 59) (sz2 := 2) (es2 := ys.map cAtom) (by simp) (by simp)
     clear hg
     have hid : ∀ L : List Int, idsLL (L.map cI) = [] := fun L => by simp
     simp [vpre, vnext, veff, vval, isPure, St.frzs, St.frz, Vs.frz, hpI, hL, hwm, List.take_of_length_le]
     have hgi : Good (cS cI (⟨γ 901, some (3, 1), vs⟩ : Ints)) (whS whI ⟨γ 901, some (3, 1), vs⟩) B := good_ints (fun g hg => (q1 g hg).1) (by simpa using q2)
     have hy : ∀ g, g ∈ idsL (cAtom ⟨nm, ⟨γ 901, some (3, 1), vs⟩⟩) → γ 901 = some g := fun g hg => by
      rw [cAtom, idsL_app] at hg
      have hg := (List.mem_append.1 hg).resolve_left (by simp [cStr, idsL, D.ids])
      rw [idsL_cS] at hg
      rcases mem_sl_ids.1 hg with h | h
      ·exact h
      ·simp only at h; rw [hid] at h; simp at h
     have hGa : Good (cAtom ⟨nm, ⟨γ 901, some (3, 1), vs⟩⟩) (whAtom ⟨nm, ⟨γ 901, some (3, 1), vs⟩⟩) B := Good.app (good_Str B nm) hgi fun g h h' => by simp [cStr, idsL, D.ids] at h
     refine back2 (c7, ys ++ [⟨nm, ⟨γ 901, some (3, 1), vs⟩⟩], k) ⟨o7, by simp; omega, ?_, ?_⟩ (by simp only; omega) rfl (by simp <;> omega) (by simp) (by simp [curD, cAtom, cStr, cQuery, cS, List.take_of_length_le])
     ·exact GoodL.snoc2 hG (by simp <;> omega) hGa (fun g hg => q3 g (hy g hg)) (fun g hg => (q1 g (hy g hg)).2)
     ·intro z hz
      rcases List.mem_append.1 hz with hz | hz
      ·exact hyk z hz
      ·rw [List.mem_singleton.1 hz]
       exact ⟨show nm.length <= maxLen by simp only [maxLen]; omega, by show vs.length <= maxLen; simp only [maxLen]; omega, fun _ _ => trivial⟩
 | zero =>
   have hN5 : 1 <= N' /\ N' <= 4 := by omega
   refine seqAny2 fun b' => ?_
   simp [cQuery, cS, curD, ]
   refine loop_rule2 (X := (Nat × Int) × Ints × Nat) (fun p h => (curO b p.1 /\ (p.2.2 : Int) <= N' /\ p.2.1.xs.length <= p.2.2) /\ okS okI p.2.1 /\ Good (cS cI p.2.1) (whS whI p.2.1) B /\ (∀ g ∈ idsL (cS cI p.2.1), g < h /\ g ∉ idsLL (ys.map cAtom)) /\ ∀ g, p.2.1.id = some g -> p.2.1.T = some (3, 1)) (fun p => [(0, .ptr 1000 0 0), (2, .ptr 2 0 0), (4, .ptr 4 0 0), (6, .ptr 6 0 0), (11, .d (.int .i64 p.2.2))]) (fun p => [(1000, some (.box ((curD b p.1).map V.d))), (2, some (.box [.d (.int .i64 0), .d (.sl none none []), .d (.sl none none [])])), (4, some (.box ((cQuery ⟨qn, ⟨qaid, qaT, qa⟩, ⟨qoid, qoT, qo⟩⟩).map V.d))), (6, some (.box [.d (.int .i64 N'), .own 900 0 ys.length, .d (dSl cI p.2.1)])), (900, some (.row 59 2 (ys.map cAtom)))]) (fun p => 5 - p.2.2) (c5, nilS, 0) ⟨⟨o5, by simp; omega, by simp [nilS]⟩, ok_nilS, good_nilS B, fun g hg => by rw [idsL_cS] at hg; simp [nilS, dSl, D.ids, idsLL] at hg, by simp [nilS]⟩ (by simp) (by simp [curD, cQuery, cS, nilS]) ?_
   rintro ⟨c6, out, i⟩ hs6 t m ⟨⟨o6, hiN, hol⟩, hok, hGo, hgo, hTo⟩ hh6
   simp only at o6 hiN hol hok hGo hgo hTo
   by_cases hlt : (i : Int) < N'
   ·have hwi := wr1 (i := i) (by omega)
    refine anyQ2 fun Q => ?_
    simp [hlt, cQuery, cS, curD, s64_14, ]
    refine call_cur c6 E66 (w_spec_l1Once b c6 2 hb o6 (by omega)) (by simp) (by simp [curD]) (by simp) (by simp) fun r7 c7 hs7 hh7 hq7 hl7 o7 => ?_
    obtain ⟨u, rfl⟩ := hq7
    have hh7' : hs6 <= hs7 := hh7
    cases u
    ·simp [hwi, cQuery, cS, curD, s64_14, ]
     exact back2 (c7, out, i + 1) ⟨⟨o7, by simp only; omega, by simp only; omega⟩, hok, hGo, fun g hg => ⟨by have := (hgo g hg).1; simp <;> omega, (hgo g hg).2⟩, hTo⟩ (by simp only; omega) rfl (by simp <;> omega) (by simp) (by simp [curD, cQuery, cS])
    ·have hL : LenOk 8 (1 + out.xs.length) := ⟨by omega, by simp only [maxLen]; omega⟩
     have hL' : LenOk 8 (out.xs.length + 1) := ⟨by omega, by simp only [maxLen]; omega⟩
     simp [hwi, hL, hL', List.take_of_length_le, cQuery, cS, curD, s64_14, ]
     refine Back2.lead (lead_frz 73 (T := 3) (sz := 1) (es := ((i : Int) :: out.xs).map cI) (by simp)) ?_
     rintro _ ⟨γ, hs8, h8, hg, rfl⟩
     obtain ⟨q1, q2⟩ := gam_at hg (k := 73) (T := 3) (sz := 1) (es := ((i : Int) :: out.xs).map cI) (by simp)
     have q3 := gam_row2 hg (k := 73) (T := 3) (sz := 1) (es := ((i : Int) :: out.xs).map cI) (k2 := 900) (T2 := 59) (sz2 := 2) (es2 := ys.map cAtom) (by simp) (by simp)
     clear hg
     simp only at h8 q1
     have hpo : hpLL (out.xs.map cI) = false := hpLL_mapI _
     have hy : ∀ g, g ∈ idsL (cS cI (⟨γ 73, some (3, 1), (i : Int) :: out.xs⟩ : Ints)) → γ 73 = some g := fun g hg => by
      rw [idsL_cS] at hg
      rcases mem_sl_ids.1 hg with h | h
      ·exact h
      ·have hid : ∀ L : List Int, idsLL (L.map cI) = [] := fun L => by simp
       simp only at h
       rw [hid] at h
       cases h
     refine back2 (c7, ⟨γ 73, some (3, 1), (i : Int) :: out.xs⟩, i + 1) ⟨⟨o7, by simp only; omega, by simp only [List.length_cons]; omega⟩, ⟨by simp only [List.length_cons, maxLen]; omega, fun _ _ => trivial⟩, good_ints (fun g hg => (q1 g hg).1) (by simpa using q2), fun g hg => ⟨by have := (q1 g (hy g hg)).2; simpa using this, q3 g (hy g hg)⟩, fun _ _ => rfl⟩ (by simp only; omega) rfl (by simp <;> omega) (by simp) (by simp [hpo, Vs.frz, St.frz, Nat.add_comm 1, List.take_of_length_le, curD, cQuery, cS])
   ·have hlt' := hlt
    refine seqAny2 fun b' => ?_
    simp [hlt, cQuery, cS, curD, s64_14, ]
    have hpA : hpLL (ys.map cAtom) = false := hpLL_map (fun a => by simp) ys
    have hQe : ∀ g : Option Nat, plQuery ⟨N', ⟨g, some (59, 2), ys⟩, out⟩ = ⟨N', ys.map plAtom, out.xs⟩ := fun g => by
     simp only [plQuery, plS, map_plI, plI]
    have hsz : ∀ a ∈ (⟨N', ys.map plAtom, out.xs⟩ : PQuery).atoms, a.rel.length ≤ maxLen := fun a ha => by
     obtain ⟨y, hy, rfl⟩ := List.mem_map.1 ha
     exact (hyk y hy).1
    refine call_own (post := fun _ r => r = .d (.bool (queryOk ⟨N', ys.map plAtom, out.xs⟩))) (by simp) (fun γ n hn hg => ⟨[.agg ((cQuery ⟨N', ⟨γ 900, some (59, 2), ys⟩, out⟩).map V.d)], by simp [hpA, cQuery, cS, dSl, List.take_of_length_le], ?_⟩) (by rintro _ _ rfl; simp [V.ids, D.ids, V.hp, D.hp]) fun n9 hs9 r9 hn9 hm9 hp9 hr9 => ?_
    ·refine (w_spec_IsValidQuery ⟨N', ys.map plAtom, out.xs⟩ hsz).er ?_
     simp only [rpL, rp, rpL_d, Option.map_some, er_cQuery, hQe]
    obtain rfl := hp9
    replace hn9 : hs6 <= n9 := hn9
    cases hv : queryOk ⟨N', ys.map plAtom, out.xs⟩
    ·simp [vendX, cQuery, cS, s64_14, curD]
     intro γ hs' h1 hg
     clear hg
     simpa [cQuery, cS, curD] using hfin c6 o6
    simp [vendX, cQuery, cS, s64_14, curD]
    intro γ hs' h1 hg
    obtain ⟨q1, q2⟩ := gam_at hg (k := 900) (T := 59) (sz := 2) (es := ys.map cAtom) (by simp)
    have q3 := gam_row hg (k := 900) (T := 59) (sz := 2) (es := ys.map cAtom) (by simp)
    have qf : ∀ g, γ 900 = some g → g ∉ idsL (cS cI out) := fun g hγ => by
     have hb := (hg.fr 900 59 2 (ys.map cAtom) g (by simp) hγ).1.box 6 [.d (.int .i64 N'), .own 900 0 ys.length, .d (dSl cI out)] (by simp)
     rw [idsL_cS]
     simpa [V.ids, idsVL, D.ids, idsLL, dSl] using hb
    clear hg
    have K2 : Good (cS cAtom ⟨γ 900, some (59, 2), ys⟩) (whS whAtom ⟨γ 900, some (59, 2), ys⟩) B := good_row (fun g hg => (q1 g hg).1) (by simpa using q2) q3 ⟨hG.nd, hG.lo⟩ hG.wh
    have K1 := Good.app (good_I B N') K2 (fun g h h' => by simp [cI, idsL, D.ids] at h)
    have K := Good.app K1 hGo (fun g h h' => by
     rw [idsL_app] at h
     rcases List.mem_append.1 h with h | h
     ·simp [cI, idsL, D.ids] at h
     ·rw [idsL_cS] at h
      rcases mem_sl_ids.1 h with h | h
      ·exact qf g h h'
      ·exact (hgo g h').2 h)
    have hfx : QryC 59 3 b B (.agg ((cQuery ⟨N', ⟨γ 900, some (59, 2), ys⟩, out⟩).map V.d)) ((curD b c6).map V.d) := ⟨⟨c6, _, rfl, ⟨trivial, ⟨by simp only [maxLen]; show ys.length <= _; omega, hyk⟩, hok⟩, ⟨K.nd, K.lo, K.wh.1.1, K.wh.1.2, K.wh.2⟩, by rw [hQe]; exact hv, by rw [hQe]; exact .inl (by simp only; omega), ⟨fun _ _ => rfl, hTo⟩, rfl, o6⟩⟩
    simpa [hpA, cQuery, cS, curD, List.take_of_length_le] using hfx
end
end Go.Proofs.YtaoaoijchijlcaaGreatDoor
namespace Go.Proofs.YtaoaoijchijlcaaGreatDoor
open Go.Vs Go.Proofs Go
set_option maxRecDepth 100000
set_option maxHeartbeats 1000000
theorem call_qry {tA tI : Nat} {P : Program} {E : Md} {args : List Operand} {f : FuncId} {rest As : List V} {k : Nat} {dst : Option Tmp} {K : St -> Prop} {σ : St} {b : Sl Int} (c : Nat × Int) (hE : E f = true)
  (hc : VX P f [] (.ptr 1000 0 0 :: As) (some ((curD b c).map V.d)) (fun n r cs _ => QryC tA tI b n r cs)) (hvs : args.map σ.ev = .ptr k 0 0 :: rest) (hm : σ.m k = some (.box ((curD b c).map V.d)))
  (hr : rpL σ.m rest = some As) (hk : keysVL rest = [])
  (hK : ∀ (y : Query) c' n hs', σ.hs <= n -> n <= hs' -> okQuery y -> Good (cQuery y) (whQuery y) n -> (∀ g ∈ idsL (cQuery y), g < hs') -> queryOk (plQuery y) = true -> smallQ (plQuery y) -> (∀ g, y.atoms.id = some g -> y.atoms.T = some (tA, 2)) -> (∀ g, y.out.id = some g -> y.out.T = some (tI, 1)) -> curO b c' -> K ({ σ with hs := hs', m := upd σ.m k (some (.box ((curD b c').map V.d))) }.put dst (.agg ((cQuery y).map V.d)))) : vcallA P E f args (.ptr k 0 0 :: rest) dst K σ := by
 refine call_xi hE hvs hm hr (by simp [curD, dSl]) hc fun r cs' ws n hs' h1 h2 h3 h4 h5 h9 => ?_
 obtain ⟨c', y, rfl, h6, h7, h8, h10, ⟨h11, h12⟩, rfl, ho⟩ := h3.ex
 have : keysVL rest ++ keysVL ((curD b c).map V.d) = [] := by rw [hk]; simp [curD]
 rw [this]
 exact hK y c' n hs' h1 h2 h6 h7 (fun g hg => h9 g (by rw [ids_agg]; exact hg)) h8 h10 h11 h12 ho
structure QryA (b : Sl Int) (r : V) (cs : List V) : Prop where
 ex : ∃ (c' : Nat × Int) (y : Query), r = .agg ((cQuery y).map V.d) /\ okQuery y /\ QA (plQuery y) /\ cs = (curD b c').map V.d /\ curO b c'
section
attribute [local simp] pS dSl cP cI cW
theorem cAtom_len (t : Atom) : (cAtom t).length = 2 := by simp [cAtom, cStr, cS, cI]
theorem re_raw {g : Nat} {T : TypeId × Nat} {es es' : List (List D)} (h : es'.map List.length = es.map List.length) : reV (one g (.sl (some g) (some T) es')) (.d (.sl (some g) (some T) es)) = .d (.sl (some g) (some T) es') := by
 have h1 : reD (one g (.sl (some g) (some T) es')) (.sl (some g) (some T) es) = some (.sl (some g) (some T) es') := by
  simp only [reD, one, if_true]
  rw [if_pos]
  exact ⟨trivial, rfl, trivial, h⟩
 simp only [reV, h1]
theorem w_spec_l7Any (b : Sl Int) (c : Nat × Int) (hb : b.xs.length <= 1048576) (hc : curO b c) : VX Tryz.prog 67 [] [.ptr 1000 0 0] (some ((curD b c).map V.d)) (fun _ r cs _ => QryA b r cs) := by
 refine VX.of E s67 (by kernel_rfl) Tryz.func67 (by rfl) (by kernel_rfl) (by simp [Tryz.f67]) (by simp [Tryz.f67]) s67_ok ?_ ?_ fun B hB => ?_
 ·simp
 ·rintro cs h
  cases h
  simp [curD]
 simp [Tryz.f67, s67_6, s67_8, s67_12, s67_6, s67_8, s67_12, curD]
 refine call_qry c E64 (w_spec_l7Query b c hb hc) (by simp) (by simp [curD]) (by simp) (by simp) fun q c0 n0 hs0 hn0 hm0 kq Gq uq okq smq TA TI o0 => ?_
 obtain ⟨qn, ⟨qaid, qaT, qa⟩, ⟨qoid, qoT, qo⟩⟩ := q
 have hnB : B <= n0 := hn0
 have hQ : plQuery ⟨qn, ⟨qaid, qaT, qa⟩, ⟨qoid, qoT, qo⟩⟩ = ⟨qn, qa.map plAtom, qo⟩ := by simp only [plQuery, plS, map_plI, plI]
 rw [hQ] at okq smq
 have hsm := qok_small okq
 have hqv := qok_vars okq
 simp only [List.length_map] at hsm hqv
 obtain ⟨hal, hol, hat⟩ := hsm
 obtain ⟨⟨ar, ⟨avid, avT, av⟩⟩, ra, rfl⟩ : ∃ a ra, qa = a :: ra := by
  cases qa with
  | nil => simp at hqv
  | cons a r => exact ⟨a, r, rfl⟩
 have hav : 1 ≤ av.length := by
  have := (hqv.1 (plAtom ⟨ar, ⟨avid, avT, av⟩⟩) (by simp)).1
  simpa [plAtom, plS] using this
 obtain ⟨v0, rv, rfl⟩ : ∃ v rv, av = v :: rv := by
  cases av with
  | nil => simp at hav
  | cons a r => exact ⟨a, r, rfl⟩
 obtain ⟨_, hok1, hok2⟩ := kq
 have wh1 := Gq.wh.2.1
 have wh2 := Gq.wh.2.2
 obtain ⟨ga, rfl⟩ : ∃ ga, qaid = some ga := by
  cases hq : qaid with
  | none => have := wh1.1.nil hq; simp at this
  | some g => exact ⟨g, rfl⟩
 obtain rfl : qaT = some (59, 2) := TA ga rfl
 have wh3 := wh1.2 ⟨ar, ⟨avid, avT, v0 :: rv⟩⟩ (by simp)
 obtain ⟨gv, rfl⟩ : ∃ gv, avid = some gv := by
  cases hq : avid with
  | none => have := wh3.2.1.nil hq; simp at this
  | some g => exact ⟨g, rfl⟩
 obtain ⟨Tv, rfl⟩ : ∃ Tv, avT = some Tv := Option.isSome_iff_exists.1 (wh3.2.1.some (by simp))
 have eI : idsL (cQuery ⟨qn, ⟨some ga, some (59, 2), ⟨ar, ⟨some gv, some Tv, v0 :: rv⟩⟩ :: ra⟩, ⟨qoid, qoT, qo⟩⟩) = ga :: gv :: (idsLL (ra.map cAtom) ++ qoid.toList) := by
  simp [cQuery, cAtom, cStr, cS, idsL, D.ids, idsLL]
 have hnd := Gq.nd
 have hlo := Gq.lo
 rw [eI] at hnd hlo
 simp only [List.nodup_cons, List.mem_cons, List.mem_append, not_or] at hnd
 obtain ⟨⟨n1, n2, n3⟩, ⟨n4, n5⟩, n6⟩ := hnd
 have n7 := (List.nodup_append.1 n6).2.2
 have b1 : B <= ga := by have := hlo ga (by simp); omega
 have b2 : B <= gv := by have := hlo gv (by simp); omega
 have b3 : ∀ g, qoid = some g -> B <= g := fun g hg => by have := hlo g (by simp [hg]); omega
 have n3' : qoid ≠ some ga := fun h => n3 (by simp [h])
 have n5' : qoid ≠ some gv := fun h => n5 (by simp [h])
 have hn5 := queryOk_n5 okq
 simp only at hn5
 have hwn : IntKind.i64.wrap (qn + 1) = qn + 1 := wrap64_of (by omega) (by omega)
 have okA := hok1.2 ⟨ar, ⟨some gv, some Tv, v0 :: rv⟩⟩ (by simp)
 have okR : ∀ a ∈ ra, okAtom a := fun a ha => hok1.2 a (by simp [ha])
 have hal2 : ra.length <= 3 := by simp only [List.length_cons] at hal; omega
 have eC : cAtom ⟨ar, ⟨some gv, some Tv, v0 :: rv⟩⟩ = [.str ar, .sl (some gv) (some Tv) ([.int .i64 v0] :: rv.map cI)] := by simp [cAtom, cStr, cS]
 have hcur : ∀ f : Nat → Option D, (∀ j, B ≤ j ∨ f j = none) → reV f (.d (.sl b.id b.T (b.xs.map cW))) = .d (.sl b.id b.T (b.xs.map cW)) := fun f hf => reV_id _ (fun j hj => by
  rcases hf j with h | h
  ·have := hB j (.inr (by simpa [curD] using hj)); omega
  ·exact h) (by simp [tkLL_mapW])
 simp [cQuery, cS, eC, s67_6, s67_8, s67_12, curD]
 refine call_cur c0 E90 (w_spec_l1Below b c0 14 hb o0 (by omega)) (by simp) (by simp [curD]) (by simp) (by simp) fun r2 c2 hs2 hh2 hq2 hl2 o2 => ?_
 obtain ⟨u, rfl, u0, u1, _⟩ := hq2
 refine forgetG [(0, .ptr 1000 0 0), (2, .ptr 2 0 0), (3, .ptr 3 0 0), (7, .d (.int .i64 u))] [(1000, some (.box ((curD b c2).map V.d))), (2, some (.box [.d (.int .i64 0), .d (.sl none none []), .d (.sl none none [])])), (3, some (.box [.d (.int .i64 qn), .d (.sl (some ga) (some (59, 2)) ([.str ar, .sl (some gv) (some Tv) ([.int .i64 v0] :: rv.map cI)] :: ra.map cAtom)), .d (.sl qoid qoT (qo.map cI))]))] (by simp) (by simp [curD, cQuery, cS]) fun t m => ?_
 have fin : ∀ (c' : Nat × Int) (y : Query), curO b c' -> okQuery y -> QA (plQuery y) -> QryA b (.agg ((cQuery y).map V.d)) ((curD b c').map V.d) := fun c' y h1 h2 h3 => ⟨⟨c', y, rfl, h2, h3, rfl, h1⟩⟩
 by_cases e0 : u = 0
 ·subst e0
  simp [hwn, curD, s67_6, s67_8, s67_12, ]
  refine call_curK c2 E94 (w_spec_l1PickInt b c2 [0, 6, qn + 1] hb o2 (by simp) (by simp)) (by simp) (by simp [curD]) (by simp) fun r3 c3 hs3 hh3 hq3 hl3 o3 => ?_
  obtain ⟨v, rfl, hv⟩ := hq3
  simp [vendX, curD, s67_6, s67_8, s67_12, ]
  intro γ hs' h1 hg
  clear hg
  have := fin c3 ⟨v, ⟨some ga, some (59, 2), ⟨ar, ⟨some gv, some Tv, v0 :: rv⟩⟩ :: ra⟩, ⟨qoid, qoT, qo⟩⟩ o3 ⟨trivial, hok1, hok2⟩ (by have := QA.n okq hv; simpa only [plQuery, plS, map_plI, plI] using this)
  simpa [cQuery, cS, curD, eC] using this
 by_cases e1 : u = 1
 ·subst e1
  have hp0 : hpLL (ra.map cAtom) = false := hpLL_map (fun a => by simp) ra
  have L0 : LenOk 8 1 := ⟨by omega, by simp only [maxLen]; omega⟩
  have L1 : LenOk 40 (ra.length + 1 + 1) := ⟨by omega, by simp only [maxLen]; omega⟩
  have k1 : ∀ j, B ≤ j ∨ kphi (some ga) j = none := fun j => by
   by_cases h : j = ga
   ·left; omega
   ·right; simp only [kphi]; rw [if_neg (by simpa using Ne.symm h)]
  have kC := hcur _ k1
  have kO : reV (kphi (some ga)) (.d (.sl qoid qoT (qo.map cI))) = .d (.sl qoid qoT (qo.map cI)) := reV_id (.d (dSl cI ⟨qoid, qoT, qo⟩)) fun j hj => by
   have hne : j ≠ ga := fun e => by
    rcases mem_sl_ids.1 hj with h | h
    ·subst e; exact n3' h
    ·simp at h
   simp only [kphi]; rw [if_neg (by simpa using Ne.symm hne)]
  have f1 : ga ∉ idsLL ([.str ar, .sl (some gv) (some Tv) ([.int .i64 v0] :: rv.map cI)] :: ra.map cAtom) := by simp [idsLL, idsL, D.ids]; exact ⟨n1, n2⟩
  have F0 : ∀ (nm : List UInt8) (g24 : Nat), g24 ≠ ga -> ga ∉ idsLL [[.str nm, .sl (some g24) (some (3, 1)) [[.int .i64 0]]]] := fun nm g24 h => by simp [idsLL, idsL, D.ids]; exact Ne.symm h
  have KE : ∀ (nm : List UInt8) (g24 : Nat), g24 ≠ ga → reLL (kphi (some ga)) ([.str ar, .sl (some gv) (some Tv) ([.int .i64 v0] :: rv.map cI)] :: (ra.map cAtom ++ [[.str nm, .sl (some g24) (some (3, 1)) [[.int .i64 0]]]])) = some ([.str ar, .sl (some gv) (some Tv) ([.int .i64 v0] :: rv.map cI)] :: (ra.map cAtom ++ [[.str nm, .sl (some g24) (some (3, 1)) [[.int .i64 0]]]])) := fun nm g24 h => by
   have e : [.str ar, .sl (some gv) (some Tv) ([.int .i64 v0] :: rv.map cI)] :: (ra.map cAtom ++ [[.str nm, .sl (some g24) (some (3, 1)) [[D.int .i64 0]]]]) = ((⟨ar, ⟨some gv, some Tv, v0 :: rv⟩⟩ : Atom) :: ra ++ [(⟨nm, ⟨some g24, some (3, 1), [0]⟩⟩ : Atom)]).map cAtom := by simp [cAtom, cStr, cS]
   refine reLL_id _ (fun j hj => ?_) (by rw [e]; exact tkLL_map _ (by simp))
   have hne : j ≠ ga := fun e => by
    subst e
    rw [<- List.cons_append, idsLL_append] at hj
    rcases List.mem_append.1 hj with h2 | h2
    ·exact f1 h2
    ·exact F0 nm g24 h h2
   simp only [kphi]; rw [if_neg (by simpa using Ne.symm hne)]
  simp [curD, s67_6, s67_8, s67_12, ]
  repeat' apply And.intro
  all_goals
   refine call_curK c2 E89 (w_spec_l1Pick b c2 [[], [119], [114]] hb o2 (by simp) (by simp)) (by simp) (by simp [curD]) (by simp [cStr]) fun r3 c3 hs3 hh3 hq3 hl3 o3 => ?_
   obtain ⟨nm, rfl, hnm⟩ := hq3
   have hnl : nm.length ≤ 10 := by
    simp only [List.mem_cons, List.not_mem_nil, or_false] at hnm
    rcases hnm with rfl | rfl | rfl <;> simp
   simp [curD, s67_6, s67_8, s67_12, ]
   rw [w_bs1 (k' := 24) (ks := []) _ _ _ (by simp) (by simp)]
   intro γ hs4 h1 hg
   obtain ⟨q1, q2⟩ := gam_at hg (k := 24) (T := 3) (sz := 1) (es := [[.int .i64 0]]) (by simp)
   obtain ⟨g24, h24⟩ := Option.ne_none_iff_exists'.1 (q2 (by simp))
   have qf : g24 ≠ ga := fun e => by
    have hb := (hg.fr 24 3 1 [[.int .i64 0]] g24 (by simp) h24).1.box 3 [.d (.int .i64 qn), .d (.sl (some ga) (some (59, 2)) ([.str ar, .sl (some gv) (some Tv) ([.int .i64 v0] :: rv.map cI)] :: ra.map cAtom)), .d (.sl qoid qoT (qo.map cI))] (by simp)
    simp [idsVL, V.ids, D.ids, e] at hb
   clear hg
   have f0 := F0 nm g24 qf
   have kE := KE nm g24 qf
   simp [vpre, vnext, veff, vval, isPure, St.frzs, St.frz, Vs.frz, hpLL, hpL, D.hp, h24, St.kill, b1, f0, f1, L1, kC, kO, kE, vendX, List.take_of_length_le, curD, s67_6, s67_8, s67_12, ]
   refine ⟨fun a _ => cAtom_len a, ?_⟩
   intro γ2 hs' h1' hg
   clear hg
   have := fin c3 ⟨qn, ⟨γ2 27, some (59, 2), ⟨ar, ⟨some gv, some Tv, v0 :: rv⟩⟩ :: ra ++ [⟨nm, ⟨some g24, some (3, 1), [0]⟩⟩]⟩, ⟨qoid, qoT, qo⟩⟩ o3 ⟨trivial, ⟨by simp [maxLen]; omega, fun a ha => by
    rcases List.mem_append.1 ha with h | h
    ·rcases List.mem_cons.1 h with h | h
     ·rw [h]; exact okA
     ·exact okR a h
    ·rw [List.mem_singleton.1 h]; exact ⟨by show nm.length ≤ maxLen; simp only [maxLen]; omega, by simp [maxLen], fun _ _ => trivial⟩⟩, hok2⟩ (by
     have := QA.atom okq smq hnl
     simpa [plQuery, plAtom, plS, map_plI, plI, plStr] using this)
   simpa [cQuery, cS, curD, cAtom, cStr] using this
 by_cases e2 : u = 2
 ·subst e2
  have L0 : LenOk 8 1 := ⟨by omega, by simp only [maxLen]; omega⟩
  have hp0 : hpLL (qo.map cI) = false := hpLL_mapI _
  have hol' : qo.length <= 5 := hol
  have L1 : LenOk 8 (qo.length + 1) := ⟨by omega, by simp only [maxLen]; omega⟩
  simp [curD, s67_6, s67_8, s67_12, ]
  repeat' apply And.intro
  all_goals
   refine call_cur c2 E90 (w_spec_l1Below b c2 6 hb o2 (by omega)) (by simp) (by simp [curD]) (by simp) (by simp) fun r3 c3 hs3 hh3 hq3 hl3 o3 => ?_
   obtain ⟨x, rfl, x0, x1, _⟩ := hq3
   have x1 := x1 (by omega)
   have hwx : IntKind.i64.wrap (x - 1) = x - 1 := wrap64_of (by omega) (by omega)
   have done := fun g T => fin c3 ⟨qn, ⟨some ga, some (59, 2), ⟨ar, ⟨some gv, some Tv, v0 :: rv⟩⟩ :: ra⟩, ⟨g, T, qo ++ [x - 1]⟩⟩ o3 ⟨trivial, hok1, ⟨by simp only [List.length_append, List.length_singleton, maxLen]; omega, fun _ _ => trivial⟩⟩ (by have := QA.out (v := x - 1) okq smq; simpa only [plQuery, plS, map_plI, plI] using this)
   cases hq : qoid with
   | none =>
     have hq0 : qo = [] := by have := wh2.1.nil hq; simpa using this
     subst hq0
     cases qoT with
     | none =>
       simp [hwx, L0, vendX, curD, s67_6, s67_8, s67_12, ]
       intro γ hs' h1 hg
       clear hg
       simpa [cQuery, cS, curD, eC] using done (γ 37) (some (3, 1))
     | some T =>
       simp [hwx, L0, vendX, curD, s67_6, s67_8, s67_12, ]
       intro γ hs' h1 hg
       clear hg
       simpa [cQuery, cS, curD, eC] using done (γ 37) (some (3, 1))
   | some go =>
     obtain rfl : qoT = some (3, 1) := TI go hq
     have hgo := b3 go hq
     have k1 : ∀ j, B ≤ j ∨ kphi (some go) j = none := fun j => by
      by_cases h : j = go
      ·left; omega
      ·right; simp only [kphi]; rw [if_neg (by simpa using Ne.symm h)]
     have kC := hcur _ k1
     have kA : reV (kphi (some go)) (.d (.sl (some ga) (some (59, 2)) ([.str ar, .sl (some gv) (some Tv) ([.int .i64 v0] :: rv.map cI)] :: ra.map cAtom))) = .d (.sl (some ga) (some (59, 2)) ([.str ar, .sl (some gv) (some Tv) ([.int .i64 v0] :: rv.map cI)] :: ra.map cAtom)) := reV_id _ (fun j hj => by
      have hne : j ≠ go := fun e => by
       subst e
       simp [V.ids, D.ids, idsLL, idsL] at hj
       rcases hj with h | h | h
       ·subst h; exact n3' hq
       ·subst h; exact n5' hq
       ·exact n7 j h j (by simp [hq]) rfl
      simp only [kphi]; rw [if_neg (by simpa using Ne.symm hne)]) (by simp [V.tk, D.tk, tkLL, tkL, tkLL_map])
     have kE : reLL (kphi (some go)) (qo.map cI ++ [[.int .i64 (x - 1)]]) = some (qo.map cI ++ [[.int .i64 (x - 1)]]) := by
      have e : qo.map cI ++ [[D.int .i64 (x - 1)]] = (qo ++ [x - 1]).map cI := by simp
      rw [e]
      have hid : ∀ L : List Int, idsLL (L.map cI) = [] := fun L => by simp
      exact reLL_id _ (fun j hj => by rw [hid] at hj; cases hj) (tkLL_map _ (by simp))
     have f9 : go ∉ idsLL [[D.int .i64 (x - 1)]] := by simp [idsLL, idsL, D.ids]
     simp [hwx, St.kill, hgo, L1, kC, kA, kE, f9, vendX, List.take_of_length_le, curD, s67_6, s67_8, s67_12, ]
     intro γ hs' h1 hg
     clear hg
     simpa [cQuery, cS, curD, eC] using done (γ 37) (some (3, 1))
 by_cases e3 : u = 3
 ·subst e3
  have eR := re_raw (g := ga) (T := (59, 2)) (es := [.str ar, .sl (some gv) (some Tv) ([.int .i64 v0] :: rv.map cI)] :: ra.map cAtom) (es' := [.str ar, .sl none none []] :: ra.map cAtom) (by simp)
  have eC3 : ∀ d, reV (one ga d) (.d (.sl b.id b.T (b.xs.map cW))) = .d (.sl b.id b.T (b.xs.map cW)) := fun d => hcur _ fun j => by
   by_cases h : j = ga
   ·left; omega
   ·exact .inr (one_out h)
  have eO3 : ∀ d, reV (one ga d) (.d (.sl qoid qoT (qo.map cI))) = .d (.sl qoid qoT (qo.map cI)) := fun d => reV_id (.d (dSl cI ⟨qoid, qoT, qo⟩)) fun j hj => one_out fun e => by
   rcases mem_sl_ids.1 hj with h | h
   ·subst e; exact n3' h
   ·simp at h
  simp [b1, n1, n2, idsLL, idsL, D.ids, eR, eC3, eO3, vendX, curD, s67_6, s67_8, s67_12, ]
  intro γ hs' h1 hg
  clear hg
  have := fin c2 ⟨qn, ⟨some ga, some (59, 2), ⟨ar, nilS⟩ :: ra⟩, ⟨qoid, qoT, qo⟩⟩ o2 ⟨trivial, ⟨hok1.1, fun a ha => by
   rcases List.mem_cons.1 ha with h | h
   ·rw [h]; exact ⟨okA.1, ok_nilS⟩
   ·exact okR a h⟩, hok2⟩ (by
    have := QA.set (a' := ⟨ar, []⟩) okq smq rfl (by simp) (.inl rfl)
    simpa [plQuery, plAtom, plS, map_plI, plI, plStr, nilS] using this)
  simpa [cQuery, cS, curD, cAtom, cStr, nilS] using this
 by_cases e4 : u = 4
 ·subst e4
  have eC4 : ∀ d, reV (one gv d) (.d (.sl b.id b.T (b.xs.map cW))) = .d (.sl b.id b.T (b.xs.map cW)) := fun d => hcur _ fun j => by
   by_cases h : j = gv
   ·left; omega
   ·exact .inr (one_out h)
  have eO4 : ∀ d, reV (one gv d) (.d (.sl qoid qoT (qo.map cI))) = .d (.sl qoid qoT (qo.map cI)) := fun d => reV_id (.d (dSl cI ⟨qoid, qoT, qo⟩)) fun j hj => one_out fun e => by
   rcases mem_sl_ids.1 hj with h | h
   ·subst e; exact n5' h
   ·simp at h
  have eR : ∀ x : Int, reV (one gv (.sl (some gv) (some Tv) ([.int .i64 x] :: rv.map cI))) (.d (.sl (some ga) (some (59, 2)) ([.str ar, .sl (some gv) (some Tv) ([.int .i64 v0] :: rv.map cI)] :: ra.map cAtom))) = .d (.sl (some ga) (some (59, 2)) ([.str ar, .sl (some gv) (some Tv) ([.int .i64 x] :: rv.map cI)] :: ra.map cAtom)) := fun x => by
   have h1 : reLL (one gv (.sl (some gv) (some Tv) ([.int .i64 x] :: rv.map cI))) (ra.map cAtom) = some (ra.map cAtom) := reLL_id _ (fun j hj => one_out fun e => n4 (e ▸ hj)) (tkLL_map _ (by simp))
   have h2 : one gv (.sl (some gv) (some Tv) ([.int .i64 x] :: rv.map cI)) ga = none := one_out n1
   have h3 : one gv (.sl (some gv) (some Tv) ([.int .i64 x] :: rv.map cI)) gv = some (.sl (some gv) (some Tv) ([.int .i64 x] :: rv.map cI)) := by simp [one]
   simp [reV, reD, reLL, reL, h1, h2, h3]
  simp [curD, s67_6, s67_8, s67_12, ]
  repeat' apply And.intro
  all_goals
   refine call_curK c2 E94 (w_spec_l1PickInt b c2 [-1, 5] hb o2 (by simp) (by simp)) (by simp) (by simp [curD]) (by simp) fun r3 c3 hs3 hh3 hq3 hl3 o3 => ?_
   obtain ⟨x, rfl, hx⟩ := hq3
   simp [b2, n1, n2, idsLL, idsL, D.ids, eR, eC4, eO4, vendX, curD, s67_6, s67_8, s67_12, ]
   intro γ hs' h1 hg
   clear hg
   have := fin c3 ⟨qn, ⟨some ga, some (59, 2), ⟨ar, ⟨some gv, some Tv, x :: rv⟩⟩ :: ra⟩, ⟨qoid, qoT, qo⟩⟩ o3 ⟨trivial, ⟨hok1.1, fun a ha => by
    rcases List.mem_cons.1 ha with h | h
    ·rw [h]; exact ⟨okA.1, by have := okA.2.1; simpa using this, fun _ _ => trivial⟩
    ·exact okR a h⟩, hok2⟩ (by
     have := QA.set (a' := ⟨ar, x :: rv⟩) okq smq rfl (by simp [plAtom, plS]) (.inr ⟨x, by simp, by simp only [List.mem_cons, List.not_mem_nil, or_false] at hx; omega⟩)
     simpa [plQuery, plAtom, plS, map_plI, plI, plStr] using this)
   simpa [cQuery, cS, curD, cAtom, cStr] using this
 simp [vendX, e0, e1, e2, e3, e4, curD, s67_6, s67_8, s67_12, ]
 intro γ hs' h1 hg
 clear hg
 have := fin c2 ⟨qn, ⟨some ga, some (59, 2), ⟨ar, ⟨some gv, some Tv, v0 :: rv⟩⟩ :: ra⟩, ⟨qoid, qoT, qo⟩⟩ o2 ⟨trivial, hok1, hok2⟩ (by have := QA.of okq smq; simpa only [plQuery, plS, map_plI, plI] using this)
 simpa [cQuery, cS, curD, eC] using this
end
end Go.Proofs.YtaoaoijchijlcaaGreatDoor
