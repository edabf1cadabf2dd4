/-
  A part of a proof of this seat: a value-level semantics of Go code without maps, walks, plain lemmas. It holds of all that its hypotheses name.
-/
import Derived.Test.YtgjfmjiildjelaaGreatDoorBW1B2
set_option linter.unusedSimpArgs false
set_option linter.unusedVariables false
set_option linter.unnecessarySimpa false
namespace Go.Proofs.YtgjfmjiildjelaaGreatDoor
open Go.Vs Go.Proofs Go
set_option maxRecDepth 100000
set_option maxHeartbeats 1000000
section
attribute [local simp] pS cP eQ_def
theorem w_impl_allValid (l : List Xw) (h : ∀ q ∈ l,smQ q) : VC Tryz.prog 132 [.d (pS eQ l)] (fun _ r=>r = .d (.bool true)):=by
 refine VC.ofL EP sZ Tryz.func132 fun B hl=>?_
 simp [maxLen] at hl
 simp [Tryz.f132]
 refine loop_rule (X:=Nat) (fun i=>i <= l.length) (fun i=>[(5,.d (.pl (l.map eQ))),(6,.d (.int .i64 l.length)),(7,.d (.int .i64 i))]) (fun _=>[]) (fun i=>l.length - i) 0 (by simp) (by simp) (by simp) ?_
 intro i hs t m hi hh
 by_cases hlt : i < l.length
 ·have hwi:=wr1 (i:=i) (by omega)
  simp [hlt]
  refine call_f (w_impl_IsValidRational l[i] (h _ (Jy hlt))) (by simp) rfl fun hs1 hh1=>?_
  try simp at hh1
  simp [hwi]
  exact back (i + 1) (by omega) (by omega) rfl (by simp <;> omega) (by simp) (by simp)
 ·simp [hlt]
theorem e_impl_copyRationals (l : List Xw) (hb : l.length <= 4294967296) :
  VC Tryz.prog 146 [.d (pS eQ l)] (fun n r=>∃ g : Option Nat,r = .d (.sl g (some (62,2)) (l.map eQ)) /\ (∀ k,g = some k -> n <= k) /\ (g = none -> l = [])):=by
 refine VC.of E sZ Tryz.func146 fun B=>?_
 have hL : LenOk 16 l.length:=⟨by omega,by simp only [maxLen]; omega⟩
 have hp : hpLL (l.map eQ) = false:=hp_eQs l
 simp [Tryz.f146,hL,hp,Jj]
 intro γ hs' h1 hg
 obtain ⟨q1,q2⟩:=gam_at hg (k:=3) (T:=62) (sz:=2) (es:=l.map eQ) (by simp)
 clear hg
 refine ⟨fun k hk=>(q1 k hk).1,fun h=>?_⟩
 exact Xv fun hl=>q2 (by simpa using hl) h
theorem w_impl_DotProduct (u v : List Xw) (hlen : u.length = v.length) (h : DotS u.length (fnL u) (fnL v)) :
  VC Tryz.prog 134 [.d (pS eQ u),.d (pS eQ v)] (fun _ r=>r = .tup [.agg [.d (.int .i64 (dotF u.length (fnL u) (fnL v)).num),.d (.int .i64 ((dotF u.length (fnL u) (fnL v)).den : Int))],.d (.bool true)]):=by
 refine VC.ofL EP s134 Tryz.func134 fun B hl=>?_
 simp [maxLen] at hl
 simp [Tryz.f134,hlen]
 refine loop_rule (X:=Nat) (fun i=>i <= v.length) (fun i=>[(0,.d (.pl (u.map eQ))),(1,.d (.pl (v.map eQ))),(4,.ptr 4 0 0),(6,.ptr 6 0 0),(20,.d (.int .i64 v.length)),(21,.d (.int .i64 i))]) (fun i=>[(4,some (.box [.d (.int .i64 0),.d (.int .i64 0)])),(6,some (.box [.d (.int .i64 (dotF i (fnL u) (fnL v)).num),.d (.int .i64 ((dotF i (fnL u) (fnL v)).den : Int))]))]) (fun i=>v.length - i) 0 (by simp) (by simp) (by simp [dotF]) ?_
 intro i hs t m hi hh
 by_cases hlt : i < v.length
 ·have hwi:=wr1 (i:=i) (by omega)
  have hlu : i < u.length:=by omega
  have a1:=h.sa i hlu
  have a2:=h.sx i hlu
  have a3:=h.sm i hlu
  have a4:=h.ss i (by omega)
  have a5:=h.ss (i + 1) (by omega)
  have e : dotF (i + 1) (fnL u) (fnL v) = dotF i (fnL u) (fnL v) + u[i] * v[i]:=by rw [dotF,fnL_at hlu,fnL_at hlt]
  rw [fnL_at hlu] at a1 a3
  rw [fnL_at hlt] at a2 a3
  rw [e] at a5
  simp [hlt,hlu]
  refine ⟨?_,?_⟩
  all_goals
   refine call_f (w_impl_MulRational u[i] v[i] a1 a2 a3) (by simp) rfl fun hs1 hh1=>?_
   try simp at hh1
   simp
   refine call_f (w_impl_AddRational (dotF i (fnL u) (fnL v)) (u[i] * v[i]) a4 a3 a5) (by simp) rfl fun hs2 hh2=>?_
   try simp at hh2
   simp [hwi]
   exact back (i + 1) (by omega) (by omega) rfl (by simp <;> omega) (by simp) (by simp [e])
 ·have hn : i = v.length:=by omega
  simp [hlt,hn]
theorem w_impl_MatrixVectorProduct (A : List (List Xw)) (x : List Xw) (hb : A.length <= 4294967296) (hr : ∀ r ∈ A,r.length = x.length) (h : ∀ r ∈ A,DotS x.length (fnL r) (fnL x)) :
  VC Tryz.prog 164 [.d (pS (cP eQ) A),.d (pS eQ x)] (fun _ r=>r = .tup [.d (pS eQ (A.map fun r=>dotF x.length (fnL r) (fnL x))),.d (.bool true)]):=by
 refine VC.ofL EP sZ Tryz.func164 fun B hl=>?_
 clear hl
 simp [Tryz.f164]
 obtain ⟨F,hF⟩ : ∃ F : List Xw -> Xw,F = fun r=>dotF x.length (fnL r) (fnL x):=⟨_,rfl⟩
 refine loop_ruleL (X:=Nat) (fun i _=>i <= A.length) (fun i=>[(1,.d (.pl (x.map eQ))),(6,.own 900 0 i),(11,.d (.pl (A.map (cP eQ)))),(12,.d (.int .i64 A.length)),(13,.d (.int .i64 i))]) (fun i=>[(900,some (.row 62 2 (((A.take i).map F).map eQ)))]) (fun i=>A.length - i) ?_ ?_
 ·refine (lead_slot 6 900 62 2 (by omega) (by omega) (by simp)).bind ?_
  rintro _ rfl
  exact Lead.of ⟨0,by omega,rfl,rfl,Jv _,by simp,by simp⟩
 intro i hs t m hi hh
 by_cases hlt : i < A.length
 ·have hwi:=wr1 (i:=i) (by omega)
  have hL : LenOk 16 (i + 1):=⟨by omega,by simp only [maxLen]; omega⟩
  have hm:=Jy hlt
  have hd:=h _ hm
  have hrl:=hr _ hm
  have hst : (A.map (eQ ∘ F)).take (i + 1) = (A.map (eQ ∘ F)).take i ++ [eQ (F A[i])]:=by rw [Jz (by simpa using hlt)]; simp
  have hFi : F A[i] = dotF A[i].length (fnL A[i]) (fnL x):=by rw [hF,hrl]
  simp [hlt]
  refine call_f (w_impl_DotProduct A[i] x hrl (by rw [hrl]; exact hd)) (by simp) rfl fun hs1 hh1=>?_
  try simp at hh1
  rw [<- hFi]
  have hmin : min i A.length = i:=by omega
  simp [hwi,hL,hmin]
  exact back (i + 1) (by omega) (by omega) rfl (by simp <;> omega) (by simp) (by simp [hst])
 ·have hn : i = A.length:=by omega
  subst hn
  simp [Jj,hF]
theorem w_impl_IsValidLinearProgram (A : List (List Xw)) (n : Nat) (h : LPok A n) :
  VC Tryz.prog 107 [.agg [.d (pS (cP eQ) A),.d (pS eQ (List.replicate A.length 1)),.d (pS eQ (List.replicate n 1))]] (fun _ r=>r = .d (.bool true)):=by
 have h1:=h.n1
 have h2:=h.n4
 have h3:=h.m1
 have h4:=h.m5
 have e1 : inR (n : Int) 1 5 = true:=by simp [inR]; omega
 have e2 : inR (A.length : Int) 1 5 = true:=by simp [inR]; omega
 refine VC.ofL EP sZ Tryz.func107 fun B hl=>?_
 clear hl
 simp [Tryz.f107]
 refine call_f (w_impl_within n 1 5) (by simp) rfl fun hs0 hh0=>?_
 simp [e1]
 refine call_f (w_impl_within A.length 1 5) (by simp) rfl fun hs1 hh1=>?_
 simp [e2]
 refine call_f (w_impl_allValid (List.replicate A.length 1) rep_sm) (by simp) rfl fun hs2 hh2=>?_
 simp
 refine call_f (w_impl_allValid (List.replicate n 1) rep_sm) (by simp) rfl fun hs3 hh3=>?_
 simp
 refine loop_rule (X:=Nat) (fun i=>i <= A.length) (fun i=>[(3,.d (.int .i64 n)),(41,.d (.pl (A.map (cP eQ)))),(42,.d (.int .i64 A.length)),(43,.d (.int .i64 i))]) (fun _=>[]) (fun i=>A.length - i) 0 (by simp) (by simp) (by simp) ?_
 intro i hs t m hi hh
 by_cases hlt : i < A.length
 ·have hwi:=wr1 (i:=i) (by omega)
  have hm:=Jy hlt
  have hrl:=h.m01.len _ hm
  simp [hlt,hrl]
  refine call_f (w_impl_allValid A[i] (h.sm hm)) (by simp) rfl fun hs1 hh1=>?_
  try simp at hh1
  simp [hwi]
  exact back (i + 1) (by omega) (by omega) rfl (by simp <;> omega) (by simp) (by simp)
 ·simp [hlt]
theorem w_impl_EqualRationals (a b : List Xw) : VC Tryz.prog 150 [.d (pS eQ a),.d (pS eQ b)] (fun _ r=>r = .d (.bool (decide (a = b)))):=by
 refine VC.ofL EP s150 Tryz.func150 fun B hl=>?_
 simp [maxLen] at hl
 by_cases hlen : a.length = b.length
 case neg=>
  have : a ≠ b:=fun e=>hlen (by rw [e])
  simp [Tryz.f150,hlen,this]
 simp [Tryz.f150,hlen]
 refine loop_rule (X:=Nat) (fun i=>i <= b.length /\ a.take i = b.take i) (fun i=>[(0,.d (.pl (a.map eQ))),(1,.d (.pl (b.map eQ))),(12,.d (.int .i64 b.length)),(13,.d (.int .i64 i))]) (fun _=>[]) (fun i=>b.length - i) 0 (by simp) (by simp) (by simp) ?_
 intro i hs t m hi hh
 by_cases hlt : i < b.length
 ·have hwi:=wr1 (i:=i) (by omega)
  have hla : i < a.length:=by omega
  have hst:=eq_step hla hlt hi.2
  have hq : a[i] = b[i] ↔ (a[i].num = b[i].num /\ (a[i].den : Int) = b[i].den):=by
   rw [<- qR_inj,PRat.eq_iff]; rfl
  by_cases he : a[i] = b[i]
  ·simp [hlt,hla,he,hwi]
   exact back (i + 1) ⟨by omega,hst.1 he⟩ (by omega) rfl (by simp <;> omega) (by simp) (by simp)
  ·have hab : a ≠ b:=fun e=>he (by subst e; rfl)
   rw [hq] at he
   by_cases h1 : a[i].num = b[i].num
   ·have h2 : ¬ a[i].den = b[i].den:=fun e=>he ⟨h1,by rw [e]⟩
    simp [hlt,hla,h1,h2,hab]
   ·simp [hlt,hla,h1,hab]
 ·have hab : a = b:=eq_all (by omega) hlen hi.2
  simp [hlt,hab]
theorem w_impl_feasible (A : List (List Xw)) (n : Nat) (x : List Xw) (h : LPok A n) (hx : SolB n x) :
  VC Tryz.prog 149 [.agg [.d (pS (cP eQ) A),.d (pS eQ (List.replicate A.length 1)),.d (pS eQ (List.replicate n 1))],.d (pS eQ x),.d (.int .i64 1)] (fun _ r=>r = .d (.bool (feasQ A x))):=by
 have hxl:=hx.len
 have hn4:=h.n4
 have hm5:=h.m5
 refine VC.ofL EP s149 Tryz.func149 fun B hl=>?_
 clear hl
 simp [Tryz.f149]
 refine call_f (w_impl_IsValidLinearProgram A n h) (by simp) rfl fun hs0 hh0=>?_
 simp [hxl]
 refine call_f (w_impl_allValid x (sol_sm hx h.n4)) (by simp) rfl fun hs1 hh1=>?_
 try simp at hh1
 simp
 refine loop_rule (X:=Nat) (fun i=>i <= x.length /\ ∀ q ∈ x.take i,0 <= q) (fun i=>[(1,.d (.pl (x.map eQ))),(2,.d (.int .i64 1)),(3,.ptr 3 0 0),(29,.d (.pl (x.map eQ))),(30,.d (.int .i64 x.length)),(31,.d (.int .i64 i))])
  (fun _=>[(3,some (.box [.d (.pl (A.map (cP eQ))),.d (.pl ((List.replicate A.length (1 : Xw)).map eQ)),.d (.pl ((List.replicate n (1 : Xw)).map eQ))]))]) (fun i=>x.length - i) 0 (by simp) (by simp [hxl]) (by simp) ?_
 intro i hs t m hi hh
 by_cases hlt : i < x.length
 ·have hwi:=wr1 (i:=i) (by omega)
  by_cases hneg : x[i].num < 0
  ·have hf : feasQ A x = false:=by
    have : ¬ 0 <= x[i]:=by rw [nneg_num]; omega
    rw [feasQ,Bool.and_eq_false_iff]
    left
    rw [List.all_eq_false]
    exact ⟨x[i],Jy hlt,by simp [this]⟩
   simp [hlt,hneg,hf]
  ·have h0 : 0 <= x[i]:=by rw [nneg_num]; omega
   simp [hlt,hneg,hwi]
   refine back (i + 1) ⟨by omega,fun q hq=>?_⟩ (by omega) rfl (by simp <;> omega) (by simp) (by simp)
   rw [Jz hlt] at hq
   rcases Qq.1 hq with hq | hq
   ·exact hi.2 q hq
   ·rw [Qg.1 hq]; exact h0
 have hin : i = x.length:=by omega
 obtain ⟨F,hF⟩ : ∃ F : List Xw -> Xw,F = fun r=>dotF x.length (fnL r) (fnL x):=⟨_,rfl⟩
 have hall : x.all (fun q=>decide (0 <= q)) = true:=by
  rw [Jk]; intro q hq
  exact decide_eq_true (hi.2 q (by rw [hin,Jj (Jv _)]; exact hq))
 simp [hlt]
 refine call_pq (post:=fun _ r=>r = .tup [.d (pS eQ (A.map F)),.d (.bool true)]) (by rw [hF]; exact w_impl_MatrixVectorProduct A x (by omega) (fun r hr=>by rw [h.m01.len r hr,hxl]) (fun r hr=>by rw [hxl]; exact h.dots hx hr)) (by simp) fun r2 n2 hs2 hn2 hm2 hp2 hl2=>?_
 subst hp2
 try simp at hn2
 simp
 refine loop_rule (X:=Nat) (fun j=>j <= A.length /\ ∀ r ∈ A.take j,1 <= F r) (fun j=>[(2,.d (.int .i64 1)),(3,.ptr 3 0 0),(48,.d (.pl ((A.map F).map eQ))),(49,.d (.int .i64 A.length)),(50,.d (.int .i64 j))])
  (fun _=>[(3,some (.box [.d (.pl (A.map (cP eQ))),.d (.pl ((List.replicate A.length (1 : Xw)).map eQ)),.d (.pl ((List.replicate n (1 : Xw)).map eQ))]))]) (fun j=>A.length - j) 0 (by simp) (by simp) (by simp) ?_
 intro j hs3 t3 m3 hj hh3
 by_cases hlj : j < A.length
 ·have hwj:=wr1 (i:=j) (by omega)
  have hm:=Jy hlj
  have hs:=(h.dots hx hm).ss n (Jv _)
  have hFj : smQ (F A[j]):=by rw [hF]; simp only [hxl]; exact hs
  have hw1 : ∀ z : Int,-1 <= z -> z <= 1 -> IntKind.i64.wrap z = z:=fun z h1 h2=>wrap64_of (by omega) (by omega)
  have hcb : -1 <= cmpQ (F A[j]) 1 /\ cmpQ (F A[j]) 1 <= 1:=by unfold cmpQ; split <;> (try split) <;> omega
  simp [hlj]
  refine call_f (w_impl_CompareRationals (F A[j]) 1 hFj sm_one) (by simp) rfl fun hs4 hh4=>?_
  try simp at hh4
  simp [hw1 _ hcb.1 hcb.2,hwj]
  by_cases hlt1 : F A[j] < 1
  ·have hf : feasQ A x = false:=by
    rw [feasQ,Bool.and_eq_false_iff]
    right
    rw [List.all_eq_false]
    refine ⟨A[j],hm,?_⟩
    have : ¬ 1 <= dotF x.length (fnL A[j]) (fnL x):=by rw [hF] at hlt1; simp only at hlt1; grind
    simp [this]
   simp [cmpQ_lt.2 hlt1,hf]
  ·have h0 : 1 <= F A[j]:=by grind
   have hc : ¬ cmpQ (F A[j]) 1 < 0:=fun e=>hlt1 (cmpQ_lt.1 e)
   simp [hc]
   refine back (j + 1) ⟨by omega,fun q hq=>?_⟩ (by omega) rfl (by simp <;> omega) (by simp) (by simp)
   rw [Jz hlj] at hq
   rcases Qq.1 hq with hq | hq
   ·exact hj.2 q hq
   ·rw [Qg.1 hq]; exact h0
 ·have hf : feasQ A x = true:=by
   rw [feasQ,hall,Bool.true_and,Jk]
   intro r hr
   have:=hj.2 r (by rw [Jj (by omega)]; exact hr)
   rw [hF] at this
   exact decide_eq_true this
  simp [hlj,hf]
theorem w_impl_bit (b : Bool) : VC Tryz.prog 109 [.d (.bool b)] (fun _ r=>r = .d (.int .i64 (if b then 1 else 0))):=by
 refine VC.ofL EP sZ Tryz.func109 fun B hl=>?_
 cases b <;> simp [Tryz.f109]
end
section
attribute [local simp] pS cP eQ_def
theorem w_spec_l13Square (A : List (List Xw)) (n m : Nat) (hb : A.length <= 4294967296) (hm : m <= 4294967296) (hr : ∀ r ∈ A,r.length = m) (hs : ∀ r ∈ A,∀ q ∈ r,smQ q) :
  VC Tryz.prog 135 [.d (pS (cP eQ) A),.d (.int .i64 n),.d (.int .i64 m)] (fun _ r=>r = .d (.bool (decide (A.length = n)))):=by
 refine VC.ofL EP sZ Tryz.func135 fun B hl=>?_
 clear hl
 simp [Tryz.f135]
 refine loop_rule (X:=Nat) (fun i=>i <= A.length) (fun i=>[(0,.d (.pl (A.map (cP eQ)))),(1,.d (.int .i64 n)),(2,.d (.int .i64 m)),(7,.d (.int .i64 i))]) (fun _=>[]) (fun i=>A.length - i) 0 (by simp) (by simp) (by simp) ?_
 intro i hs0 t m0 hi hh
 by_cases hlt : i < A.length
 ·have hwi:=wr1 (i:=i) (by omega)
  have hAm:=Jy hlt
  have hrl:=hr _ hAm
  simp [hlt,hrl]
  refine loop_rule (X:=Nat) (fun k=>k <= m) (fun k=>[(0,.d (.pl (A.map (cP eQ)))),(1,.d (.int .i64 n)),(2,.d (.int .i64 m)),(7,.d (.int .i64 i)),(8,.d (.int .i64 k))]) (fun _=>[]) (fun k=>m - k) 0 (by simp) (by simp) (by simp) ?_
  intro k hs1 t1 m1 hk hh1
  by_cases hkm : k < m
  ·have hwk:=wr1 (i:=k) (by omega)
   have hkl : k < A[i].length:=by omega
   refine anyQ fun Q=>?_
   simp [hlt,hkm,hkl]
   refine call_f (w_spec_IsValidRational A[i][k] (hs _ hAm _ (Jy hkl))) (by simp) rfl fun hs2 hh2=>?_
   try simp at hh2
   simp [hwk]
   exact back (k + 1) (by omega) (by omega) rfl (by simp <;> omega) (by simp) (by simp)
  ·simp [hkm,hwi]
   exact back (i + 1) (by omega) (by omega) rfl (by simp <;> omega) (by simp) (by simp)
 ·have hn : i = A.length:=by omega
  subst hn
  simp
theorem w_spec_IsValidLinearProgram (A : List (List Xw)) (n : Nat) (h : LPok A n) :
  VC Tryz.prog 110 [.agg [.d (pS (cP eQ) A),.d (pS eQ (List.replicate A.length 1)),.d (pS eQ (List.replicate n 1))]] (fun _ r=>r = .d (.bool true)):=by
 have h1:=h.n1
 have h2:=h.n4
 have h3:=h.m1
 have h4:=h.m5
 have e1 : inR (n : Int) 1 5 = true:=by simp [inR]; omega
 have e2 : inR (A.length : Int) 1 5 = true:=by simp [inR]; omega
 refine VC.ofL EP sZ Tryz.func110 fun B hl=>?_
 clear hl
 simp [Tryz.f110]
 refine call_f (w_spec_l1In n 1 5) (by simp) rfl fun hs0 hh0=>?_
 simp [e1]
 refine call_f (w_spec_l1In A.length 1 5) (by simp) rfl fun hs1 hh1=>?_
 simp [e2]
 refine call_f (w_spec_l13Square A A.length n (by omega) (by omega) h.m01.len (fun r hr=>h.sm hr)) (by simp) rfl fun hs2 hh2=>?_
 simp
 refine call_f (w_spec_l13Square [List.replicate n 1] 1 n (by simp) (by omega) (by simp) (by simp [sm_one])) (by simp) rfl fun hs3 hh3=>?_
 simp
 refine call_f (w_spec_l13Square [List.replicate A.length 1] 1 A.length (by simp) (by omega) (by simp) (by simp [sm_one])) (by simp) rfl fun hs3 hh3=>?_
 simp
theorem w_spec_l14Plus (n : Nat) (hb : n <= 4294967296) : VC Tryz.prog 111 [.d (pS eQ (List.replicate n 1))] (fun _ r=>r = .d (.bool true)):=by
 refine VC.ofL EP sZ Tryz.func111 fun B hl=>?_
 clear hl
 simp [Tryz.f111]
 refine loop_rule (X:=Nat) (fun i=>i <= n) (fun i=>[(0,.d (.pl ((List.replicate n (1 : Xw)).map eQ))),(3,.d (.int .i64 i))]) (fun _=>[]) (fun i=>n - i) 0 (by simp) (by simp) (by simp) ?_
 intro i hs t m hi hh
 by_cases hlt : i < n
 ·have hwi:=wr1 (i:=i) (by omega)
  simp [hlt,hwi]
  exact back (i + 1) (by omega) (by omega) rfl (by simp <;> omega) (by simp) (by simp)
 ·simp [hlt]
theorem w_spec_DotProduct (u v : List Xw) (hlen : u.length = v.length) (h : DotS u.length (fnL u) (fnL v)) :
  VC Tryz.prog 137 [.d (pS eQ u),.d (pS eQ v)] (fun _ r=>r = .tup [.agg [.d (.int .i64 (dotF u.length (fnL u) (fnL v)).num),.d (.int .i64 ((dotF u.length (fnL u) (fnL v)).den : Int))],.d (.bool true)]):=by
 refine VC.ofL EP s137 Tryz.func137 fun B hl=>?_
 simp [maxLen] at hl
 simp [Tryz.f137,hlen]
 refine loop_rule (X:=Nat) (fun i=>i <= v.length) (fun i=>[(0,.d (.pl (u.map eQ))),(1,.d (.pl (v.map eQ))),(4,.ptr 4 0 0),(6,.ptr 6 0 0),(7,.d (.int .i64 i))]) (fun i=>[(4,some (.box [.d (.int .i64 0),.d (.int .i64 0)])),(6,some (.box [.d (.int .i64 (dotF i (fnL u) (fnL v)).num),.d (.int .i64 ((dotF i (fnL u) (fnL v)).den : Int))]))]) (fun i=>v.length - i) 0 (by simp) (by simp) (by simp [dotF]) ?_
 intro i hs t m hi hh
 by_cases hlt : i < v.length
 ·have hwi:=wr1 (i:=i) (by omega)
  have hlu : i < u.length:=by omega
  have a1:=h.sa i hlu
  have a2:=h.sx i hlu
  have a3:=h.sm i hlu
  have a4:=h.ss i (by omega)
  have a5:=h.ss (i + 1) (by omega)
  have e : dotF (i + 1) (fnL u) (fnL v) = dotF i (fnL u) (fnL v) + u[i] * v[i]:=by rw [dotF,fnL_at hlu,fnL_at hlt]
  rw [fnL_at hlu] at a1 a3
  rw [fnL_at hlt] at a2 a3
  rw [e] at a5
  simp [hlt,hlu,hlen]
  refine ⟨?_,?_⟩
  all_goals
   refine call_f (w_spec_MulRational u[i] v[i] a1 a2 a3) (by simp) rfl fun hs1 hh1=>?_
   try simp at hh1
   simp
   refine call_f (w_spec_AddRational (dotF i (fnL u) (fnL v)) (u[i] * v[i]) a4 a3 a5) (by simp) rfl fun hs2 hh2=>?_
   try simp at hh2
   simp [hwi]
   exact back (i + 1) (by omega) (by omega) rfl (by simp <;> omega) (by simp) (by simp [e])
 ·have hn : i = v.length:=by omega
  simp [hlt,hn,hlen]
theorem w_spec_MatrixVectorProduct (A : List (List Xw)) (x : List Xw) (hb : A.length <= 4294967296) (hr : ∀ r ∈ A,r.length = x.length) (h : ∀ r ∈ A,DotS x.length (fnL r) (fnL x)) :
  VC Tryz.prog 169 [.d (pS (cP eQ) A),.d (pS eQ x)] (fun _ r=>r = .tup [.d (pS eQ (A.map fun r=>dotF x.length (fnL r) (fnL x))),.d (.bool true)]):=by
 refine VC.ofL EP sZ Tryz.func169 fun B hl=>?_
 clear hl
 simp [Tryz.f169]
 obtain ⟨F,hF⟩ : ∃ F : List Xw -> Xw,F = fun r=>dotF x.length (fnL r) (fnL x):=⟨_,rfl⟩
 refine loop_rule (X:=Nat) (fun i=>i <= A.length) (fun i=>[(0,.d (.pl (A.map (cP eQ)))),(1,.d (.pl (x.map eQ))),(6,.own 10 0 i),(7,.d (.int .i64 i))]) (fun i=>[(10,some (.row 62 2 (((A.take i).map F).map eQ)))]) (fun i=>A.length - i) 0 (by simp) (by simp) (by simp) ?_
 intro i hs t m hi hh
 by_cases hlt : i < A.length
 ·have hwi:=wr1 (i:=i) (by omega)
  have hL : LenOk 16 (i + 1):=⟨by omega,by simp only [maxLen]; omega⟩
  have hm:=Jy hlt
  have hd:=h _ hm
  have hrl:=hr _ hm
  have hst : (A.map (eQ ∘ F)).take (i + 1) = (A.map (eQ ∘ F)).take i ++ [eQ (F A[i])]:=by rw [Jz (by simpa using hlt)]; simp
  have hFi : F A[i] = dotF A[i].length (fnL A[i]) (fnL x):=by rw [hF,hrl]
  have hmin : min i A.length = i:=by omega
  simp [hlt]
  refine call_f (w_spec_DotProduct A[i] x hrl (by rw [hrl]; exact hd)) (by simp) rfl fun hs1 hh1=>?_
  try simp at hh1
  rw [<- hFi]
  simp [hwi,hL,hmin]
  exact back (i + 1) (by omega) (by omega) rfl (by simp <;> omega) (by simp) (by simp [hst])
 ·have hn : i = A.length:=by omega
  subst hn
  simp [Jj,hF]
theorem w_spec_EqualRationals (a b : List Xw) : VC Tryz.prog 157 [.d (pS eQ a),.d (pS eQ b)] (fun _ r=>r = .d (.bool (decide (a = b)))):=by
 refine VC.ofL EP s157 Tryz.func157 fun B hl=>?_
 simp [maxLen] at hl
 by_cases hlen : a.length = b.length
 case neg=>
  have : a ≠ b:=fun e=>hlen (by rw [e])
  simp [Tryz.f157,hlen,this]
 simp [Tryz.f157,hlen]
 refine loop_rule (X:=Nat) (fun i=>i <= b.length /\ a.take i = b.take i) (fun i=>[(0,.d (.pl (a.map eQ))),(1,.d (.pl (b.map eQ))),(5,.d (.int .i64 i))]) (fun _=>[]) (fun i=>b.length - i) 0 (by simp) (by simp) (by simp) ?_
 intro i hs t m hi hh
 by_cases hlt : i < b.length
 ·have hwi:=wr1 (i:=i) (by omega)
  have hla : i < a.length:=by omega
  have hst:=eq_step hla hlt hi.2
  have hq : a[i] = b[i] ↔ (a[i].num = b[i].num /\ (a[i].den : Int) = b[i].den):=by
   rw [<- qR_inj,PRat.eq_iff]; rfl
  by_cases he : a[i] = b[i]
  ·simp [hlt,hla,he,hwi,hlen]
   exact back (i + 1) ⟨by omega,hst.1 he⟩ (by omega) rfl (by simp <;> omega) (by simp) (by simp)
  ·have hab : a ≠ b:=fun e=>he (by subst e; rfl)
   rw [hq] at he
   by_cases h1 : a[i].num = b[i].num
   ·have h2 : ¬ a[i].den = b[i].den:=fun e=>he ⟨h1,by rw [e]⟩
    simp [hlt,hla,h1,h2,hab,hlen]
   ·simp [hlt,hla,h1,hab,hlen]
 ·have hab : a = b:=eq_all (by omega) hlen hi.2
  simp [hlt,hab]
theorem w_spec_l14Side (A : List (List Xw)) (n : Nat) (x : List Xw) (h : LPok A n) (hx : SolB n x) :
  VC Tryz.prog 156 [.agg [.d (pS (cP eQ) A),.d (pS eQ (List.replicate A.length 1)),.d (pS eQ (List.replicate n 1))],.d (pS eQ x),.d (.int .i64 1)] (fun _ r=>r = .d (.bool (feasQ A x))):=by
 have hxl:=hx.len
 have hn4:=h.n4
 have hm5:=h.m5
 have hxs:=sol_sm hx h.n4
 refine VC.ofL EP s156 Tryz.func156 fun B hl=>?_
 clear hl
 simp [Tryz.f156]
 refine call_f (w_spec_IsValidLinearProgram A n h) (by simp) rfl fun hs0 hh0=>?_
 try simp at hh0
 simp [hxl]
 refine loop_rule (X:=Nat) (fun i=>i <= x.length /\ ∀ q ∈ x.take i,0 <= q) (fun i=>[(1,.d (.pl (x.map eQ))),(2,.d (.int .i64 1)),(3,.ptr 3 0 0),(7,.d (.int .i64 i))])
  (fun _=>[(3,some (.box [.d (.pl (A.map (cP eQ))),.d (.pl ((List.replicate A.length (1 : Xw)).map eQ)),.d (.pl ((List.replicate n (1 : Xw)).map eQ))]))]) (fun i=>x.length - i) 0 (by simp) (by simp) (by simp) ?_
 intro i hs t m hi hh
 by_cases hlt : i < x.length
 ·have hwi:=wr1 (i:=i) (by omega)
  simp [hlt]
  refine call_f (w_spec_IsValidRational x[i] (hxs _ (Jy hlt))) (by simp) rfl fun hs1 hh1=>?_
  try simp at hh1
  by_cases hneg : x[i].num < 0
  ·have hf : feasQ A x = false:=by
    have : ¬ 0 <= x[i]:=by rw [nneg_num]; omega
    rw [feasQ,Bool.and_eq_false_iff]
    left
    rw [List.all_eq_false]
    exact ⟨x[i],Jy hlt,by simp [this]⟩
   simp [hlt,hneg,hf]
  ·have h0 : 0 <= x[i]:=by rw [nneg_num]; omega
   simp [hlt,hneg,hwi]
   refine back (i + 1) ⟨by omega,fun q hq=>?_⟩ (by omega) rfl (by simp <;> omega) (by simp) (by simp)
   rw [Jz hlt] at hq
   rcases Qq.1 hq with hq | hq
   ·exact hi.2 q hq
   ·rw [Qg.1 hq]; exact h0
 have hin : i = x.length:=by omega
 obtain ⟨F,hF⟩ : ∃ F : List Xw -> Xw,F = fun r=>dotF x.length (fnL r) (fnL x):=⟨_,rfl⟩
 have hall : x.all (fun q=>decide (0 <= q)) = true:=by
  rw [Jk]; intro q hq
  exact decide_eq_true (hi.2 q (by rw [hin,Jj (Jv _)]; exact hq))
 simp [hlt]
 refine call_pq (post:=fun _ r=>r = .tup [.d (pS eQ (A.map F)),.d (.bool true)]) (by rw [hF]; exact w_spec_MatrixVectorProduct A x (by omega) (fun r hr=>by rw [h.m01.len r hr,hxl]) (fun r hr=>by rw [hxl]; exact h.dots hx hr)) (by simp) fun r2 n2 hs2 hn2 hm2 hp2 hl2=>?_
 subst hp2
 try simp at hn2
 simp
 refine loop_rule (X:=Nat) (fun j=>j <= A.length /\ ∀ r ∈ A.take j,1 <= F r) (fun j=>[(2,.d (.int .i64 1)),(3,.ptr 3 0 0),(8,.d (.pl ((A.map F).map eQ))),(9,.d (.bool true)),(10,.d (.int .i64 j))])
  (fun _=>[(3,some (.box [.d (.pl (A.map (cP eQ))),.d (.pl ((List.replicate A.length (1 : Xw)).map eQ)),.d (.pl ((List.replicate n (1 : Xw)).map eQ))]))]) (fun j=>A.length - j) 0 (by simp) (by simp) (by simp) ?_
 intro j hs3 t3 m3 hj hh3
 by_cases hlj : j < A.length
 ·have hwj:=wr1 (i:=j) (by omega)
  have hm:=Jy hlj
  have hs:=(h.dots hx hm).ss n (Jv _)
  have hFj : smQ (F A[j]):=by rw [hF]; simp only [hxl]; exact hs
  have hw1 : ∀ z : Int,-1 <= z -> z <= 1 -> IntKind.i64.wrap z = z:=fun z h1 h2=>wrap64_of (by omega) (by omega)
  have hcb : -1 <= cmpQ (F A[j]) 1 /\ cmpQ (F A[j]) 1 <= 1:=by unfold cmpQ; split <;> (try split) <;> omega
  simp [hlj]
  refine call_f (w_spec_CompareRationals (F A[j]) 1 hFj sm_one) (by simp) rfl fun hs4 hh4=>?_
  try simp at hh4
  simp [hw1 _ hcb.1 hcb.2,hwj]
  by_cases hlt1 : F A[j] < 1
  ·have hf : feasQ A x = false:=by
    rw [feasQ,Bool.and_eq_false_iff]
    right
    rw [List.all_eq_false]
    refine ⟨A[j],hm,?_⟩
    have : ¬ 1 <= dotF x.length (fnL A[j]) (fnL x):=by rw [hF] at hlt1; simp only at hlt1; grind
    simp [this]
   simp [cmpQ_lt.2 hlt1,hf]
  ·have h0 : 1 <= F A[j]:=by grind
   have hc : ¬ cmpQ (F A[j]) 1 < 0:=fun e=>hlt1 (cmpQ_lt.1 e)
   simp [hc]
   refine back (j + 1) ⟨by omega,fun q hq=>?_⟩ (by omega) rfl (by simp <;> omega) (by simp) (by simp)
   rw [Jz hlj] at hq
   rcases Qq.1 hq with hq | hq
   ·exact hj.2 q hq
   ·rw [Qg.1 hq]; exact h0
 ·have hf : feasQ A x = true:=by
   rw [feasQ,hall,Bool.true_and,Jk]
   intro r hr
   have:=hj.2 r (by rw [Jj (by omega)]; exact hr)
   rw [hF] at this
   exact decide_eq_true this
  simp [hlj,hf]
end
@[simp] theorem startX3 (a b c : V) (W : List Nat) (B : Nat) : St.startX [a, b, c] W none B = ⟨B, B, W, upd (upd (upd (fun _ => .tup []) 2 c) 1 b) 0 a, fun _ => none⟩ := by
  simp only [St.startX,St.mk.injEq,true_and]
  refine ⟨?_,startX_m W⟩
  funext i; match i with | 0=>rfl | 1=>rfl | 2=>rfl | _ + 3=>rfl
section
attribute [local simp] pS cP eQ_def
theorem x_impl_eliminate (g gp : Nat) (T : TypeId × Nat) (Tp : Option (TypeId × Nat)) (p n : Nat) (v r : List Xw) (h : ElimS n p v r) (hn : n <= 4) (hg : gp ≠ g) :
  VX Tryz.prog 162 [g] [.d (.sl (some g) (some T) (r.map eQ)),.d (.sl (some gp) Tp (v.map eQ)),.d (.int .i64 p)] none (fun _ res _ ws=>res = .d (.bool true) /\ ws = [.sl (some g) (some T) ((elimR p v r).map eQ)]):=by
 refine VX.of E s162 Tryz.func162 ?_ ?_ fun B hB=>?_
 ·exact fun q hq=>.inl (by simp [idsVL,V.ids,D.ids]; simp at hq; exact .inl hq)
 ·exact fun cs h=>nomatch h
 have hlr:=h.lr
 have hlv:=h.lv
 have hp:=h.hp
 have ep : fnL r p = r[p]'(by omega):=fnL_at (by omega)
 have ev : fnL v p = v[p]'(by omega):=fnL_at (by omega)
 have hf:=h.f
 have hr1:=h.r p hp
 have hv1:=h.v p hp
 have hne:=h.ne
 obtain ⟨f,hfd⟩ : ∃ f,f = fnL r p / fnL v p:=⟨_,rfl⟩
 rw [<- hfd] at hf
 have hdiv:=w_impl_DivRational (fnL r p) (fnL v p) hr1 hv1 hne (by rw [<- hfd]; exact hf)
 rw [<- hfd,ep,ev] at hdiv
 have hpv : ∀ d,reV (one g d) (.d (.sl (some gp) Tp (v.map eQ))) = .d (.sl (some gp) Tp (v.map eQ)):=fun d=>by
  have : one g d gp = none:=one_out hg
  simp [reV,reD,this]
 simp [Tryz.f162,show p < r.length by omega,show p < v.length by omega]
 refine ⟨?_,?_⟩
 all_goals
  refine call_pure hdiv rfl (by simp) rfl fun hs0 hh0=>?_
  try simp at hh0
  simp
  refine loop_rule (X:=Nat) (fun k=>p <= k /\ k <= n + 1) (fun k=>[(0,.d (.sl (some g) (some T) ((elimT p k v r).map eQ))),(1,.d (.sl (some gp) Tp (v.map eQ))),(7,.ptr 7 0 0),(9,.d (.int .i64 k))]) (fun k=>[(7,some (.box [.d (.int .i64 f.num),.d (.int .i64 (f.den : Int))]))]) (fun k=>n + 1 - k) p (by omega) (by simp [elimT_zero]) (by simp) ?_
  intro k hs t m hk hh
  by_cases hlt : k < n + 1
  ·have hwk:=wr1 (i:=k) (by omega)
   have hkr : k < r.length:=by omega
   have hkv : k < v.length:=by omega
   have hqk:=h.q k (by omega)
   have hdk:=h.d k (by omega)
   have hrk:=h.r k (by omega)
   have hvk:=h.v k (by omega)
   have est:=elimT_succ (piv:=v) hk.1 hkr
   rw [<- hfd,fnL_at hkv] at hqk
   rw [fnL_at hkv] at hvk
   rw [fnL_at hkr] at hrk
   rw [<- hfd,fnL_at hkv,fnL_at hkr] at hdk
   rw [<- hfd,fnL_at hkv] at est
   have hat:=elimT_at (p:=p) (piv:=v) hkr
   obtain ⟨y,hy⟩ : ∃ y,y = r[k] - f * v[k]:=⟨_,rfl⟩
   have hmul:=w_impl_MulRational f v[k] hf hvk hqk
   have hsub:=w_impl_SubRational r[k] (f * v[k]) hrk hqk hdk
   rw [<- hy] at hsub est
   obtain ⟨L,hL⟩ : ∃ L,L = elimT p k v r:=⟨_,rfl⟩
   have hLl : L.length = n + 1:=by rw [hL]; simp [hlr]
   have hLk : k < L.length:=by omega
   have hat' : L[k] = r[k]:=by subst hL; exact hat
   rw [<- hL] at est ⊢
   have est2 : (L.map eQ).set k [.int .i64 y.num,.int .i64 (y.den : Int)] = (elimT p (k + 1) v r).map eQ:=by
    rw [est,<- set_map]; rfl
   have hLl2 : (elimT p (k + 1) v r).length = L.length:=by rw [est]; simp
   have hself:=re_self (g:=g) (T:=T) hLl2
   simp [hLk,hkv]
   refine ⟨?_,?_⟩
   all_goals
    refine call_pure hmul rfl (by simp) rfl fun hs1 hh1=>?_
    try simp at hh1
    simp [hLk,hat']
    refine ⟨?_,?_⟩
    all_goals
     refine call_pure hsub rfl (by simp) rfl fun hs2 hh2=>?_
     try simp at hh2
     simp [hLk,est2,hpv,hself,hwk]
     refine back (k + 1) (by omega) (by omega) rfl (by simp <;> omega) (by simp) (by simp)
  ·have hkn : k = n + 1:=by omega
   subst hkn
   simp [hlr,vendX]
   refine ⟨[0],fun γ hs' h1 h2=>?_⟩
   simp [elimT_all (show r.length <= n + 1 by omega)]
end
theorem w_condI {P : Program} {E : Md} {sch : Nat -> Tr} {Q : Exit -> St -> Prop} {σ : St} (c : Operand) (x y : Code) : vwp P E sch (.cond c x y) Q σ = (isBool (σ.ev c) = true /\ if getB (σ.ev c) = true then vwp P E sch x Q σ else vwp P E sch y Q σ):=by
 rw [w_cond]
 cases getB (σ.ev c) <;> simp
section
attribute [local simp] pS cP eQ_def
theorem x_spec_l13Step (gm : Nat) (TM : Option (TypeId × Nat)) (T : TypeId × Nat) (rows : List (Nat × List Xw)) (p n : Nat) (hn : n <= 4) (hl : rows.length = n) (hp : p < n) (hnd : (rows.map (·.1)).Nodup) (hgm : gm ∉ rows.map (·.1))
  (hlen : ∀ r ∈ rows,r.2.length = n + 1) (hs : ∀ i (hi : i < rows.length),ElimS n p (rows[p]'(by omega)).2 rows[i].2) :
  VX Tryz.prog 167 (rows.map (·.1)) [.d (.sl (some gm) TM (rows.map (cR T))),.d (.int .i64 p)] none
   (fun _ res _ ws=>res = .d (.bool true) /\ ∃ rows' : List (Nat × List Xw),rows'.map (·.1) = rows.map (·.1) /\ rows'.map (·.2) = stepM p (rows.map (·.2)) /\ ws = [.sl (some gm) TM (rows'.map (cR T))]):=by
 refine VX.of E s167 Tryz.func167 ?_ ?_ fun B hB=>?_
 ·exact fun q hq=>.inl (by simp only [idsVL,V.ids,D.ids,List.append_nil,ids_cRs]; exact List.mem_append_right _ hq)
 ·exact fun cs h=>nomatch h
 obtain ⟨M,hM⟩ : ∃ M,M = rows.map (·.2):=⟨_,rfl⟩
 obtain ⟨ids,hids⟩ : ∃ ids,ids = rows.map (·.1):=⟨_,rfl⟩
 have hMl : M.length = n:=by rw [hM]; simpa using hl
 have hil : ids.length = n:=by rw [hids]; simpa using hl
 have hMi : ∀ i (hi : i < rows.length),M[i]'(by omega) = rows[i].2:=fun i hi=>by subst hM; simp
 rw [<- hM]
 simp [-w_condT,w_condI,Tryz.f167]
 refine loop_rule (X:=Nat × List (Nat × List Xw)) (fun x=>x.1 <= n /\ x.2.map (·.1) = ids /\ x.2.map (·.2) = stepQ p x.1 M) (fun x=>[(0,.d (.sl (some gm) TM (x.2.map (cR T)))),(1,.d (.int .i64 p)),(5,.d (.int .i64 x.1))]) (fun _=>[]) (fun x=>n - x.1) (0,rows) ⟨by omega,hids.symm,by rw [stepQ_zero]; exact hM.symm⟩ (by simp) (by simp) ?_
 rintro ⟨i,R⟩ hs0 t m ⟨h1,h2,h3⟩ hh
 simp only at h1 h2 h3
 have hRl : R.length = n:=by have:=congrArg List.length h2; simpa [hil] using this
 by_cases hlt : i < n
 ·have hwi:=wr1 (i:=i) (by omega)
  by_cases hip : i = p
  ·subst hip
   simp [-w_condT,w_condI,hRl,hlt,hwi]
   exact back (i + 1,R) ⟨by simp only; omega,h2,by rw [h3]; exact stepQ_p.symm⟩ (by simp only; omega) rfl (by simp <;> omega) (by simp) (by simp)
  have hiR : i < R.length:=by omega
  have hpR : p < R.length:=by omega
  obtain ⟨gi,r,hRi⟩ : ∃ gi r,R[i] = (gi,r):=⟨_,_,rfl⟩
  obtain ⟨gp,v,hRp⟩ : ∃ gp v,R[p] = (gp,v):=⟨_,_,rfl⟩
  have hE:=hs i (by omega)
  have er : r = rows[i].2:=by
   have a1 : (R.map (·.2))[i]'(by simpa using hiR) = r:=by simp [hRi]
   have a2 : (stepQ p i M)[i]'(by simp; omega) = rows[i].2:=by rw [stepQ_at (by omega)]; exact hMi i (by omega)
   rw [<- a1,<- a2]; congr 1
  have ev : v = (rows[p]'(by omega)).2:=by
   have a1 : (R.map (·.2))[p]'(by simpa using hpR) = v:=by simp [hRp]
   have a2 : (stepQ p i M)[p]'(by simp; omega) = (rows[p]'(by omega)).2:=by rw [stepQ_piv (by omega)]; exact hMi p (by omega)
   rw [<- a1,<- a2]; congr 1
  rw [<- er,<- ev] at hE
  have hRnd : (R.map (·.1)).Nodup:=by rw [h2,hids]; exact hnd
  have gi1 : (R.map (·.1))[i]? = some gi:=by simp [hiR,hRi]
  have gp1 : (R.map (·.1))[p]? = some gp:=by simp [hpR,hRp]
  have hgip : gp ≠ gi:=fun e=>hip (nd_idx hRnd gi1 (by rw [gp1,e]))
  have hgi : gi ∈ ids:=by rw [<- h2]; exact Qk gi1
  have hgim : gi ≠ gm:=fun e=>hgm (by rw [<- e,<- hids]; exact hgi)
  have hlr:=hE.lr
  have hlv:=hE.lv
  obtain ⟨es,hes⟩ : ∃ es,es = R.map (cR T):=⟨_,rfl⟩
  have hesl : es.length = n:=by rw [hes]; simpa using hRl
  have hei : es[i]'(by omega) = [.sl (some gi) (some T) (r.map eQ)]:=by subst hes; simp [hRi,cR]
  have hep : es[p]'(by omega) = [.sl (some gp) (some T) (v.map eQ)]:=by subst hes; simp [hRp,cR]
  have hpr : p < r.length:=by omega
  have hpv' : p < v.length:=by omega
  have hst : stepQ p (i + 1) M = (stepQ p i M).set i (elimR p v r):=by
   rw [stepQ_succ (by omega) (by omega) hip]
   rw [hMi i (by omega),hMi p (by omega),<- er,<- ev]
  rw [<- hes]
  by_cases hz : r[p].num = 0
  ·have hz' : fnL r p = 0:=by rw [fnL_at hpr]; exact _root_.Rat.num_eq_zero.1 hz
   simp [-w_condT,w_condI,hesl,hlt,hip,hp,hei,hpr,hz,hwi]
   refine back (i + 1,R) ⟨by simp only; omega,h2,?_⟩ (by simp only; omega) rfl (by simp <;> omega) (by simp [hes]) (by simp)
   rw [h3,hst,elim_zero hz']
   rw [set_same]
   rw [Jw (by simp; omega),stepQ_at (by omega),hMi i (by omega),<- er]
  have ep : fnL r p = r[p]:=fnL_at hpr
  have ew : fnL v p = v[p]:=fnL_at hpv'
  have hf:=hE.f
  have hr1:=hE.r p (by omega)
  have hv1:=hE.v p (by omega)
  have hne:=hE.ne
  obtain ⟨f,hfd⟩ : ∃ f,f = fnL r p / fnL v p:=⟨_,rfl⟩
  rw [<- hfd] at hf
  have hdiv:=w_spec_DivRational (fnL r p) (fnL v p) hr1 hv1 hne (by rw [<- hfd]; exact hf)
  rw [<- hfd,ep,ew] at hdiv
  simp [-w_condT,w_condI,hesl,hlt,hip,hp,hei,hep,hpr,hpv',hz]
  refine ⟨?_,?_⟩
  all_goals
   refine call_pure hdiv rfl (by simp) rfl fun hs1 hh1=>?_
   try simp at hh1
   simp [-w_condT,w_condI]
   refine loop_rule (X:=Nat) (fun k=>p <= k /\ k <= n + 1) (fun k=>[(0,.d (.sl (some gm) TM ((R.set i (gi,elimT p k v r)).map (cR T)))),(1,.d (.int .i64 p)),(5,.d (.int .i64 i)),(6,.ptr 6 0 0),(7,.d (.bool true)),(8,.d (.int .i64 k))]) (fun _=>[(6,some (.box [.d (.int .i64 f.num),.d (.int .i64 (f.den : Int))]))]) (fun k=>n + 1 - k) p (by omega) ?_ (by simp) ?_
   ·rw [elimT_zero,<- hRi,List.set_getElem_self]
    simp [hes]
   intro k hs2 t2 m2 hk hh2
   obtain ⟨L,hL⟩ : ∃ L,L = elimT p k v r:=⟨_,rfl⟩
   have hLl : L.length = n + 1:=by rw [hL]; simp [hlr]
   rw [<- hL]
   obtain ⟨es2,hes2⟩ : ∃ es2,es2 = (R.set i (gi,L)).map (cR T):=⟨_,rfl⟩
   have hes2l : es2.length = n:=by rw [hes2]; simpa using hRl
   have hei2 : es2[i]'(by omega) = [.sl (some gi) (some T) (L.map eQ)]:=by subst hes2; simp [cR]
   have hep2 : es2[p]'(by omega) = [.sl (some gp) (some T) (v.map eQ)]:=by subst hes2; simp [List.getElem_set,hip,hRp,cR]
   by_cases hltk : k < n + 1
   ·have hwk:=wr1 (i:=k) (by omega)
    have hkr : k < r.length:=by omega
    have hkv : k < v.length:=by omega
    have hkL : k < L.length:=by omega
    have hqk:=hE.q k (by omega)
    have hdk:=hE.d k (by omega)
    have hrk:=hE.r k (by omega)
    have hvk:=hE.v k (by omega)
    have est:=elimT_succ (piv:=v) hk.1 hkr
    rw [<- hfd,fnL_at hkv] at hqk
    rw [fnL_at hkv] at hvk
    rw [fnL_at hkr] at hrk
    rw [<- hfd,fnL_at hkv,fnL_at hkr] at hdk
    rw [<- hfd,fnL_at hkv] at est
    have hat:=elimT_at (p:=p) (piv:=v) hkr
    obtain ⟨y,hy⟩ : ∃ y,y = r[k] - f * v[k]:=⟨_,rfl⟩
    have hmul:=w_spec_MulRational f v[k] hf hvk hqk
    have hsub:=w_spec_SubRational r[k] (f * v[k]) hrk hqk hdk
    rw [<- hy] at hsub est
    have hat' : L[k] = r[k]:=by subst hL; exact hat
    rw [<- hL] at est
    have est2 : (L.map eQ).set k [.int .i64 y.num,.int .i64 (y.den : Int)] = (elimT p (k + 1) v r).map eQ:=by
     rw [est,<- set_map]; rfl
    have hLl2 : (elimT p (k + 1) v r).length = L.length:=by rw [est]; simp
    have hre : reV (one gi (.sl (some gi) (some T) ((elimT p (k + 1) v r).map eQ))) (.d (.sl (some gm) TM es2)) = .d (.sl (some gm) TM ((R.set i (gi,elimT p (k + 1) v r)).map (cR T))):=by
     have hfs : (R.set i (gi,L)).map (·.1) = R.map (·.1):=by
      rw [List.map_set]; exact set_same gi1
     have:=re_rowQ (φ:=one gi (.sl (some gi) (some T) ((elimT p (k + 1) v r).map eQ))) (gm:=gm) (TM:=TM) (T:=T) (rows:=R.set i (gi,L)) (i:=i) (g:=gi) (r:=L) (r':=elimT p (k + 1) v r) (by simp [hiR]) hLl2 (by rw [hfs]; exact hRnd) (one_out (Ne.symm hgim)) (by simp [one]) (fun q _ hqg=>one_out hqg)
     rw [hes2,this,List.set_set]
    rw [<- hes2]
    simp [-w_condT,w_condI,hes2l,hlt,hp,hei2,hep2,hkL,hkv]
    refine ⟨?_,?_⟩
    all_goals
     refine call_pure hmul rfl (by simp) rfl fun hs3 hh3=>?_
     try simp at hh3
     simp [-w_condT,w_condI,hes2l,hlt,hei2,hkL,hat']
     refine ⟨?_,?_⟩
     all_goals
      refine call_pure hsub rfl (by simp) rfl fun hs4 hh4=>?_
      try simp at hh4
      simp [-w_condT,w_condI,hes2l,hlt,hei2,hkL,est2,hre,hwk]
      refine ⟨.inr ?_,?_⟩
      ·rw [hids] at hgi; simpa using hgi
      exact back (k + 1) (by omega) (by omega) rfl (by simp <;> omega) (by simp) (by simp)
   ·have hkn : k = n + 1:=by omega
    have hLL : L = elimR p v r:=by rw [hL]; exact elimT_all (by omega)
    rw [<- hes2]
    simp [-w_condT,w_condI,hes2l,hlt,hei2,hkn,hLl,hwi]
    refine back (i + 1,R.set i (gi,L)) ⟨by simp only; omega,?_,?_⟩ (by simp only; omega) rfl (by simp <;> omega) (by simp [hes2]) (by simp)
    ·simp only [List.map_set]; rw [<- h2]; exact set_same gi1
    ·simp only [List.map_set]; rw [h3,hst,hLL]
 ·have hin : i = n:=by omega
  subst hin
  simp [-w_condT,w_condI,hRl,vendX]
  refine ⟨[0],fun γ hs' _ _=>?_⟩
  simp
  exact ⟨R,by rw [h2,hids],by rw [h3]; exact stepQ_all (by omega),rfl⟩
end
section
attribute [local simp] pS cP eQ_def
theorem e_impl_copyRationals1 (l : List Xw) (hb : l.length <= 4294967296) (hne : l ≠ []) :
  VC Tryz.prog 146 [.d (pS eQ l)] (fun n r=>∃ g : Nat,r = .d (.sl (some g) (some (62,2)) (l.map eQ)) /\ n <= g):=
 (e_impl_copyRationals l hb).weak fun n r ⟨g,h1,h2,h3⟩=>by
  cases g with
  | none=>exact absurd (h3 rfl) hne
  | some g=>exact ⟨g,h1,h2 g rfl⟩
structure RowI (R : List (List Xw)) (B i : Nat) (rows : List (Nat × List Xw)) (hs : Nat) : Prop where
 le : i <= R.length
 snd : rows.map (·.2) = R.take i
 nd : (rows.map (·.1)).Nodup
 lo : ∀ g ∈ rows.map (·.1),B <= g
 hi : ∀ g ∈ rows.map (·.1),g < hs
theorem RowI.len {R : List (List Xw)} {B i hs : Nat} {rows : List (Nat × List Xw)} (h : RowI R B i rows hs) : rows.length = i:=by
 have h1:=congrArg List.length h.snd
 have h2:=h.le
 simp only [List.length_map,Zq] at h1
 omega
theorem RowI.snoc {R : List (List Xw)} {B i hs hs' : Nat} {rows : List (Nat × List Xw)} (h : RowI R B i rows hs) (hi : i < R.length) {g : Nat} (h1 : B <= g) (h2 : g < hs') (h3 : g ∉ rows.map (·.1)) (h4 : hs <= hs') : RowI R B (i + 1) (rows ++ [(g,R[i])]) hs':=by
 refine ⟨hi,?_,?_,fun q hq=>?_,fun q hq=>?_⟩
 ·rw [Zj,h.snd,Jz hi]; rfl
 ·rw [Zj,List.nodup_append]
  refine ⟨h.nd,by simp,fun a ha b hb=>?_⟩
  simp at hb
  rintro rfl
  exact h3 (hb ▸ ha)
 ·rw [Zj] at hq
  rcases Qq.1 hq with hq | hq
  ·exact h.lo q hq
  ·simp at hq; rw [hq]; exact h1
 ·rw [Zj] at hq
  rcases Qq.1 hq with hq | hq
  ·exact Xq (h.hi q hq) h4
  ·simp at hq; rw [hq]; exact h2
structure MatI (R : List (List Xw)) (n B p gm : Nat) (rows : List (Nat × List Xw)) : Prop where
 pn : p <= n
 gj : gj R p = some (rows.map (·.2))
 nd : (rows.map (·.1)).Nodup
 lo : ∀ g ∈ rows.map (·.1),B <= g
 gB : B <= gm
 gN : gm ∉ rows.map (·.1)
theorem MatI.fst {R : List (List Xw)} {n B p gm : Nat} {rows rows' : List (Nat × List Xw)} (h : MatI R n B p gm rows) (hp : (rows'.map (·.1)).Perm (rows.map (·.1))) : (rows'.map (·.1)).Nodup /\ (∀ g ∈ rows'.map (·.1),B <= g) /\ gm ∉ rows'.map (·.1):=
 ⟨hp.nodup_iff.2 h.nd,fun g hg=>h.lo g (hp.mem_iff.1 hg),fun hg=>h.gN (hp.mem_iff.1 hg)⟩
theorem e_impl_SolveLinearSystem (n : Nat) (R : List (List Xw)) (hn1 : 1 <= n) (hn : n <= 4) (hl0 : R.length = n) (hr : ∀ r ∈ R,r.length = n + 1) (h01 : ∀ r ∈ R,∀ q ∈ r,q = 0 \/ q = 1) :
  VC Tryz.prog 148 [.d (pS (cP eQ) (R.map (·.take n))),.d (pS eQ (R.map fun r=>fnL r n))]
   (fun _ r=>match solQ n R with
    | some x=>∃ id T,r = .tup [.d (.sl id T (x.map eQ)),.d (.bool true)]
    | none=>r = .tup [.d (.sl none none []),.d (.bool false)]):=by
 have hb : Bd n 0 R:=bd_01 hl0 h01
 obtain ⟨RB,hRB⟩ : ∃ RB,RB = R.map fun r=>fnL r n:=⟨_,rfl⟩
 obtain ⟨MA,hMA⟩ : ∃ MA,MA = R.map (·.take n):=⟨_,rfl⟩
 have hRBl : RB.length = n:=by rw [hRB]; simpa using hl0
 have hMAl : MA.length = n:=by rw [hMA]; simpa using hl0
 have hRBs : ∀ q ∈ RB,smQ q:=fun q hq=>by
  rw [hRB] at hq
  obtain ⟨r,hr',rfl⟩:=Xz.1 hq
  have:=hr r hr'
  rw [fnL_at (by omega)]
  exact sm_01 (h01 r hr' _ (Jy _))
 have hMAi : ∀ i (hi : i < R.length),MA[i]'(by omega) = R[i].take n:=fun i hi=>by subst hMA; simp
 have hRBi : ∀ i (hi : i < R.length),RB[i]'(by omega) = fnL R[i] n:=fun i hi=>by subst hRB; simp
 rw [<- hRB,<- hMA]
 refine VC.of E s148 Tryz.func148 fun B=>?_
 simp [-w_condT,w_condI,Tryz.f148,hRBl,hMAl,show (n : Int) <= 6 by omega,show ¬ (6 : Int) < n by omega]
 refine call_pure (w_impl_allValid RB hRBs) rfl (by simp) rfl fun hs0 hh0=>?_
 try simp at hh0
 simp [-w_condT,w_condI,hMAl]
 refine loop_ruleL (X:=Nat × List (Nat × List Xw)) (fun x hs=>RowI R B x.1 x.2 hs) (fun x=>[(1,.d (.pl (RB.map eQ))),(6,.d (.int .i64 n)),(7,.own 700 0 x.2.length),(32,.d (.pl (MA.map (cP eQ)))),(33,.d (.int .i64 n)),(34,.d (.int .i64 x.1))])
  (fun x=>[(700,some (.row 101 1 (x.2.map (cR (62,2)))))]) (fun x=>n - x.1) ?_ ?_
 ·refine (lead_slot 7 700 101 1 (by omega) (by omega) (by simp)).bind ?_
  rintro _ rfl
  exact Lead.of ⟨(0,[]),⟨by simp,by simp,by simp,by simp,by simp⟩,rfl,rfl,Jv _,by simp,by simp⟩
 rintro ⟨i,rows⟩ hs1 t m hI hh1
 simp only
 have hIl : rows.length = i:=hI.len
 have hle : i <= R.length:=hI.le
 by_cases hlt : i < n
 ·have hiR : i < R.length:=by omega
  have hwi:=wr1 (i:=i) (by omega)
  have hrm:=Jy hiR
  have hrl:=hr _ hrm
  obtain ⟨a,ha⟩ : ∃ a,a = MA[i]'(by omega):=⟨_,rfl⟩
  have ha2 : a = R[i].take n:=by rw [ha]; exact hMAi i hiR
  have hal : a.length = n:=by rw [ha2]; simp; omega
  have hasm : ∀ q ∈ a,smQ q:=fun q hq=>by rw [ha2] at hq; exact sm_01 (h01 _ hrm q (List.mem_of_mem_take hq))
  obtain ⟨b,hb'⟩ : ∃ b,b = RB[i]'(by omega):=⟨_,rfl⟩
  have hab : a ++ [b] = R[i]:=by rw [ha2,hb',hRBi i hiR]; exact app_last hrl
  refine anyQ2 fun Q=>?_
  simp [-w_condT,w_condI,hlt,hMAl,<- ha,hal]
  refine call_pure (w_impl_allValid a hasm) rfl (by simp) rfl fun hs2 hh2=>?_
  try simp at hh2
  simp [-w_condT,w_condI,hRBl,hlt,<- hb']
  have hane : a ≠ []:=fun e=>by rw [e] at hal; simp at hal; omega
  have hL1 : LenOk 16 (n + 1):=⟨by omega,by simp only [maxLen]; omega⟩
  have hL2 : LenOk 24 (i + 1):=⟨by omega,by simp only [maxLen]; omega⟩
  have htk : (a.map eQ ++ [eQ b]).take (n + 1) = a.map eQ ++ [eQ b]:=Jj (by simp; omega)
  rw [eQ_def b] at htk
  refine ⟨?_,?_⟩
  all_goals
   refine call_o (e_impl_copyRationals1 a (by omega) hane) (by simp) fun r2 n2 hs3 hn2 hm2 hp2=>?_
   obtain ⟨g2,rfl,hg2⟩:=hp2
   refine ⟨62,2,a.map eQ,by omega,.inr ⟨g2,rfl,hg2,by simp⟩,?_⟩
   try simp at hn2
   simp [-w_condT,w_condI,hal,hIl,hRBl,hlt,<- hb',hL1]
   refine bs1 (k':=50) (ks:=[]) (by simp) (by simp) fun γ hs4 h4 hg=>?_
   obtain ⟨q1,q2⟩:=gam_at hg (k:=50) (T:=62) (sz:=2) (es:=(a ++ [b]).map eQ) (by simp)
   have q3:=gam_row2 hg (k:=50) (k2:=700) (T:=62) (sz:=2) (es:=(a ++ [b]).map eQ) (T2:=101) (sz2:=1) (es2:=rows.map (cR (62,2))) (by simp) (by simp)
   clear hg
   obtain ⟨g,hgk⟩:=Option.ne_none_iff_exists'.1 (q2 (by simp))
   obtain ⟨q4,q5⟩:=q1 g hgk
   replace q4 : B <= g:=q4
   have q6:=q3 g hgk
   simp only [ids_cRs] at q6
   simp at h4
   simp [-w_condT,w_condI,hal,hIl,hL2,hgk,hwi]
   refine back2 (i + 1,rows ++ [(g,R[i])]) (hI.snoc (hs':=hs4) hiR q4 q5 q6 (by omega)) (by simp only; omega) rfl (by simp <;> omega) (by simp [hIl]) (by simp [cR,<- hab,htk])
 have hin : i = n:=by omega
 subst hin
 have hrows : rows.map (·.2) = R:=by rw [hI.snd,Jj (by omega)]
 simp [-w_condT,w_condI,hIl]
 refine loop_ruleL (X:=Nat × Nat × List (Nat × List Xw)) (fun x _=>MatI R i B x.1 x.2.1 x.2.2) (fun x=>[(6,.d (.int .i64 i)),(7,.d (.sl (some x.2.1) (some (101,1)) (x.2.2.map (cR (62,2))))),(10,.d (.int .i64 x.1))]) (fun _=>[]) (fun x=>i - x.1) ?_ ?_
 ·refine (lead_frz 700 (T:=101) (sz:=1) (es:=rows.map (cR (62,2))) (by simp)).bind ?_
  rintro _ ⟨γ,hs',g1,hg,rfl⟩
  obtain ⟨q1,q2⟩:=gam_at hg (k:=700) (T:=101) (sz:=1) (es:=rows.map (cR (62,2))) (by simp)
  have q3:=gam_row hg (k:=700) (T:=101) (sz:=1) (es:=rows.map (cR (62,2))) (by simp)
  clear hg
  have hne : rows.map (cR (62,2)) ≠ []:=fun e=>by have:=congrArg List.length e; simp at this; subst this; simp at hIl; omega
  obtain ⟨gm,hgm⟩:=Option.ne_none_iff_exists'.1 (q2 hne)
  have q4 : B <= gm:=(q1 gm hgm).1
  have q5:=q3 gm hgm
  simp only [ids_cRs] at q5
  have htk : (rows.map (cR (62,2))).take i = rows.map (cR (62,2)):=Jj (by simp; omega)
  exact Lead.of ⟨(0,gm,rows),⟨by simp,by rw [hrows]; rfl,hI.nd,hI.lo,q4,q5⟩,rfl,rfl,g1,by simp [hgm,hIl,htk],by simp⟩
 rintro ⟨p,gm,S⟩ hs2 t2 m2 hM hh2
 clear hI hIl hrows
 have hpn : p <= i:=hM.pn
 obtain ⟨TM,hTM⟩ : ∃ TM : TypeId × Nat,TM = (101,1):=⟨_,rfl⟩
 obtain ⟨T,hT⟩ : ∃ T : TypeId × Nat,T = (62,2):=⟨_,rfl⟩
 simp only [<- hTM,<- hT]
 have hgj:=gj_inv hl0 hr hb p hpn _ hM.gj
 have hSl : S.length = i:=by have:=hgj.1.len; simpa using this
 have hSr : ∀ k (hk : k < S.length),S[k].2.length = i + 1:=fun k hk=>hgj.1.row _ (Xz.2 ⟨_,Jy hk,rfl⟩)
 have hSq : ∀ k (hk : k < S.length) j,rowQ (S.map (·.2)) k j = fnL S[k].2 j:=fun k hk j=>by rw [rowQ,gd (by simpa using hk)]; simp
 by_cases hlt2 : p < i
 ·have hwp:=wr1 (i:=p) (by omega)
  simp [-w_condT,w_condI,hlt2]
  refine loop_rule (X:=Nat) (fun k=>p <= k /\ k <= i /\ ∀ j,p <= j -> j < k -> rowQ (S.map (·.2)) j p = 0) (fun k=>[(6,.d (.int .i64 i)),(7,.d (.sl (some gm) (some TM) (S.map (cR T)))),(10,.d (.int .i64 p)),(11,.d (.int .i64 k))]) (fun _=>[]) (fun k=>i - k) p ⟨by omega,by omega,fun j h1 h2=>by omega⟩ (by simp) (by simp) ?_
  intro k hs3 t3 m3 hk hh3
  by_cases hki : k < i
  ·have hwk:=wr1 (i:=k) (by omega)
   obtain ⟨gk,r,hSk⟩ : ∃ gk r,S[k]'(by omega) = (gk,r):=⟨_,_,rfl⟩
   have hrl : r.length = i + 1:=by have:=hSr k (by omega); rw [hSk] at this; exact this
   have hpr : p < r.length:=by omega
   have hq : rowQ (S.map (·.2)) k p = r[p]:=by rw [hSq k (by omega),hSk]; exact fnL_at hpr
   obtain ⟨es,hes⟩ : ∃ es,es = S.map (cR T):=⟨_,rfl⟩
   have hesl : es.length = i:=by rw [hes]; simpa using hSl
   have hek : es[k]'(by omega) = [.sl (some gk) (some T) (r.map eQ)]:=by subst hes; simp [hSk,cR]
   rw [<- hes]
   by_cases hz : r[p].num = 0
   ·refine anyQ fun Q=>?_
    simp [-w_condT,w_condI,hki,hesl,hek,hpr,hz,hwk]
    refine back (k + 1) ⟨by omega,by omega,fun j h1 h2=>?_⟩ (by omega) rfl (by simp <;> omega) (by simp [hes]) (by simp)
    by_cases e : j = k
    ·subst e; rw [hq]; exact _root_.Rat.num_eq_zero.1 hz
    ·exact hk.2.2 j h1 (by omega)
   have hpv : pivAt (S.map (·.2)) p = k:=piv_eq hk.1 hk.2.2 (.inr ⟨by simp; omega,by rw [hq]; exact fun e=>hz (by rw [e]; rfl)⟩)
   have hst:=stp_of hn hl0 hr hb hM.gj hlt2 hpv hki
   obtain ⟨gp,v,hSp⟩ : ∃ gp v,S[p]'(by omega) = (gp,v):=⟨_,_,rfl⟩
   have hep : es[p]'(by omega) = [.sl (some gp) (some T) (v.map eQ)]:=by subst hes; simp [hSp,cR]
   have hgk : gk ∈ S.map (·.1):=Xz.2 ⟨_,Jy (show k < S.length by omega),by rw [hSk]⟩
   have hgp : gp ∈ S.map (·.1):=Xz.2 ⟨_,Jy (show p < S.length by omega),by rw [hSp]⟩
   have hmk : gm ≠ gk:=fun e=>hM.gN (e ▸ hgk)
   have hmp : gm ≠ gp:=fun e=>hM.gN (e ▸ hgp)
   have hpe : p < es.length:=by omega
   have hgB:=hM.gB
   have hn1 : gm ∉ idsLL es:=by rw [hes,ids_cRs]; exact hM.gN
   obtain ⟨es1,hes1⟩ : ∃ es1,es.set p [.sl (some gk) (some T) (r.map eQ)] = es1:=⟨_,rfl⟩
   have hes1l : es1.length = i:=by rw [<- hes1]; simpa using hesl
   have hn2 : gm ∉ idsLL es1:=by rw [<- hes1]; exact nin_set hn1 (by simp [idsL,D.ids,hmk])
   have hek1 : ∃ c,es1[k]'(by omega) = [c]:=by
    subst hes1; rw [List.getElem_set]; split
    ·exact ⟨_,rfl⟩
    ·exact ⟨_,hek⟩
   obtain ⟨c1,hek1⟩:=hek1
   have hre1:=re_mset (gm:=gm) (TM:=TM) (es:=es) (i:=p) (e':=[.sl (some gk) (some T) (r.map eQ)]) hpe (by rw [hep]; rfl)
   rw [hes1] at hre1
   obtain ⟨es2,hes2⟩ : ∃ es2,es1.set k [.sl (some gp) (some T) (v.map eQ)] = es2:=⟨_,rfl⟩
   have hre2:=re_mset (gm:=gm) (TM:=TM) (es:=es1) (i:=k) (e':=[.sl (some gp) (some T) (v.map eQ)]) (by omega) (by rw [hek1]; rfl)
   rw [hes2] at hre2
   have hrk : ∀ d,reV (one gm d) (.d (.sl (some gk) (some T) (r.map eQ))) = .d (.sl (some gk) (some T) (r.map eQ)):=fun d=>re_rowout (one_out (Ne.symm hmk))
   have hrp : ∀ d,reV (one gm d) (.d (.sl (some gp) (some T) (v.map eQ))) = .d (.sl (some gp) (some T) (v.map eQ)):=fun d=>re_rowout (one_out (Ne.symm hmp))
   have hek1' : es1[k]? = some [c1]:=by rw [Jw (by omega),hek1]
   simp [-w_condT,w_condI,hki,hesl,hek,hep,hpr,hz,hlt2,hgB,hn1,hn2,hmk,hmp,hes1,hre1,hes1l,hek1,hek1',hes2,hre2,hrk,hrp,show ¬ (k : Int) = i by omega,show k ≠ i by omega]
   have hpS : p < S.length:=by omega
   have hkS : k < S.length:=by omega
   obtain ⟨S2,hS2⟩ : ∃ S2,S2 = swapR S p k:=⟨_,rfl⟩
   obtain ⟨M2,hM2⟩ : ∃ M2,M2 = S2.map (·.2):=⟨_,rfl⟩
   have hM2s : M2 = swapM (S.map (·.2)) p k:=by rw [hM2,hS2,swapR_snd]
   have hS2e : es2 = S2.map (cR T):=by
    rw [hS2,swapR_set hpS hkS,<- hes2,<- hes1,hes,<- set_map,<- set_map,hSk,hSp]; rfl
   have hpm : (S2.map (·.1)).Perm (S.map (·.1)):=by rw [hS2]; exact (swapR_perm hpS hkS).map _
   obtain ⟨f1,f2,f3⟩:=hM.fst hpm
   obtain ⟨ids,hids⟩ : ∃ ids,ids = S2.map (·.1):=⟨_,rfl⟩
   rw [<- hids] at f1 f2 f3
   have hsl:=hst.len
   have hsr:=hst.row
   have hse:=hst.safe
   have hsn:=hst.ne
   have hnx:=hst.nxt
   rw [<- hM2s] at hsl hsr hse hsn hnx
   have hidl : ids.length = i:=by rw [hids,hS2]; simp [swapR_len,hSl]
   refine loop_rule (X:=Nat × List (Nat × List Xw)) (fun x=>x.1 <= i /\ x.2.map (·.1) = ids /\ x.2.map (·.2) = stepQ p x.1 M2) (fun x=>[(6,.d (.int .i64 i)),(7,.d (.sl (some gm) (some TM) (x.2.map (cR T)))),(10,.d (.int .i64 p)),(12,.d (.int .i64 x.1))]) (fun _=>[]) (fun x=>i - x.1) (0,S2) ⟨by omega,hids.symm,by rw [stepQ_zero]; exact hM2.symm⟩ (by simp [hS2e]) (by simp) ?_
   rintro ⟨j,Y⟩ hs4 t4 m4 ⟨h1,h2,h3⟩ hh4
   simp only at h1 h2 h3
   have hYl : Y.length = i:=by have:=congrArg List.length h2; simpa [hidl] using this
   by_cases hji : j < i
   ·have hwj:=wr1 (i:=j) (by omega)
    refine anyQ fun Q=>?_
    by_cases hjp : j = p
    ·subst hjp
     simp [-w_condT,w_condI,hji,hYl,hwj]
     exact back (j + 1,Y) ⟨by simp only; omega,h2,by rw [h3]; exact stepQ_p.symm⟩ (by simp only; omega) rfl (by simp <;> omega) (by simp) (by simp)
    have hjY : j < Y.length:=by omega
    have hpY : p < Y.length:=by omega
    obtain ⟨gj,u,hYj⟩ : ∃ gj u,Y[j] = (gj,u):=⟨_,_,rfl⟩
    obtain ⟨gq,w,hYp⟩ : ∃ gq w,Y[p] = (gq,w):=⟨_,_,rfl⟩
    have eu : u = M2[j]'(by omega):=by
     have a1 : (Y.map (·.2))[j]'(by simpa using hjY) = u:=by simp [hYj]
     have a2 : (stepQ p j M2)[j]'(by simp; omega) = M2[j]'(by omega):=stepQ_at (by omega)
     rw [<- a1,<- a2]; congr 1
    have ew : w = M2[p]'(by omega):=by
     have a1 : (Y.map (·.2))[p]'(by simpa using hpY) = w:=by simp [hYp]
     have a2 : (stepQ p j M2)[p]'(by simp; omega) = M2[p]'(by omega):=stepQ_piv (by omega)
     rw [<- a1,<- a2]; congr 1
    have hE:=hse.elim hsl hsr hlt2 hji hsn
    rw [<- eu,<- ew] at hE
    have gj1 : (Y.map (·.1))[j]? = some gj:=by simp [hjY,hYj]
    have gq1 : (Y.map (·.1))[p]? = some gq:=by simp [hpY,hYp]
    have hYnd : (Y.map (·.1)).Nodup:=by rw [h2]; exact f1
    have hgne : gq ≠ gj:=fun e=>hjp (nd_idx hYnd gj1 (by rw [gq1,e]))
    have hgj : gj ∈ ids:=by rw [<- h2]; exact Qk gj1
    have hgjm : gj ≠ gm:=fun e=>f3 (e ▸ hgj)
    have hgjB:=f2 _ hgj
    have hul:=hE.lr
    have hpu : p < u.length:=by omega
    obtain ⟨ys,hys⟩ : ∃ ys,ys = Y.map (cR T):=⟨_,rfl⟩
    have hysl : ys.length = i:=by rw [hys]; simpa using hYl
    have hyj : ys[j]'(by omega) = [.sl (some gj) (some T) (u.map eQ)]:=by subst hys; simp [hYj,cR]
    have hyp : ys[p]'(by omega) = [.sl (some gq) (some T) (w.map eQ)]:=by subst hys; simp [hYp,cR]
    have hst2 : stepQ p (j + 1) M2 = (stepQ p j M2).set j (elimR p w u):=by
     rw [stepQ_succ (by omega) (by omega) hjp,<- eu,<- ew]
    rw [<- hys]
    by_cases hz2 : u[p].num = 0
    ·have hz' : fnL u p = 0:=by rw [fnL_at hpu]; exact _root_.Rat.num_eq_zero.1 hz2
     simp [-w_condT,w_condI,hysl,hji,hjp,hyj,hpu,hz2,hwj]
     refine back (j + 1,Y) ⟨by simp only; omega,h2,?_⟩ (by simp only; omega) rfl (by simp <;> omega) (by simp [hys]) (by simp)
     rw [h3,hst2,elim_zero hz',set_same]
     rw [Jw (by simp; omega),stepQ_at (by omega),<- eu]
    have hre : reV (one gj (.sl (some gj) (some T) ((elimR p w u).map eQ))) (.d (.sl (some gm) (some TM) ys)) = .d (.sl (some gm) (some TM) ((Y.set j (gj,elimR p w u)).map (cR T))):=by
     rw [hys]
     exact re_rowQ (φ:=one gj (.sl (some gj) (some T) ((elimR p w u).map eQ))) (gm:=gm) (T:=T) (rows:=Y) (i:=j) (g:=gj) (r:=u) (r':=elimR p w u) (by simp [hjY,hYj]) (by simp [elimR]) hYnd (one_out (Ne.symm hgjm)) (by simp [one]) (fun q _ hqg=>one_out hqg)
    simp [-w_condT,w_condI,hysl,hji,hlt2,hjp,hyj,hyp,hpu,hz2]
    refine call_x (E162) (by simp) (by simp) (by simp) (fun q hq=>.inl (by simp at hq; rw [hq]; exact hgjB)) (x_impl_eliminate gj gq T (some T) p i w u hE hn hgne) fun n5 hs5 r5 cs5 ws5 hn5 hm5 hp5 hr5 hw5=>?_
    obtain ⟨rfl,rfl⟩:=hp5
    try simp at hn5
    simp [-w_condT,w_condI,phi_single,hre,hwj]
    refine back (j + 1,Y.set j (gj,elimR p w u)) ⟨by simp only; omega,?_,?_⟩ (by simp only; omega) rfl (by simp <;> omega) (by simp) (by simp)
    ·simp only [List.map_set]; rw [<- h2]; exact set_same gj1
    ·simp only [List.map_set]; rw [h3,hst2]
   ·have hjn : j = i:=by omega
    subst hjn
    rw [stepQ_all (by omega)] at h3
    simp [-w_condT,w_condI,hwp]
    refine back2 (p + 1,gm,Y) ⟨by omega,by rw [h3]; exact hnx,by rw [h2]; exact f1,by rw [h2]; exact f2,hgB,by rw [h2]; exact f3⟩ (by simp only; omega) rfl (by simp <;> omega) (by simp) (by simp)
  ·have hki2 : k = i:=by omega
   have hpv : pivAt (S.map (·.2)) p = k:=piv_eq hk.1 hk.2.2 (.inl (by simp; omega))
   have hno:=sol_none hM.gj (by rw [hpv]; simp; omega) hlt2
   rw [hno]
   simp [-w_condT,w_condI,hki,hki2]
 have hpi : p = i:=by omega
 subst hpi
 obtain ⟨-,e2,e3,e4,e5⟩:=sol_end hn hl0 hr hb hM.gj
 rw [e3]
 obtain ⟨F,hF⟩ : ∃ F : Nat -> Xw,F = fun j=>rowQ (S.map (·.2)) j p / rowQ (S.map (·.2)) j j:=⟨_,rfl⟩
 have hout : outM p (S.map (·.2)) = (List.range p).map F:=by rw [hF]; rfl
 rw [hout]
 simp [-w_condT,w_condI]
 refine loop_ruleL (X:=Nat) (fun j _=>j <= p) (fun j=>[(6,.d (.int .i64 p)),(7,.d (.sl (some gm) (some TM) (S.map (cR T)))),(13,.own 701 0 j),(14,.d (.int .i64 j))]) (fun j=>[(701,some (.row 62 2 (((List.range j).map F).map eQ)))]) (fun j=>p - j) ?_ ?_
 ·refine (lead_slot 13 701 62 2 (by omega) (by omega) (by simp)).bind ?_
  rintro _ rfl
  exact Lead.of ⟨0,by omega,rfl,rfl,Jv _,by simp,by simp⟩
 intro j hs6 t6 m6 hj hh6
 by_cases hjp : j < p
 ·have hwj:=wr1 (i:=j) (by omega)
  have hjS : j < S.length:=by omega
  obtain ⟨g,r,hSj⟩ : ∃ g r,S[j] = (g,r):=⟨_,_,rfl⟩
  have hrl : r.length = p + 1:=by have:=hSr j hjS; rw [hSj] at this; exact this
  have hjr : j < r.length:=by omega
  have hpr : p < r.length:=by omega
  have hj5:=e5 j (by simpa using hjS)
  simp only [List.getElem_map,hSj] at hj5
  obtain ⟨d1,d2,d3,d4⟩:=hj5
  have hFj : F j = fnL r p / fnL r j:=by rw [hF]; simp only [hSq j hjS,hSj]
  have hdiv:=w_impl_DivRational (fnL r p) (fnL r j) d3 d2 d1 d4
  rw [<- hFj,fnL_at hpr,fnL_at hjr] at hdiv
  have hL : LenOk 16 (j + 1):=⟨by omega,by simp only [maxLen]; omega⟩
  obtain ⟨es,hes⟩ : ∃ es,es = S.map (cR T):=⟨_,rfl⟩
  have hesl : es.length = p:=by rw [hes]; simpa using hSl
  have hej : es[j]'(by omega) = [.sl (some g) (some T) (r.map eQ)]:=by subst hes; simp [hSj,cR]
  rw [<- hes]
  refine anyQ2 fun Q=>?_
  simp [-w_condT,w_condI,hjp,hesl,hej,hjr,hpr]
  refine ⟨?_,?_⟩
  all_goals
   refine call_pure hdiv rfl (by simp) rfl fun hs7 hh7=>?_
   try simp at hh7
   simp [-w_condT,w_condI,hL,hwj]
   refine back2 (j + 1) (by omega) (by omega) rfl (by simp <;> omega) (by simp [hes]) (by simp [List.range_succ])
 ·have hjn : j = p:=by omega
  subst hjn
  simp [-w_condT,w_condI]
  intro γ hs' h1 hg
  clear hg
  have htk : (List.map (eQ ∘ F) (List.range j)).take j = List.map (eQ ∘ F) (List.range j):=Jj (by simp)
  have hpp : hpLL (List.map (eQ ∘ F) (List.range j)) = false:=by rw [<- List.map_map]; exact hp_eQs _
  rw [htk]
  simp [hpp]
end
section
attribute [local simp] pS cP eQ_def
def solV (n : Nat) (R : List (List Xw)) : V:=match solQ n R with
 | some x=>.tup [.d (.pl (x.map eQ)),.d (.bool true)]
 | none=>.tup [.d (.pl []),.d (.bool false)]
theorem er_eQ : ∀ l : List Xw,erLL (l.map eQ) = l.map eQ
 | []=>rfl
 | a :: r=>by simp only [Qz,erLL,er_eQ r]; rfl
theorem w_impl_SolveLinearSystem (n : Nat) (R : List (List Xw)) (hn1 : 1 <= n) (hn : n <= 4) (hl0 : R.length = n) (hr : ∀ r ∈ R,r.length = n + 1) (h01 : ∀ r ∈ R,∀ q ∈ r,q = 0 \/ q = 1) :
  VC Tryz.prog 148 [.d (pS (cP eQ) (R.map (·.take n))),.d (pS eQ (R.map fun r=>fnL r n))] (fun _ r=>r = solV n R):=by
 refine VC.erase (e_impl_SolveLinearSystem n R hn1 hn hl0 hr h01) fun _ r h=>?_
 unfold solV
 cases e : solQ n R with
 | none=>rw [e] at h; subst h; rfl
 | some x =>
   rw [e] at h
   obtain ⟨id,T,rfl⟩:=h
   simp [rp,rpL,D.er,er_eQ]
theorem e_spec_SolveLinearSystem (n : Nat) (R : List (List Xw)) (hn1 : 1 <= n) (hn : n <= 4) (hl0 : R.length = n) (hr : ∀ r ∈ R,r.length = n + 1) (h01 : ∀ r ∈ R,∀ q ∈ r,q = 0 \/ q = 1) :
  VC Tryz.prog 155 [.d (pS (cP eQ) (R.map (·.take n))),.d (pS eQ (R.map fun r=>fnL r n))]
   (fun _ r=>match solQ n R with
    | some x=>∃ id T,r = .tup [.d (.sl id T (x.map eQ)),.d (.bool true)]
    | none=>∃ id T,r = .tup [.d (.sl id T []),.d (.bool false)]):=by
 have hb : Bd n 0 R:=bd_01 hl0 h01
 obtain ⟨RB,hRB⟩ : ∃ RB,RB = R.map fun r=>fnL r n:=⟨_,rfl⟩
 obtain ⟨MA,hMA⟩ : ∃ MA,MA = R.map (·.take n):=⟨_,rfl⟩
 have hRBl : RB.length = n:=by rw [hRB]; simpa using hl0
 have hMAl : MA.length = n:=by rw [hMA]; simpa using hl0
 have hRBs : ∀ q ∈ RB,smQ q:=fun q hq=>by
  rw [hRB] at hq
  obtain ⟨r,hr',rfl⟩:=Xz.1 hq
  have:=hr r hr'
  rw [fnL_at (by omega)]
  exact sm_01 (h01 r hr' _ (Jy _))
 have hMAi : ∀ i (hi : i < R.length),MA[i]'(by omega) = R[i].take n:=fun i hi=>by subst hMA; simp
 have hRBi : ∀ i (hi : i < R.length),RB[i]'(by omega) = fnL R[i] n:=fun i hi=>by subst hRB; simp
 rw [<- hRB,<- hMA]
 refine VC.of E s155 Tryz.func155 fun B=>?_
 have hMAr : ∀ r ∈ MA,r.length = n:=fun r hr'=>by
  rw [hMA] at hr'
  obtain ⟨r',h1,rfl⟩:=Xz.1 hr'
  have:=hr r' h1
  simp; omega
 have hMAs : ∀ r ∈ MA,∀ q ∈ r,smQ q:=fun r hr' q hq=>by
  rw [hMA] at hr'
  obtain ⟨r',h1,rfl⟩:=Xz.1 hr'
  exact sm_01 (h01 r' h1 q (List.mem_of_mem_take hq))
 simp [-w_condT,w_condI,Tryz.f155,hRBl,hMAl,show (n : Int) <= 6 by omega,show ¬ (6 : Int) < n by omega]
 refine call_pure (w_spec_l13Square MA n n (by omega) (by omega) hMAr hMAs) (by simp) (by simp) rfl fun hs0 hh0=>?_
 try simp at hh0
 simp [-w_condT,w_condI,hMAl]
 refine loop_ruleL (X:=Nat × List (Nat × List Xw)) (fun x hs=>RowI R B x.1 x.2 hs) (fun x=>[(0,.d (.pl (MA.map (cP eQ)))),(1,.d (.pl (RB.map eQ))),(6,.d (.int .i64 n)),(7,.own 28 0 x.2.length),(8,.d (.int .i64 x.1))])
  (fun x=>[(28,some (.row 101 1 (x.2.map (cR (62,2)))))]) (fun x=>n - x.1) ?_ ?_
 ·exact Lead.of ⟨(0,[]),⟨by simp,by simp,by simp,by simp,by simp⟩,rfl,rfl,Jv _,by simp,by simp⟩
 rintro ⟨i,rows⟩ hs1 t m hI hh1
 simp only
 have hIl : rows.length = i:=hI.len
 have hle : i <= R.length:=hI.le
 by_cases hlt : i < n
 ·have hiR : i < R.length:=by omega
  have hwi:=wr1 (i:=i) (by omega)
  have hrm:=Jy hiR
  have hrl:=hr _ hrm
  obtain ⟨a,ha⟩ : ∃ a,a = MA[i]'(by omega):=⟨_,rfl⟩
  have ha2 : a = R[i].take n:=by rw [ha]; exact hMAi i hiR
  have hal : a.length = n:=by rw [ha2]; simp; omega
  obtain ⟨b,hb'⟩ : ∃ b,b = RB[i]'(by omega):=⟨_,rfl⟩
  have hbs : smQ b:=hRBs b (by rw [hb']; exact Jy _)
  have hab : a ++ [b] = R[i]:=by rw [ha2,hb',hRBi i hiR]; exact app_last hrl
  have hane : a ≠ []:=fun e=>by rw [e] at hal; simp at hal; omega
  have hL0 : LenOk 16 n:=⟨by omega,by simp only [maxLen]; omega⟩
  have hL1 : LenOk 16 (n + 1):=⟨by omega,by simp only [maxLen]; omega⟩
  have hL2 : LenOk 24 (i + 1):=⟨by omega,by simp only [maxLen]; omega⟩
  have htk : (a.map eQ ++ [eQ b]).take (n + 1) = a.map eQ ++ [eQ b]:=Jj (by simp; omega)
  rw [eQ_def b] at htk
  have htk0 : (a.map eQ).take n = a.map eQ:=Jj (by simp; omega)
  have hlen0 : ∀ l ∈ a.map eQ,l.length = 2:=fun l hl=>by obtain ⟨q,_,rfl⟩:=Xz.1 hl; rfl
  refine anyQ2 fun Q=>?_
  simp [-w_condT,w_condI,hlt,hRBl,<- hb']
  refine call_pure (w_spec_IsValidRational b hbs) rfl (by simp) rfl fun hs2 hh2=>?_
  try simp at hh2
  simp [-w_condT,w_condI,hRBl,hMAl,hlt,<- ha,<- hb',hal,hL0,hL1,htk0]
  refine ⟨⟨?_,?_⟩,?_⟩
  all_goals
   refine bs1 (k':=42) (ks:=[]) (by simp) (by simp) fun γ hs4 h4 hg=>?_
   obtain ⟨q1,q2⟩:=gam_at hg (k:=42) (T:=62) (sz:=2) (es:=(a ++ [b]).map eQ) (by simp)
   have q3:=gam_row2 hg (k:=42) (k2:=28) (T:=62) (sz:=2) (es:=(a ++ [b]).map eQ) (T2:=101) (sz2:=1) (es2:=rows.map (cR (62,2))) (by simp) (by simp)
   clear hg
   obtain ⟨g,hgk⟩:=Option.ne_none_iff_exists'.1 (q2 (by simp))
   obtain ⟨q4,q5⟩:=q1 g hgk
   replace q4 : B <= g:=q4
   have q6:=q3 g hgk
   simp only [ids_cRs] at q6
   simp at h4
   simp [-w_condT,w_condI,hal,hIl,hL2,hgk,hwi]
   refine back2 (i + 1,rows ++ [(g,R[i])]) (hI.snoc (hs':=hs4) hiR q4 q5 q6 (by omega)) (by simp only; omega) rfl (by simp <;> omega) (by simp [hIl]) (by simp [cR,<- hab,htk])
 have hin : i = n:=by omega
 subst hin
 have hrows : rows.map (·.2) = R:=by rw [hI.snd,Jj (by omega)]
 simp [-w_condT,w_condI,hIl]
 refine loop_ruleL (X:=Nat × Nat × List (Nat × List Xw)) (fun x _=>MatI R i B x.1 x.2.1 x.2.2) (fun x=>[(6,.d (.int .i64 i)),(7,.d (.sl (some x.2.1) (some (101,1)) (x.2.2.map (cR (62,2))))),(9,.d (.int .i64 x.1))]) (fun _=>[]) (fun x=>i - x.1) ?_ ?_
 ·refine (lead_frz 28 (T:=101) (sz:=1) (es:=rows.map (cR (62,2))) (by simp)).bind ?_
  rintro _ ⟨γ,hs',g1,hg,rfl⟩
  obtain ⟨q1,q2⟩:=gam_at hg (k:=28) (T:=101) (sz:=1) (es:=rows.map (cR (62,2))) (by simp)
  have q3:=gam_row hg (k:=28) (T:=101) (sz:=1) (es:=rows.map (cR (62,2))) (by simp)
  clear hg
  have hne : rows.map (cR (62,2)) ≠ []:=fun e=>by have:=congrArg List.length e; simp at this; subst this; simp at hIl; omega
  obtain ⟨gm,hgm⟩:=Option.ne_none_iff_exists'.1 (q2 hne)
  have q4 : B <= gm:=(q1 gm hgm).1
  have q5:=q3 gm hgm
  simp only [ids_cRs] at q5
  have htk : (rows.map (cR (62,2))).take i = rows.map (cR (62,2)):=Jj (by simp; omega)
  exact Lead.of ⟨(0,gm,rows),⟨by simp,by rw [hrows]; rfl,hI.nd,hI.lo,q4,q5⟩,rfl,rfl,g1,by simp [hgm,hIl,htk],by simp⟩
 rintro ⟨p,gm,S⟩ hs2 t2 m2 hM hh2
 clear hI hIl hrows
 have hpn : p <= i:=hM.pn
 obtain ⟨TM,hTM⟩ : ∃ TM : TypeId × Nat,TM = (101,1):=⟨_,rfl⟩
 obtain ⟨T,hT⟩ : ∃ T : TypeId × Nat,T = (62,2):=⟨_,rfl⟩
 simp only [<- hTM,<- hT]
 have hgj:=gj_inv hl0 hr hb p hpn _ hM.gj
 have hSl : S.length = i:=by have:=hgj.1.len; simpa using this
 have hSr : ∀ k (hk : k < S.length),S[k].2.length = i + 1:=fun k hk=>hgj.1.row _ (Xz.2 ⟨_,Jy hk,rfl⟩)
 have hSq : ∀ k (hk : k < S.length) j,rowQ (S.map (·.2)) k j = fnL S[k].2 j:=fun k hk j=>by rw [rowQ,gd (by simpa using hk)]; simp
 by_cases hlt2 : p < i
 ·have hwp:=wr1 (i:=p) (by omega)
  simp [-w_condT,w_condI,hlt2]
  refine loop_rule (X:=Nat) (fun k=>p <= k /\ k <= i /\ ∀ j,p <= j -> j < k -> rowQ (S.map (·.2)) j p = 0) (fun k=>[(6,.d (.int .i64 i)),(7,.d (.sl (some gm) (some TM) (S.map (cR T)))),(9,.d (.int .i64 p)),(10,.d (.int .i64 k))]) (fun _=>[]) (fun k=>i - k) p ⟨by omega,by omega,fun j h1 h2=>by omega⟩ (by simp) (by simp) ?_
  intro k hs3 t3 m3 hk hh3
  by_cases hki : k < i
  ·have hwk:=wr1 (i:=k) (by omega)
   obtain ⟨gk,r,hSk⟩ : ∃ gk r,S[k]'(by omega) = (gk,r):=⟨_,_,rfl⟩
   have hrl : r.length = i + 1:=by have:=hSr k (by omega); rw [hSk] at this; exact this
   have hpr : p < r.length:=by omega
   have hq : rowQ (S.map (·.2)) k p = r[p]:=by rw [hSq k (by omega),hSk]; exact fnL_at hpr
   obtain ⟨es,hes⟩ : ∃ es,es = S.map (cR T):=⟨_,rfl⟩
   have hesl : es.length = i:=by rw [hes]; simpa using hSl
   have hek : es[k]'(by omega) = [.sl (some gk) (some T) (r.map eQ)]:=by subst hes; simp [hSk,cR]
   rw [<- hes]
   by_cases hz : r[p].num = 0
   ·refine anyQ fun Q=>?_
    simp [-w_condT,w_condI,hki,hesl,hek,hpr,hz,hwk]
    refine back (k + 1) ⟨by omega,by omega,fun j h1 h2=>?_⟩ (by omega) rfl (by simp <;> omega) (by simp [hes]) (by simp)
    by_cases e : j = k
    ·subst e; rw [hq]; exact _root_.Rat.num_eq_zero.1 hz
    ·exact hk.2.2 j h1 (by omega)
   have hpv : pivAt (S.map (·.2)) p = k:=piv_eq hk.1 hk.2.2 (.inr ⟨by simp; omega,by rw [hq]; exact fun e=>hz (by rw [e]; rfl)⟩)
   have hst:=stp_of hn hl0 hr hb hM.gj hlt2 hpv hki
   obtain ⟨gp,v,hSp⟩ : ∃ gp v,S[p]'(by omega) = (gp,v):=⟨_,_,rfl⟩
   have hep : es[p]'(by omega) = [.sl (some gp) (some T) (v.map eQ)]:=by subst hes; simp [hSp,cR]
   have hgk : gk ∈ S.map (·.1):=Xz.2 ⟨_,Jy (show k < S.length by omega),by rw [hSk]⟩
   have hgp : gp ∈ S.map (·.1):=Xz.2 ⟨_,Jy (show p < S.length by omega),by rw [hSp]⟩
   have hmk : gm ≠ gk:=fun e=>hM.gN (e ▸ hgk)
   have hmp : gm ≠ gp:=fun e=>hM.gN (e ▸ hgp)
   have hpe : p < es.length:=by omega
   have hgB:=hM.gB
   have hn1 : gm ∉ idsLL es:=by rw [hes,ids_cRs]; exact hM.gN
   have hke : k < es.length:=by omega
   obtain ⟨es1,hes1⟩ : ∃ es1,es.set k [.sl (some gp) (some T) (v.map eQ)] = es1:=⟨_,rfl⟩
   have hes1l : es1.length = i:=by rw [<- hes1]; simpa using hesl
   have hn2 : gm ∉ idsLL es1:=by rw [<- hes1]; exact nin_set hn1 (by simp [idsL,D.ids,hmp])
   have hek1 : ∃ c,es1[p]'(by omega) = [c]:=by
    subst hes1; rw [List.getElem_set]; split
    ·exact ⟨_,rfl⟩
    ·exact ⟨_,hep⟩
   obtain ⟨c1,hek1⟩:=hek1
   have hre1:=re_mset (gm:=gm) (TM:=TM) (es:=es) (i:=k) (e':=[.sl (some gp) (some T) (v.map eQ)]) hke (by rw [hek]; rfl)
   rw [hes1] at hre1
   obtain ⟨es2,hes2⟩ : ∃ es2,es1.set p [.sl (some gk) (some T) (r.map eQ)] = es2:=⟨_,rfl⟩
   have hre2:=re_mset (gm:=gm) (TM:=TM) (es:=es1) (i:=p) (e':=[.sl (some gk) (some T) (r.map eQ)]) (by omega) (by rw [hek1]; rfl)
   rw [hes2] at hre2
   have hrk : ∀ d,reV (one gm d) (.d (.sl (some gk) (some T) (r.map eQ))) = .d (.sl (some gk) (some T) (r.map eQ)):=fun d=>re_rowout (one_out (Ne.symm hmk))
   have hrp : ∀ d,reV (one gm d) (.d (.sl (some gp) (some T) (v.map eQ))) = .d (.sl (some gp) (some T) (v.map eQ)):=fun d=>re_rowout (one_out (Ne.symm hmp))
   have hek1' : es1[p]? = some [c1]:=by rw [Jw (by omega),hek1]
   have hpS : p < S.length:=by omega
   have hkS : k < S.length:=by omega
   obtain ⟨S2,hS2⟩ : ∃ S2,S2 = swapR S p k:=⟨_,rfl⟩
   obtain ⟨M2,hM2⟩ : ∃ M2,M2 = S2.map (·.2):=⟨_,rfl⟩
   have hM2s : M2 = swapM (S.map (·.2)) p k:=by rw [hM2,hS2,swapR_snd]
   have hS2e : es2 = S2.map (cR T):=by
    rw [hS2,swapR_set2 hpS hkS,<- hes2,<- hes1,hes,<- set_map,<- set_map,hSk,hSp]; rfl
   have hpm : (S2.map (·.1)).Perm (S.map (·.1)):=by rw [hS2]; exact (swapR_perm hpS hkS).map _
   obtain ⟨f1,f2,f3⟩:=hM.fst hpm
   have hsl:=hst.len
   have hsr:=hst.row
   have hse:=hst.safe
   have hsn:=hst.ne
   have hnx:=hst.nxt
   rw [<- hM2s] at hsl hsr hse hsn hnx
   have hS2l : S2.length = i:=by rw [hS2]; simp [swapR_len,hSl]
   have hM2i : ∀ j (hj : j < S2.length),M2[j]'(by omega) = S2[j].2:=fun j hj=>by subst hM2; simp
   have hX:=x_spec_l13Step gm (some TM) T S2 p i hn hS2l hlt2 f1 f3 (fun q hq=>hsr _ (by rw [hM2]; exact Xz.2 ⟨_,hq,rfl⟩)) (fun j hj=>by
    have:=hse.elim hsl hsr hlt2 (show j < i by omega) hsn
    rw [hM2i p (by omega),hM2i j hj] at this
    exact this)
   rw [<- hS2e] at hX
   simp [-w_condT,w_condI,hki,hesl,hek,hep,hpr,hz,hlt2,hgB,hn1,hn2,hmk,hmp,hes1,hre1,hes1l,hek1,hek1',hes2,hre2,hrk,hrp,show ¬ (k : Int) = i by omega,show k ≠ i by omega]
   refine call_x (E167) (by simp) (by simp) (by simp) (fun q hq=>.inl (f2 q hq)) hX fun n5 hs5 r5 cs5 ws5 hn5 hm5 hp5 hr5 hw5=>?_
   obtain ⟨rfl,Y,y1,y2,rfl⟩:=hp5
   try simp at hn5
   rw [<- hM2] at y2
   have hY2 : Y.map (·.2.length) = S2.map (·.2.length):=by
    have e1 : Y.map (·.2.length) = (Y.map (·.2)).map List.length:=by rw [List.map_map]; rfl
    have e2 : S2.map (·.2.length) = M2.map List.length:=by rw [hM2,List.map_map]; rfl
    rw [e1,e2,y2]
    apply List.ext_getElem (by simp [stepM])
    intro j h1 h2
    simp only [List.getElem_map,stepM,List.getElem_mapIdx]
    split
    ·rename_i e; subst e; rfl
    ·simp [elimR]
   have hre:=re_mat (W:=S2.map (·.1)) (gm:=gm) (TM:=some TM) (TM':=some TM) (T:=T) (rows:=S2) (rows':=Y) y1 hY2 f1 f3 f3 (fun q hq=>hq)
   rw [<- hS2e] at hre
   simp [-w_condT,w_condI,hre,hwp]
   refine back2 (p + 1,gm,Y) ⟨by omega,by rw [y2]; exact hnx,by rw [y1]; exact f1,by rw [y1]; exact f2,hgB,by rw [y1]; exact f3⟩ (by simp only; omega) rfl (by simp <;> omega) (by simp) (by simp)
  ·have hki2 : k = i:=by omega
   have hpv : pivAt (S.map (·.2)) p = k:=piv_eq hk.1 hk.2.2 (.inl (by simp; omega))
   have hno:=sol_none hM.gj (by rw [hpv]; simp; omega) hlt2
   rw [hno]
   simp [-w_condT,w_condI,hki,hki2]
 have hpi : p = i:=by omega
 subst hpi
 obtain ⟨-,e2,e3,e4,e5⟩:=sol_end hn hl0 hr hb hM.gj
 rw [e3]
 obtain ⟨F,hF⟩ : ∃ F : Nat -> Xw,F = fun j=>rowQ (S.map (·.2)) j p / rowQ (S.map (·.2)) j j:=⟨_,rfl⟩
 have hout : outM p (S.map (·.2)) = (List.range p).map F:=by rw [hF]; rfl
 rw [hout]
 simp [-w_condT,w_condI]
 refine loop_ruleL (X:=Nat) (fun j _=>j <= p) (fun j=>[(6,.d (.int .i64 p)),(7,.d (.sl (some gm) (some TM) (S.map (cR T)))),(12,.own 102 0 j),(13,.d (.int .i64 j))]) (fun j=>[(102,some (.row 62 2 (((List.range j).map F).map eQ)))]) (fun j=>p - j) ?_ ?_
 ·exact Lead.of ⟨0,by omega,rfl,rfl,Jv _,by simp,by simp⟩
 intro j hs6 t6 m6 hj hh6
 by_cases hjp : j < p
 ·have hwj:=wr1 (i:=j) (by omega)
  have hjS : j < S.length:=by omega
  obtain ⟨g,r,hSj⟩ : ∃ g r,S[j] = (g,r):=⟨_,_,rfl⟩
  have hrl : r.length = p + 1:=by have:=hSr j hjS; rw [hSj] at this; exact this
  have hjr : j < r.length:=by omega
  have hpr : p < r.length:=by omega
  have hj5:=e5 j (by simpa using hjS)
  simp only [List.getElem_map,hSj] at hj5
  obtain ⟨d1,d2,d3,d4⟩:=hj5
  have hFj : F j = fnL r p / fnL r j:=by rw [hF]; simp only [hSq j hjS,hSj]
  have hdiv:=w_spec_DivRational (fnL r p) (fnL r j) d3 d2 d1 d4
  rw [<- hFj,fnL_at hpr,fnL_at hjr] at hdiv
  have hL : LenOk 16 (j + 1):=⟨by omega,by simp only [maxLen]; omega⟩
  obtain ⟨es,hes⟩ : ∃ es,es = S.map (cR T):=⟨_,rfl⟩
  have hesl : es.length = p:=by rw [hes]; simpa using hSl
  have hej : es[j]'(by omega) = [.sl (some g) (some T) (r.map eQ)]:=by subst hes; simp [hSj,cR]
  rw [<- hes]
  refine anyQ2 fun Q=>?_
  simp [-w_condT,w_condI,hjp,hesl,hej,hjr,hpr]
  refine ⟨?_,?_⟩
  all_goals
   refine call_pure hdiv rfl (by simp) rfl fun hs7 hh7=>?_
   try simp at hh7
   simp [-w_condT,w_condI,hL,hwj]
   refine back2 (j + 1) (by omega) (by omega) rfl (by simp <;> omega) (by simp [hes]) (by simp [List.range_succ])
 ·have hjn : j = p:=by omega
  subst hjn
  simp [-w_condT,w_condI]
  intro γ hs' h1 hg
  clear hg
  have htk : (List.map (eQ ∘ F) (List.range j)).take j = List.map (eQ ∘ F) (List.range j):=Jj (by simp)
  have hpp : hpLL (List.map (eQ ∘ F) (List.range j)) = false:=by rw [<- List.map_map]; exact hp_eQs _
  rw [htk]
  simp [hpp]
theorem w_spec_SolveLinearSystem (n : Nat) (R : List (List Xw)) (hn1 : 1 <= n) (hn : n <= 4) (hl0 : R.length = n) (hr : ∀ r ∈ R,r.length = n + 1) (h01 : ∀ r ∈ R,∀ q ∈ r,q = 0 \/ q = 1) :
  VC Tryz.prog 155 [.d (pS (cP eQ) (R.map (·.take n))),.d (pS eQ (R.map fun r=>fnL r n))] (fun _ r=>r = solV n R):=by
 refine VC.erase (e_spec_SolveLinearSystem n R hn1 hn hl0 hr h01) fun _ r h=>?_
 unfold solV
 cases e : solQ n R with
 | none =>
   rw [e] at h
   obtain ⟨id,T,rfl⟩:=h
   rfl
 | some x =>
   rw [e] at h
   obtain ⟨id,T,rfl⟩:=h
   simp [rp,rpL,D.er,er_eQ]
end
section
attribute [local simp] pS cP eQ_def cI
theorem w_spec_l14Pick (b : Nat) (hb : b <= 9) : ∀ (n a : Nat),n <= 9 -> a <= 10 -> VC Tryz.prog 154 [.d (.int .i64 a),.d (.int .i64 b),.d (.int .i64 n)] (fun _ r=>r = .d (pS (cP cI) ((combs n (rgF a b)).map intsN))):=by
 intro n
 induction n with
 | zero =>
   intro a _ _
   refine VC.ofL EP sZ Tryz.func154 fun B hl=>?_
   simp [Tryz.f154,combs,intsN]
 | succ n ih =>
   intro a hn ha
   refine VC.ofL EP sZ Tryz.func154 fun B hl=>?_
   clear hl
   obtain ⟨C,hC⟩ : ∃ C,C = (combs (n + 1) (rgF a b)).map intsN:=⟨_,rfl⟩
   have hCl : C.length <= 512:=by rw [hC,List.length_map]; exact combs_le hb
   rw [<- hC]
   simp [Tryz.f154,show ¬ ((n : Int) + 1 = 0) by omega]
   refine loop_rule (X:=Nat × List (List Int)) (fun x=>a <= x.1 /\ x.1 <= 10 /\ x.2 ++ (combs (n + 1) (rgF x.1 b)).map intsN = C) (fun x=>[(1,.d (.int .i64 b)),(2,.d (.int .i64 ((n + 1 : Nat) : Int))),(7,.own 15 0 x.2.length),(8,.d (.int .i64 x.1))]) (fun x=>[(15,some (.row 28 1 (x.2.map (cP cI))))]) (fun x=>20 - x.1) (a,[]) ⟨by simp,by simp; omega,by simp [hC]⟩ (by simp) (by simp) ?_
   rintro ⟨i,O⟩ hs t m ⟨h1,h2,h3⟩ hh
   simp only at h1 h2 h3
   have hOl : O.length <= 512:=by have:=congrArg List.length h3; simp at this; omega
   have hw0 : IntKind.i64.wrap ((i : Int) + ((n : Int) + 1)) = (i : Int) + ((n : Int) + 1):=wrap64_of (by omega) (by omega)
   have hw1 : IntKind.i64.wrap ((i : Int) + 1) = ((i + 1 : Nat) : Int):=by rw [wrap64_of (by omega) (by omega)]; omega
   have hw2 : IntKind.i64.wrap ((n : Int) + 1 - 1) = (n : Int):=by rw [wrap64_of (by omega) (by omega)]; omega
   have hw3 : IntKind.i64.wrap (n : Int) = (n : Int):=wrap64_of (by omega) (by omega)
   by_cases hlt : i + (n + 1) <= b
   ·have hib : i < b:=by omega
    obtain ⟨Q,hQ⟩ : ∃ Q,Q = combs n (rgF (i + 1) b):=⟨_,rfl⟩
    have hQl : Q.length <= 512:=by rw [hQ]; exact combs_le hb
    have hQm : ∀ c ∈ Q,c.length = n:=fun c hc=>by rw [hQ] at hc; exact (combs_sub hc).1
    have hst : C = O ++ Q.map (fun c=>intsN (i :: c)) ++ (combs (n + 1) (rgF (i + 1) b)).map intsN:=by
     rw [<- h3,combs_rg hib,Zj,List.map_map,<- hQ,List.append_assoc]; rfl
    have hih:=ih (i + 1) (by omega) (by omega)
    rw [<- hQ] at hih
    simp [hw0,show (i : Int) + ((n : Int) + 1) <= b by omega,hw1,hw2,hw3]
    refine call_p hih (by simp) fun hs2 hh2 _=>?_
    try simp at hh2
    simp
    refine loop_rule (X:=Nat) (fun k=>k <= Q.length) (fun k=>[(1,.d (.int .i64 b)),(2,.d (.int .i64 ((n + 1 : Nat) : Int))),(7,.own 15 0 (O.length + k)),(8,.d (.int .i64 i)),(9,.d (.pl ((Q.map intsN).map (cP cI)))),(10,.d (.int .i64 k))]) (fun k=>[(15,some (.row 28 1 ((O ++ (Q.take k).map (fun c=>intsN (i :: c))).map (cP cI))))]) (fun k=>Q.length - k) 0 (by simp) (by simp) (by simp) ?_
    intro k hs3 t3 m3 hk hh3
    by_cases hkl : k < Q.length
    ·have hwk:=wr1 (i:=k) (by omega)
     have hqk:=hQm _ (Jy hkl)
     have hL1 : LenOk 8 (1 + n):=⟨by omega,by simp only [maxLen]; omega⟩
     have hL2 : LenOk 24 (O.length + k + 1):=⟨by omega,by simp only [maxLen]; omega⟩
     have hst2 : (O ++ (Q.take (k + 1)).map (fun c=>intsN (i :: c))).map (cP cI) = (O ++ (Q.take k).map (fun c=>intsN (i :: c))).map (cP cI) ++ [cP cI ((i : Int) :: intsN Q[k])]:=by
      simp only [Jz hkl,Zj,List.append_assoc]; rfl
     obtain ⟨OO,hOO⟩ : ∃ OO,OO = (O ++ (Q.take k).map (fun c=>intsN (i :: c))).map (cP cI):=⟨_,rfl⟩
     have hOOl : OO.length = O.length + k:=by rw [hOO]; simp; omega
     obtain ⟨c,hc⟩ : ∃ c,c = intsN Q[k]:=⟨_,rfl⟩
     have hcl : c.length = n:=by rw [hc]; simpa using hqk
     rw [<- hOO] at hst2 ⊢
     rw [<- hc] at hst2
     have hst3:=hst2
     simp only [Zj,List.map_take,List.map_map] at hst3
     have htk : List.take (1 + n) ([D.int IntKind.i64 (i : Int)] :: List.map cI c) = [D.int IntKind.i64 (i : Int)] :: List.map cI c:=Jj (by simp [hcl]; omega)
     refine anyQ fun Z=>?_
     simp [hkl,<- hc,hcl,hL1,hL2,hOOl,hwk]
     refine back (k + 1) (by omega) (by omega) rfl (by simp <;> omega) (by simp; omega) (by simp [hst3,htk])
    ·have hkn : k = Q.length:=by omega
     subst hkn
     simp [hw1]
     refine back (i + 1,O ++ Q.map (fun c=>intsN (i :: c))) ⟨by simp only; omega,by simp only; omega,hst.symm⟩ (by simp only; omega) rfl (by simp <;> omega) (by simp) (by simp [Jj])
   ·have hend : combs (n + 1) (rgF i b) = []:=combs_end (by omega) (by omega)
    rw [hend,List.map_nil,List.append_nil] at h3
    subst h3
    simp [hw0,show ¬ (i : Int) + ((n : Int) + 1) <= b by omega,Jj]
end
section
attribute [local simp] pS cP eQ_def cI
theorem ptStep_some {A : List (List Xw)} {n : Nat} {out M : List (List Xw)} {x : List Xw} (h : solQ n M = some x) (hf : feasQ A x = true) : ptStep A n out M = addPt out x:=by simp [ptStep,h,hf]
theorem ptStep_no {A : List (List Xw)} {n : Nat} {out M : List (List Xw)} {x : List Xw} (h : solQ n M = some x) (hf : feasQ A x = false) : ptStep A n out M = out:=by simp [ptStep,h,hf]
theorem ptStep_none {A : List (List Xw)} {n : Nat} {out M : List (List Xw)} (h : solQ n M = none) : ptStep A n out M = out:=by simp [ptStep,h]
theorem w_spec_l14Points (A : List (List Xw)) (n : Nat) (h : LPok A n) :
  VC Tryz.prog 136 [.agg [.d (pS (cP eQ) A),.d (pS eQ (List.replicate A.length 1)),.d (pS eQ (List.replicate n 1))],.d (.int .i64 1)] (fun _ r=>r = .d (pS (cP eQ) (ptsQ A n))):=by
 have hn1:=h.n1
 have hn4:=h.n4
 have hm1:=h.m1
 have hm5:=h.m5
 obtain ⟨m,hm⟩ : ∃ m,m = A.length:=⟨_,rfl⟩
 obtain ⟨AR,hAR⟩ : ∃ AR,AR = augR A n:=⟨_,rfl⟩
 have hARl : AR.length = m + n:=by rw [hAR,augR_len,hm]
 have hARr : ∀ r ∈ AR,r.length = n + 1:=by rw [hAR]; exact aug_len h.m01
 have hAR01 : ∀ r ∈ AR,∀ q ∈ r,q = 0 \/ q = 1:=by rw [hAR]; exact aug_01 h.m01
 obtain ⟨CB,hCB⟩ : ∃ CB,CB = combs n (rgF 0 (m + n)):=⟨_,rfl⟩
 have hCBl : CB.length <= 512:=by rw [hCB]; exact combs_le (by omega)
 have hpts : ptsQ A n = (CB.map (rowsA AR)).foldl (ptStep A n) []:=by
  rw [ptsQ,combs_AR,augR_len,hCB,hAR,hm]
 obtain ⟨OUT,hOUT⟩ : ∃ OUT : Nat -> List (List Xw),OUT = fun i=>((CB.take i).map (rowsA AR)).foldl (ptStep A n) []:=⟨_,rfl⟩
 have hOl : ∀ i,(OUT i).length <= 512:=fun i=>by
  rw [hOUT]
  have:=fold_len (A:=A) (n:=n) ((CB.take i).map (rowsA AR)) []
  simp only [List.length_map,Zq,List.length_nil] at this
  simp only; omega
 have hO0 : OUT 0 = []:=by rw [hOUT]; rfl
 have hOs : ∀ i (hi : i < CB.length),OUT (i + 1) = ptStep A n (OUT i) (rowsA AR CB[i]):=fun i hi=>by
  rw [hOUT]; simp only [Jz hi,Zj,List.foldl_append]; rfl
 have hOe : OUT CB.length = ptsQ A n:=by rw [hOUT,hpts]; simp only [Jj (Jv _)]
 obtain ⟨CI,hCI⟩ : ∃ CI,CI = CB.map intsN:=⟨_,rfl⟩
 have hCIl : CI.length = CB.length:=by rw [hCI]; simp
 have hpick:=w_spec_l14Pick (m + n) (by omega) n 0 (by omega) (by omega)
 rw [<- hCB,<- hCI] at hpick
 have hwmn : IntKind.i64.wrap ((m : Int) + (n : Int)) = ((m + n : Nat) : Int):=by rw [wrap64_of (by omega) (by omega)]; omega
 obtain ⟨B1,hB1⟩ : ∃ B1,B1 = List.replicate m (1 : Xw):=⟨_,rfl⟩
 obtain ⟨C1,hC1⟩ : ∃ C1,C1 = List.replicate n (1 : Xw):=⟨_,rfl⟩
 have hB1l : B1.length = m:=by rw [hB1]; simp
 have hC1l : C1.length = n:=by rw [hC1]; simp
 have hB1i : ∀ j (hj : j < m),B1[j]'(by omega) = 1:=fun j hj=>by subst hB1; simp
 rw [<- hm,<- hB1,<- hC1]
 refine VC.ofL EP sZ Tryz.func136 fun B hl=>?_
 clear hl
 simp [Tryz.f136,hwmn,hB1l,hC1l]
 refine call_p hpick (by simp) fun hs0 hh0 _=>?_
 try simp at hh0
 simp
 refine loop_rule (X:=Nat) (fun i=>i <= CB.length) (fun i=>[(1,.d (.int .i64 1)),(2,.ptr 2 0 0),(5,.own 20 0 (OUT i).length),(6,.d (.int .i64 n)),(7,.d (.int .i64 m)),(8,.d (.pl (CI.map (cP cI)))),(9,.d (.int .i64 i))]) (fun i=>[(2,some (.box [.d (.pl (A.map (cP eQ))),.d (.pl (B1.map eQ)),.d (.pl (C1.map eQ))])),(20,some (.row 101 1 ((OUT i).map (cP eQ))))]) (fun i=>CB.length - i) 0 (by simp) (by simp [hO0]) (by simp [hO0]) ?_
 intro i hs1 t1 m1 hi hh1
 by_cases hlt : i < CB.length
 ·have hwi:=wr1 (i:=i) (by omega)
  obtain ⟨c,hc⟩ : ∃ c,c = CB[i]:=⟨_,rfl⟩
  have hcm : c ∈ combs n (rgF 0 (m + n)):=by rw [<- hCB,hc]; exact Jy hlt
  obtain ⟨hcl,hcr⟩:=combs_sub hcm
  have hOsi:=hOs i hlt
  rw [<- hc] at hOsi
  obtain ⟨M,hM⟩ : ∃ M,M = rowsA AR c:=⟨_,rfl⟩
  have hMl : M.length = n:=by rw [hM,rowsA_len,hcl]
  have hMm : ∀ r ∈ M,r ∈ AR:=fun r hr=>by rw [hM] at hr; exact rowsA_mem (fun x hx=>by have:=hcr x hx; omega) hr
  have hMr : ∀ r ∈ M,r.length = n + 1:=fun r hr=>hARr r (hMm r hr)
  have hM01 : ∀ r ∈ M,∀ q ∈ r,q = 0 \/ q = 1:=fun r hr=>hAR01 r (hMm r hr)
  rw [<- hM] at hOsi
  obtain ⟨ci,hci⟩ : ∃ ci,ci = intsN c:=⟨_,rfl⟩
  have hcil : ci.length = n:=by rw [hci]; simpa using hcl
  have hCIi : CI[i]'(by omega) = ci:=by subst hCI; simp [hci,hc]
  obtain ⟨O,hO⟩ : ∃ O,O = OUT i:=⟨_,rfl⟩
  have hOl2 : O.length <= 512:=by rw [hO]; exact hOl i
  rw [<- hO] at hOsi ⊢
  simp [hCIl,hlt]
  refine loop_rule (X:=Nat) (fun k=>k <= n) (fun k=>[(1,.d (.int .i64 1)),(2,.ptr 2 0 0),(5,.own 20 0 O.length),(6,.d (.int .i64 n)),(7,.d (.int .i64 m)),(8,.d (.pl (CI.map (cP cI)))),(9,.d (.int .i64 i)),(10,.own 38 0 k),(11,.own 39 0 k),(12,.d (.int .i64 k))])
   (fun k=>[(2,some (.box [.d (.pl (A.map (cP eQ))),.d (.pl (B1.map eQ)),.d (.pl (C1.map eQ))])),(20,some (.row 101 1 (O.map (cP eQ)))),(38,some (.row 101 1 (((M.map (·.take n)).take k).map (cP eQ)))),(39,some (.row 62 2 (((M.map fun r=>fnL r n).take k).map eQ)))]) (fun k=>n - k) 0 (by simp) (by simp) (by simp) ?_
  intro k hs2 t2 m2 hk hh2
  by_cases hkn : k < n
  ·have hwk:=wr1 (i:=k) (by omega)
   obtain ⟨j,hj⟩ : ∃ j,j = c[k]'(by omega):=⟨_,rfl⟩
   have hjr : j < m + n:=by rw [hj]; exact (hcr _ (Jy _)).2
   have hcik : ci[k]'(by omega) = (j : Int):=by subst hci; rw [intsN_at (by omega),hj]
   have hMk : M[k]'(by omega) = AR.getD j []:=by subst hM; simp [rowsA,hj]
   obtain ⟨MA,hMA⟩ : ∃ MA,MA = M.map (·.take n):=⟨_,rfl⟩
   obtain ⟨MB,hMB⟩ : ∃ MB,MB = M.map fun r=>fnL r n:=⟨_,rfl⟩
   have hMAl : MA.length = n:=by rw [hMA]; simpa using hMl
   have hMBl : MB.length = n:=by rw [hMB]; simpa using hMl
   have hMAk : MA[k]'(by omega) = (AR.getD j []).take n:=by subst hMA; simp [hMk]
   have hMBk : MB[k]'(by omega) = fnL (AR.getD j []) n:=by subst hMB; simp [hMk]
   rw [<- hMA,<- hMB]
   have hL1 : LenOk 24 (k + 1):=⟨by omega,by simp only [maxLen]; omega⟩
   have hL2 : LenOk 16 (k + 1):=⟨by omega,by simp only [maxLen]; omega⟩
   have hmin : min k n = k:=by omega
   refine anyQ fun Z=>?_
   by_cases hjm : j < m
   ·have hjA : j < A.length:=by omega
    have hrow : AR.getD j [] = A[j] ++ [1]:=by rw [hAR]; exact augR_lo hjA
    have hta:=take_app (b:=1) (h.m01.len _ (Jy hjA))
    rw [hrow,hta.1] at hMAk
    rw [hrow,hta.2] at hMBk
    have s1 : (MA.map (cP eQ)).take (k + 1) = (MA.map (cP eQ)).take k ++ [cP eQ A[j]]:=by rw [Jz (by simp; omega)]; simp [hMAk]
    have s2 : (MB.map eQ).take (k + 1) = (MB.map eQ).take k ++ [eQ 1]:=by rw [Jz (by simp; omega)]; simp [hMBk]
    simp [hkn,hCIl,hlt,hCIi,hcil,hcik,hjm,hjA,hB1l,hB1i j hjm,hMAl,hMBl,hmin,hL1,hL2,hwk]
    exact back (k + 1) (by omega) (by omega) rfl (by simp <;> omega) (by simp) (by simp [s1,s2])
   ·have hjA : A.length <= j:=by omega
    have hrow : AR.getD j [] = unitR n (j - m) ++ [0]:=by rw [hAR,hm]; exact augR_hi hjA (by omega)
    have hta:=take_app (b:=0) (unitR_len (n:=n) (j:=j - m))
    rw [hrow,hta.1] at hMAk
    rw [hrow,hta.2] at hMBk
    have s1 : (MA.map (cP eQ)).take (k + 1) = (MA.map (cP eQ)).take k ++ [cP eQ (unitR n (j - m))]:=by rw [Jz (by simp; omega)]; simp [hMAk]
    have s2 : (MB.map eQ).take (k + 1) = (MB.map eQ).take k ++ [eQ 0]:=by rw [Jz (by simp; omega)]; simp [hMBk]
    simp [hkn,hCIl,hlt,hCIi,hcil,hcik,hjm]
    refine loop_rule (X:=Nat) (fun v=>v <= n) (fun v=>[(1,.d (.int .i64 1)),(2,.ptr 2 0 0),(5,.own 20 0 O.length),(6,.d (.int .i64 n)),(7,.d (.int .i64 m)),(8,.d (.pl (CI.map (cP cI)))),(9,.d (.int .i64 i)),(10,.own 38 0 k),(11,.own 39 0 k),(12,.d (.int .i64 k)),(13,.d (.int .i64 j)),(14,.own 71 0 v),(15,.d (.int .i64 v))])
     (fun v=>[(2,some (.box [.d (.pl (A.map (cP eQ))),.d (.pl (B1.map eQ)),.d (.pl (C1.map eQ))])),(20,some (.row 101 1 (O.map (cP eQ)))),(38,some (.row 101 1 ((MA.take k).map (cP eQ)))),(39,some (.row 62 2 ((MB.take k).map eQ))),(71,some (.row 62 2 ((List.replicate v (0 : Xw)).map eQ)))]) (fun v=>n - v) 0 (by simp) (by simp) (by simp) ?_
    intro v hs3 t3 m3 hv hh3
    by_cases hvn : v < n
    ·have hwv:=wr1 (i:=v) (by omega)
     have hL3 : LenOk 16 (v + 1):=⟨by omega,by simp only [maxLen]; omega⟩
     have s3 : (List.replicate (v + 1) (0 : Xw)).map eQ = (List.replicate v (0 : Xw)).map eQ ++ [eQ 0]:=by rw [List.replicate_succ',Zj]; rfl
     refine anyQ fun Z=>?_
     simp [hvn,hL3,hwv]
     exact back (v + 1) (by omega) (by omega) rfl (by simp <;> omega) (by simp) (by simp [List.replicate_succ'])
    ·have hvn2 : v = n:=by omega
     have hw4 : IntKind.i64.wrap ((j : Int) - (m : Int)) = ((j - m : Nat) : Int):=by rw [wrap64_of (by omega) (by omega)]; omega
     have hjn : j - m < n:=by omega
     have htk5 : List.take n (List.map eQ (unitR n (j - m))) = List.map eQ (unitR n (j - m)):=Jj (by simp [unitR_len])
     have s4 : ((List.replicate n (0 : Xw)).map eQ).set (j - m) [.int .i64 1,.int .i64 1] = (unitR n (j - m)).map eQ:=by
      rw [<- unit_set,<- set_map]; rfl
     obtain ⟨ZR,hZR⟩ : ∃ ZR,ZR = (List.replicate n (0 : Xw)).map eQ:=⟨_,rfl⟩
     have hZRl : ZR.length = n:=by rw [hZR]; simp
     have hZRi : ZR[j - m]'(by omega) = [.int .i64 0,.int .i64 1]:=by subst hZR; simp
     rw [hvn2,<- hZR]
     rw [<- hZR] at s4
     simp [hw4,hjn,hZRl,hZRi,s4,hMAl,hMBl,hmin,hL1,hL2,hwk]
     exact back (k + 1) (by omega) (by omega) rfl (by simp <;> omega) (by simp) (by simp [s1,s2,htk5])
  ·have hkn2 : k = n:=by omega
   have hsol:=w_spec_SolveLinearSystem n M hn1 hn4 hMl hMr hM01
   rw [hkn2,Jj (by simp; omega),Jj (by simp; omega)]
   obtain ⟨MA,hMA⟩ : ∃ MA,MA = M.map (·.take n):=⟨_,rfl⟩
   obtain ⟨MB,hMB⟩ : ∃ MB,MB = M.map fun r=>fnL r n:=⟨_,rfl⟩
   have hMAl : MA.length = n:=by rw [hMA]; simpa using hMl
   have hMBl : MB.length = n:=by rw [hMB]; simpa using hMl
   rw [<- hMA,<- hMB] at hsol ⊢
   simp
   refine call_p hsol (by simp [hMAl,hMBl,Jj]) fun hs4 hh4 _=>?_
   try simp at hh4
   cases hx : solQ n M with
   | none =>
     rw [ptStep_none hx] at hOsi
     simp [solV,hx,hwi]
     exact back (i + 1) (by omega) (by omega) rfl (by simp <;> omega) (by simp [hOsi]) (by simp [hOsi])
   | some x =>
     have hSB:=sol_bd hn4 hMl hMr (bd_01 hMl hM01) hx
     have hside:=w_spec_l14Side A n x h hSB
     rw [<- hm,<- hB1,<- hC1] at hside
     simp [solV,hx]
     refine call_f hside (by simp) rfl fun hs5 hh5=>?_
     try simp at hh5
     cases hf : feasQ A x
     ·rw [ptStep_no hx hf] at hOsi
      simp [hwi]
      exact back (i + 1) (by omega) (by omega) rfl (by simp <;> omega) (by simp [hOsi]) (by simp [hOsi])
     rw [ptStep_some hx hf] at hOsi
     simp
     refine loop_rule (X:=Nat) (fun k=>k <= O.length) (fun k=>[(1,.d (.int .i64 1)),(2,.ptr 2 0 0),(5,.own 20 0 O.length),(6,.d (.int .i64 n)),(7,.d (.int .i64 m)),(8,.d (.pl (CI.map (cP cI)))),(9,.d (.int .i64 i)),(16,.d (.pl (x.map eQ))),(18,.d (.bool (decide (x ∈ O.take k)))),(19,.d (.int .i64 k))])
      (fun k=>[(2,some (.box [.d (.pl (A.map (cP eQ))),.d (.pl (B1.map eQ)),.d (.pl (C1.map eQ))])),(20,some (.row 101 1 (O.map (cP eQ))))]) (fun k=>O.length - k) 0 (by simp) (by simp) (by simp) ?_
     intro k hs6 t6 m6 hk6 hh6
     by_cases hkO : k < O.length
     ·have hwk:=wr1 (i:=k) (by omega)
      have hin : (x ∈ O.take (k + 1)) ↔ (x ∈ O.take k \/ O[k] = x):=by
       rw [Jz hkO,Qq,Qg,eq_comm (a:=x)]
      refine anyQ fun Z=>?_
      by_cases hin2 : x ∈ O.take k
      ·have hin3 : x ∈ O.take (k + 1):=hin.2 (.inl hin2)
       simp [hkO,hin2,hwk]
       exact back (k + 1) (by omega) (by omega) rfl (by simp <;> omega) (by simp [hin3]) (by simp)
      ·simp [hkO,hin2]
       refine call_f (w_spec_EqualRationals O[k] x) (by simp) rfl fun hs7 hh7=>?_
       try simp at hh7
       have hin4 : decide (x ∈ O.take (k + 1)) = decide (O[k] = x):=by rw [decide_eq_decide,hin]; simp [hin2]
       simp [hwk]
       exact back (k + 1) (by omega) (by omega) rfl (by simp <;> omega) (by simp only [hin4]; simp) (by simp)
     ·have hkO2 : k = O.length:=by omega
      subst hkO2
      rw [Jj (Jv _)]
      by_cases hxO : x ∈ O
      ·have ha : addPt O x = O:=by simp [addPt,hxO]
       rw [ha] at hOsi
       simp [hxO,hwi]
       exact back (i + 1) (by omega) (by omega) rfl (by simp <;> omega) (by simp [hOsi]) (by simp [hOsi])
      ·have ha : addPt O x = O ++ [x]:=by simp [addPt,hxO]
       rw [ha] at hOsi
       have hL4 : LenOk 24 (O.length + 1):=⟨by omega,by simp only [maxLen]; omega⟩
       simp [hxO,hwi,hL4]
       exact back (i + 1) (by omega) (by omega) rfl (by simp <;> omega) (by simp [hOsi]) (by simp [hOsi])
 ·have hin : i = CB.length:=by omega
  subst hin
  rw [hOe]
  simp [hCIl,Jj]
end
section
attribute [local simp] pS cP eQ_def cI
theorem e_impl_copyIntsO (l : List Int) (hb : l.length <= 4294967296) :
  VC Tryz.prog 76 [.d (.pl (l.map cI))] (fun n r=>∃ g : Option Nat,r = .d (.sl g (some (3,1)) (l.map cI)) /\ (∀ k,g = some k -> n <= k) /\ (g = none -> l = [])):=by
 refine VC.of E sZ Tryz.func76 fun B=>?_
 have hL : LenOk 8 l.length:=⟨by omega,by simp only [maxLen]; omega⟩
 have hp : hpLL (l.map cI) = false:=hpLL_mapI l
 simp [-cI,Tryz.f76,hL,hp,Jj]
 refine ⟨fun a _=>rfl,?_⟩
 intro γ hs' h1 hg
 obtain ⟨q1,q2⟩:=gam_at hg (k:=3) (T:=3) (sz:=1) (es:=l.map cI) (by simp)
 clear hg
 refine ⟨fun k hk=>(q1 k hk).1,fun h=>?_⟩
 exact Xv fun hl=>q2 (by simpa using hl) h
theorem startK9 (a b c1 c2 c3 c4 c5 c6 c7 : V) (T sz f : Nat) (es : List (List D)) (B : Nat) : St.startK [a,b] [c1,c2,c3,c4,c5,c6,c7] T sz f es B =
  ⟨B,B,[],upd (upd (upd (upd (upd (upd (upd (upd (upd (fun _=>.tup []) 8 c7) 7 c6) 6 c5) 5 c4) 4 c3) 3 c2) 2 c1) 1 b) 0 a,
   upd (upd (upd (fun _=>none) 1003 (some (.box [.fn f [c1,c2,c3,c4,c5,c6,c7]]))) 1002 (some (.row T sz es))) 1001 (some (.box [.own 1002 0 es.length]))⟩:=by
 simp only [St.startK,St.mk.injEq,true_and]
 constructor
 ·funext i; match i with | 0=>rfl | 1=>rfl | 2=>rfl | 3=>rfl | 4=>rfl | 5=>rfl | 6=>rfl | 7=>rfl | 8=>rfl | _ + 9=>rfl
 ·funext i; simp only [mK,upd]; repeat' split
def capsV (n : Nat) (rows right : List (List D)) (bx : List D) : List V:=
 [.fptr (.pl [[.int .i64 n]]) 0 0,.fptr (.pl [[.pl rows]]) 0 0,.ptr 1003 0 0,.fptr (.pl [[.pl right]]) 0 0,.fptr (.pl [bx]) 0 0,.fptr (.pl [[.int .i64 1]]) 0 0,.ptr 1001 0 0]
theorem caps_wipe (n : Nat) (rows right : List (List D)) (bx : List D) (k : Nat) (h1 : ¬ k = 1001) (h3 : ¬ k = 1003) : wipeL k (capsV n rows right bx) = capsV n rows right bx:=by
 simp [capsV,wipeL,wipe,Ne.symm h1,Ne.symm h3]
theorem caps_frp (n : Nat) (rows right : List (List D)) (bx : List D) (k : Nat) (es : List (List D)) (h1 : ¬ k = 1001) (h3 : ¬ k = 1003) : frpL k es (capsV n rows right bx) = capsV n rows right bx:=by
 simp [capsV,frpL,frp,Ne.symm h1,Ne.symm h3]
theorem k_choose (A : List (List Xw)) (n : Nat) (h : LPok A n) (rows right : List (List D)) (bx : List D) (hrows : rows = ((augR A n).map (·.take n)).map (cP eQ)) (hright : right = ((augR A n).map fun r=>fnL r n).map eQ)
   (hbx : bx = [.pl (A.map (cP eQ)),.pl ((List.replicate A.length (1 : Xw)).map eQ),.pl ((List.replicate n (1 : Xw)).map eQ)]) :
  ∀ (d : Nat) (c : List Nat) (a : Nat) (out : List (List Xw)),n - c.length = d -> c.length <= n -> a <= A.length + n -> (∀ x ∈ c,x < A.length + n) -> out.length + cntC A n c a <= 1000 ->
   VK Tryz.prog 147 [.d (.int .i64 a),.d (pS cI (intsN c))] (capsV n rows right bx) 101 1 (out.map (cP eQ)) (fun es'=>es' = (foldC A n c a out).map (cP eQ)):=by
 have hn1:=h.n1
 have hn4:=h.n4
 have hm1:=h.m1
 have hm5:=h.m5
 obtain ⟨AR,hAR⟩ : ∃ AR,AR = augR A n:=⟨_,rfl⟩
 have hARl : AR.length = A.length + n:=by rw [hAR,augR_len]
 have hARr : ∀ r ∈ AR,r.length = n + 1:=by rw [hAR]; exact aug_len h.m01
 have hAR01 : ∀ r ∈ AR,∀ q ∈ r,q = 0 \/ q = 1:=by rw [hAR]; exact aug_01 h.m01
 obtain ⟨B1,hB1⟩ : ∃ B1,B1 = List.replicate A.length (1 : Xw):=⟨_,rfl⟩
 obtain ⟨C1,hC1⟩ : ∃ C1,C1 = List.replicate n (1 : Xw):=⟨_,rfl⟩
 rw [<- hAR] at hrows hright
 rw [<- hB1,<- hC1] at hbx
 have hrl : rows.length = A.length + n:=by rw [hrows]; simp [hARl]
 have hgl : right.length = A.length + n:=by rw [hright]; simp [hARl]
 intro d
 induction d with
 | zero =>
   intro c a out hd hcn ha hcr hbd
   have hcl : c.length = n:=by omega
   rw [foldC_full hcl,<- hAR]
   rw [cntC_full hcl] at hbd
   obtain ⟨M,hM⟩ : ∃ M,M = rowsA AR c:=⟨_,rfl⟩
   have hMl : M.length = n:=by rw [hM,rowsA_len,hcl]
   have hMm : ∀ r ∈ M,r ∈ AR:=fun r hr=>by rw [hM] at hr; exact rowsA_mem (fun x hx=>by have:=hcr x hx; omega) hr
   have hMr : ∀ r ∈ M,r.length = n + 1:=fun r hr=>hARr r (hMm r hr)
   have hM01 : ∀ r ∈ M,∀ q ∈ r,q = 0 \/ q = 1:=fun r hr=>hAR01 r (hMm r hr)
   rw [<- hM]
   obtain ⟨ci,hci⟩ : ∃ ci,ci = intsN c:=⟨_,rfl⟩
   have hcil : ci.length = n:=by rw [hci]; simpa using hcl
   rw [<- hci]
   obtain ⟨caps,hcaps⟩ : ∃ caps,caps = capsV n rows right bx:=⟨_,rfl⟩
   have hcw:=caps_wipe n rows right bx
   have hcf:=caps_frp n rows right bx
   rw [<- hcaps] at hcw hcf
   refine VK.of EP s147 Tryz.func147 fun B=>?_
   rw [capsV,startK9,<- capsV,<- hcaps]
   simp [Tryz.f147,hcil]
   have hout : ptStep A n out M = ptStep A n out M:=rfl
   refine loop_ruleL (X:=Nat) (fun k _=>k <= n) (fun k=>[(3,.fptr (.pl [[.pl rows]]) 0 0),(5,.fptr (.pl [[.pl right]]) 0 0),(6,.fptr (.pl [bx]) 0 0),(7,.fptr (.pl [[.int .i64 1]]) 0 0),(8,.ptr 1001 0 0),(12,.own 900 0 k),(13,.own 901 0 k),(40,.d (.pl (ci.map cI))),(41,.d (.int .i64 n)),(42,.d (.int .i64 k))])
    (fun k=>[(1001,some (.box [.own 1002 0 out.length])),(1002,some (.row 101 1 (out.map (cP eQ)))),(1003,some (.box [.fn 147 caps])),(900,some (.row 101 1 (((M.map (·.take n)).take k).map (cP eQ)))),(901,some (.row 62 2 (((M.map fun r=>fnL r n).take k).map eQ)))]) (fun k=>n - k) ?_ ?_
   ·refine (lead_slot 12 900 101 1 (by omega) (by omega) (by simp)).bind ?_
    rintro _ rfl
    refine (lead_slot 13 901 62 2 (by omega) (by omega) (by simp)).bind ?_
    rintro _ rfl
    exact Lead.of ⟨0,by omega,rfl,rfl,Jv _,by simp,by simp [hcaps,capsV]⟩
   intro k hs1 t1 m1 hk hh1
   by_cases hkn : k < n
   ·have hwk:=wr1 (i:=k) (by omega)
    obtain ⟨j,hj⟩ : ∃ j,j = c[k]'(by omega):=⟨_,rfl⟩
    have hjr : j < A.length + n:=by rw [hj]; exact hcr _ (Jy _)
    have hcik : ci[k]'(by omega) = (j : Int):=by subst hci; rw [intsN_at (by omega),hj]
    have hMk : M[k]'(by omega) = AR[j]'(by omega):=by subst hM; simp [rowsA,<- hj,List.getD,show j < AR.length by omega]
    obtain ⟨MA,hMA⟩ : ∃ MA,MA = M.map (·.take n):=⟨_,rfl⟩
    obtain ⟨MB,hMB⟩ : ∃ MB,MB = M.map fun r=>fnL r n:=⟨_,rfl⟩
    have hMAl : MA.length = n:=by rw [hMA]; simpa using hMl
    have hMBl : MB.length = n:=by rw [hMB]; simpa using hMl
    have hrj : rows[j]'(by omega) = cP eQ (MA[k]'(by omega)):=by subst hMA; simp [hrows,hMk]
    have hgj : right[j]'(by omega) = eQ (MB[k]'(by omega)):=by subst hMB; simp [hright,hMk]
    rw [<- hMA,<- hMB]
    have hL1 : LenOk 24 (k + 1):=⟨by omega,by simp only [maxLen]; omega⟩
    have hL2 : LenOk 16 (k + 1):=⟨by omega,by simp only [maxLen]; omega⟩
    have hmin : min k n = k:=by omega
    have s1 : (MA.map (cP eQ)).take (k + 1) = (MA.map (cP eQ)).take k ++ [cP eQ (MA[k]'(by omega))]:=by rw [Jz (by simp; omega)]; simp
    have s2 : (MB.map eQ).take (k + 1) = (MB.map eQ).take k ++ [eQ (MB[k]'(by omega))]:=by rw [Jz (by simp; omega)]; simp
    refine anyQ2 fun Z=>?_
    simp [hkn,hcil,hcik,hrl,hgl,hjr,hrj,hgj,hMAl,hMBl,hmin,hL1,hL2,hwk]
    exact back2 (k + 1) (by omega) (by omega) rfl (by simp <;> omega) (by simp) (by simp [s1,s2,hcw,hcf])
   have hkn2 : k = n:=by omega
   have hsol:=w_impl_SolveLinearSystem n M hn1 hn4 hMl hMr hM01
   rw [hkn2,Jj (by simp; omega),Jj (by simp; omega)]
   obtain ⟨MA,hMA⟩ : ∃ MA,MA = M.map (·.take n):=⟨_,rfl⟩
   obtain ⟨MB,hMB⟩ : ∃ MB,MB = M.map fun r=>fnL r n:=⟨_,rfl⟩
   have hMAl : MA.length = n:=by rw [hMA]; simpa using hMl
   have hMBl : MB.length = n:=by rw [hMB]; simpa using hMl
   rw [<- hMA,<- hMB] at hsol ⊢
   simp
   refine call_p hsol (by simp [hMAl,hMBl,Jj]) fun hs4 hh4 _=>?_
   try simp at hh4
   cases hx : solQ n M with
   | none =>
     rw [ptStep_none hx]
     simp [solV,hx,vretK,vendK,hcw,hcf,<- hcaps]
   | some x =>
     have hSB:=sol_bd hn4 hMl hMr (bd_01 hMl hM01) hx
     have hside:=w_impl_feasible A n x h hSB
     rw [<- hB1,<- hC1] at hside
     simp [solV,hx,hbx]
     refine call_f hside (by simp) rfl fun hs5 hh5=>?_
     try simp at hh5
     cases hf : feasQ A x
     ·rw [ptStep_no hx hf]
      simp [vretK,vendK,hcw,hcf,<- hcaps]
     rw [ptStep_some hx hf]
     simp
     refine loop_rule (X:=Nat) (fun k=>k <= out.length /\ x ∉ out.take k) (fun k=>[(8,.ptr 1001 0 0),(16,.d (.pl (x.map eQ))),(76,.own 1002 0 out.length),(77,.d (.int .i64 out.length)),(78,.d (.int .i64 k))])
      (fun _=>[(1001,some (.box [.own 1002 0 out.length])),(1002,some (.row 101 1 (out.map (cP eQ)))),(1003,some (.box [.fn 147 caps]))]) (fun k=>out.length - k) 0 (by simp) (by simp) (by simp [hcw,hcf]) ?_
     intro k hs6 t6 m6 hk6 hh6
     by_cases hkO : k < out.length
     ·have hwk:=wr1 (i:=k) (by omega)
      simp [hkO]
      refine call_f (w_impl_EqualRationals x out[k]) (by simp) rfl fun hs7 hh7=>?_
      try simp at hh7
      by_cases he : x = out[k]
      ·have ha : addPt out x = out:=by simp [addPt,he]
       rw [ha]
       simp [he,vretK,vendK,hcw,hcf,<- hcaps]
      ·simp [he,hwk]
       refine back (k + 1) ⟨by omega,?_⟩ (by omega) rfl (by simp <;> omega) (by simp) (by simp)
       rw [Jz hkO,Qq,Qg]
       exact fun hor=>hor.elim hk6.2 he
     ·have hkO2 : k = out.length:=by omega
      subst hkO2
      have hxO : x ∉ out:=by have:=hk6.2; rwa [Jj (Jv _)] at this
      have ha : addPt out x = out ++ [x]:=by simp [addPt,hxO]
      have hL4 : LenOk 24 (out.length + 1):=⟨by omega,by simp only [maxLen]; omega⟩
      rw [ha]
      simp [hL4,vretK,vendK,hcw,hcf,<- hcaps]
 | succ d ih =>
   intro c a out hd hcn ha hcr hbd
   have hcl : c.length < n:=by omega
   obtain ⟨ci,hci⟩ : ∃ ci,ci = intsN c:=⟨_,rfl⟩
   have hcil : ci.length = c.length:=by rw [hci]; simp
   rw [<- hci]
   obtain ⟨caps,hcaps⟩ : ∃ caps,caps = capsV n rows right bx:=⟨_,rfl⟩
   have hcw:=caps_wipe n rows right bx
   have hcf:=caps_frp n rows right bx
   rw [<- hcaps] at hcw hcf ih
   obtain ⟨FO,hFO⟩ : ∃ FO,FO = foldC A n c a out:=⟨_,rfl⟩
   rw [<- hFO]
   have hall : caps.all capOk = true:=by rw [hcaps]; rfl
   have hren : caps.map (renK 1001 1003) = caps:=by rw [hcaps]; rfl
   refine VK.of EP s147 Tryz.func147 fun B=>?_
   rw [capsV,startK9,<- capsV,<- hcaps]
   simp [Tryz.f147,hcil,hcl]
   refine loop_rule (X:=Nat × List (List Xw)) (fun x=>a <= x.1 /\ x.1 <= A.length + n /\ foldC A n c x.1 x.2 = FO /\ x.2.length + cntC A n c x.1 <= 1000) (fun x=>[(1,.d (.pl (ci.map cI))),(3,.fptr (.pl [[.pl rows]]) 0 0),(4,.ptr 1003 0 0),(11,.d (.int .i64 x.1))])
    (fun x=>[(1001,some (.box [.own 1002 0 x.2.length])),(1002,some (.row 101 1 (x.2.map (cP eQ)))),(1003,some (.box [.fn 147 caps]))]) (fun x=>A.length + n - x.1) (a,out) ⟨by simp,ha,hFO.symm,hbd⟩ (by simp) (by simp) ?_
   rintro ⟨k,O⟩ hs1 t1 m1 ⟨h1,h2,h3,h4⟩ hh1
   simp only at h1 h2 h3 h4
   by_cases hlt : k < A.length + n
   ·have hwk:=wr1 (i:=k) (by omega)
    have hstep:=foldC_step (out:=O) hcl hlt
    have hcnt:=cntC_step hcl hlt
    have hflen:=foldC_len (A:=A) (n:=n) (c:=c ++ [k]) (a:=k + 1) (out:=O)
    have hih:=ih (c ++ [k]) (k + 1) O (by simp; omega) (by simp; omega) (by omega) (fun x hx=>by
     rcases Qq.1 hx with hx | hx
     ·exact hcr x hx
     ·rw [Qg.1 hx]; exact hlt) (by omega)
    have hci2 : intsN (c ++ [k]) = ci ++ [(k : Int)]:=by rw [hci]; simp [intsN]
    rw [hci2] at hih
    have hL1 : LenOk 8 (ci.length + 1):=⟨by omega,by simp only [maxLen]; omega⟩
    have htk : List.take (ci.length + 1) (ci.map cI ++ [[D.int IntKind.i64 (k : Int)]]) = ci.map cI ++ [[D.int IntKind.i64 (k : Int)]]:=Jj (by simp)
    refine anyQ fun Z=>?_
    simp [hrl,show (k : Int) < (A.length : Int) + (n : Int) by omega,hwk]
    have fin : ∀ (es' : List (List D)),es' = (foldC A n (c ++ [k]) (k + 1) O).map (cP eQ) -> es'.length = (foldC A n (c ++ [k]) (k + 1) O).length:=fun es' e=>by rw [e]; simp
    refine ⟨?_,?_⟩
    all_goals
     refine call_oe (e_impl_copyIntsO ci (by omega)) (by simp) fun r2 n2 hs3 hn2 hm2 hp2=>?_
     obtain ⟨g,rfl,hg1,hg2⟩:=hp2
     try simp at hn2
     cases g with
     | some g =>
       refine .inl ⟨g,3,1,ci.map cI,rfl,hg1 g rfl,by simp,?_⟩
       simp [hL1,hwk,hcw,hcf]
       refine vdyn_lead ((lead_frp 35 (T:=3) (sz:=1) (es:=ci.map cI ++ [[D.int .i64 k]]) (by simp)).mono ?_)
       rintro _ rfl
       refine vdynK (f:=147) (ko:=1001) (kr:=1002) (kc:=1003) (T:=101) (sz:=1) (es:=O.map (cP eQ)) (caps:=caps) (by simp) (by simp) (by simp [hren,hcw,hcf]) (by simp [Hk]) (by simp [hren,hcw,hcf]) hall (by simp) (by simpa [htk] using hih) fun es' hs5 g1 g2 g3 g4 g5=>?_
       have ge:=fin es' g2
       subst g2
       try simp at g1
       simp [St.kst,hwk,hcw,hcf]
       refine back (k + 1,foldC A n (c ++ [k]) (k + 1) O) ⟨by simp only; omega,by simp only; omega,by simp only; rw [<- hstep]; exact h3,by simp only; omega⟩ (by simp only; omega) rfl (by simp <;> omega) (by simp) (by simp)
     | none =>
       have hc0:=hg2 rfl
       refine .inr ?_
       have hL2 : LenOk 8 1:=⟨by omega,by simp only [maxLen]; omega⟩
       simp [hc0,hL2,hwk,hcw,hcf]
       rw [hc0] at hih
       refine vdyn_lead ((lead_frp 38 (T:=3) (sz:=1) (es:=[[D.int .i64 k]]) (by simp)).mono ?_)
       rintro _ rfl
       refine vdynK (f:=147) (ko:=1001) (kr:=1002) (kc:=1003) (T:=101) (sz:=1) (es:=O.map (cP eQ)) (caps:=caps) (by simp) (by simp) (by simp [hren,hcw,hcf]) (by simp [Hk]) (by simp [hren,hcw,hcf]) hall (by simp) (by simpa using hih) fun es' hs5 g1 g2 g3 g4 g5=>?_
       have ge:=fin es' g2
       subst g2
       try simp at g1
       simp [St.kst,hwk,hcw,hcf]
       refine back (k + 1,foldC A n (c ++ [k]) (k + 1) O) ⟨by simp only; omega,by simp only; omega,by simp only; rw [<- hstep]; exact h3,by simp only; omega⟩ (by simp only; omega) rfl (by simp <;> omega) (by simp) (by simp)
   ·have hkn : k = A.length + n:=by omega
    rw [foldC_end hcl (by omega)] at h3
    subst h3
    simp [hrl,show ¬ (k : Int) < (A.length : Int) + (n : Int) by omega,vretK,vendK,hcw,hcf]
end
section
attribute [local simp] pS cP eQ_def cI
theorem aug_take {A : List (List Xw)} {n : Nat} (h : ∀ r ∈ A,r.length = n) : (augR A n).map (·.take n) = A ++ (List.range n).map (unitR n):=by
 simp only [augR,Zj,List.map_map]
 congr 1
 ·conv=>rhs; rw [<- List.map_id A]
  apply List.map_congr_left
  intro r hr
  simp only [Function.comp,id]
  exact (take_app (h r hr)).1
 ·apply List.map_congr_left
  intro j _
  simp only [Function.comp]
  exact (take_app unitR_len).1
theorem aug_last {A : List (List Xw)} {n : Nat} (h : ∀ r ∈ A,r.length = n) : (augR A n).map (fun r=>fnL r n) = List.replicate A.length 1 ++ List.replicate n 0:=by
 simp only [augR,Zj,List.map_map]
 congr 1
 ·rw [List.eq_replicate_iff]
  refine ⟨by simp,fun q hq=>?_⟩
  obtain ⟨r,hr,rfl⟩:=Xz.1 hq
  exact (take_app (h r hr)).2
 ·rw [List.eq_replicate_iff]
  refine ⟨by simp,fun q hq=>?_⟩
  obtain ⟨j,_,rfl⟩:=Xz.1 hq
  exact (take_app unitR_len).2
theorem unit_take {n i k : Nat} (h : k < n) : (unitR n i).take (k + 1) = (unitR n i).take k ++ [if k = i then 1 else 0]:=by
 rw [Jz (by simpa [unitR] using h)]
 simp [unitR]
theorem VK.nil2 {P : Program} {f : FuncId} {a : V} {caps : List V} {T sz : Nat} {es : List (List D)} {post : List (List D) -> Prop} (h : VK P f [a,.d (.pl [])] caps T sz es post) : VK P f [a,.d (.sl none none [])] caps T sz es post:=by
 refine ⟨h.1,fun w vals go gc ro A hg hin hLR=>h.2 w vals go gc ro A hg hin ?_⟩
 match vals,hLR with
 | v1 :: v2 :: r, hLR =>
   simp only [List.cons_append,LR] at hLR ⊢
   obtain ⟨h1,h2,h3⟩:=hLR
   refine ⟨h1,?_,h3⟩
   simp only [VR] at h2 ⊢
   exact h2.er
theorem w_impl_vertices (A : List (List Xw)) (n : Nat) (h : LPok A n) :
  VC Tryz.prog 133 [.agg [.d (pS (cP eQ) A),.d (pS eQ (List.replicate A.length 1)),.d (pS eQ (List.replicate n 1))],.d (.int .i64 1)] (fun _ r=>r = .d (pS (cP eQ) (ptsQ A n))):=by
 have hn1:=h.n1
 have hn4:=h.n4
 have hm1:=h.m1
 have hm5:=h.m5
 have hrows:=aug_take h.m01.len
 have hright:=aug_last h.m01.len
 have hkc:=k_choose A n h (((augR A n).map (·.take n)).map (cP eQ)) (((augR A n).map fun r=>fnL r n).map eQ) [.pl (A.map (cP eQ)),.pl ((List.replicate A.length (1 : Xw)).map eQ),.pl ((List.replicate n (1 : Xw)).map eQ)] rfl rfl rfl n [] 0 [] (by simp) (by simp) (by omega) (by simp) (by have:=cntC_all (A:=A) (n:=n) (by omega); simp; omega)
 rw [foldC_all,hrows,hright] at hkc
 obtain ⟨B1,hB1⟩ : ∃ B1,B1 = List.replicate A.length (1 : Xw):=⟨_,rfl⟩
 obtain ⟨C1,hC1⟩ : ∃ C1,C1 = List.replicate n (1 : Xw):=⟨_,rfl⟩
 have hB1l : B1.length = A.length:=by rw [hB1]; simp
 have hC1l : C1.length = n:=by rw [hC1]; simp
 have hB1n : B1 ≠ []:=fun e=>by rw [e] at hB1l; simp at hB1l; omega
 have hL0 : LenOk 24 A.length:=⟨by omega,by simp only [maxLen]; omega⟩
 have hA1 : ∀ l ∈ A.map (cP eQ),l.length = 1:=fun l hl=>by obtain ⟨q,_,rfl⟩:=Xz.1 hl; rfl
 rw [<- hB1,<- hC1] at hkc ⊢
 refine VC.ofL EP sZ Tryz.func133 fun B hl=>?_
 clear hl
 simp [Tryz.f133,hL0,hC1l]
 refine call_o (e_impl_copyRationals1 B1 (by omega) hB1n) (by simp) fun r2 n2 hs3 hn2 hm2 hp2=>?_
 obtain ⟨g2,rfl,hg2⟩:=hp2
 refine ⟨62,2,B1.map eQ,by omega,.inr ⟨g2,rfl,hg2,by simp⟩,?_⟩
 try simp at hn2
 simp [hB1l]
 refine loop_rule (X:=Nat) (fun i=>i <= n) (fun i=>[(5,.ptr 5 0 0),(6,.ptr 6 0 0),(7,.ptr 7 0 0),(2,.ptr 2 0 0),(3,.ptr 3 0 0),(8,.d (.int .i64 i))])
  (fun i=>[(2,some (.box [.d (.pl (A.map (cP eQ))),.d (.pl (B1.map eQ)),.d (.pl (C1.map eQ))])),(3,some (.box [.d (.int .i64 1)])),(5,some (.box [.d (.int .i64 n)])),(6,some (.box [.own 16 0 (A.length + i)])),(7,some (.box [.own 22 0 (A.length + i)])),(16,some (.row 101 1 ((A ++ (List.range i).map (unitR n)).map (cP eQ)))),(22,some (.row 62 2 ((B1 ++ List.replicate i 0).map eQ)))]) (fun i=>n - i) 0 (by simp) (by simp) (by simp) ?_
 intro i hs1 t1 m1 hi hh1
 by_cases hlt : i < n
 ·have hwi:=wr1 (i:=i) (by omega)
  have hL1 : LenOk 24 (A.length + i + 1):=⟨by omega,by simp only [maxLen]; omega⟩
  have hL2 : LenOk 16 (A.length + i + 1):=⟨by omega,by simp only [maxLen]; omega⟩
  obtain ⟨RA,hRA⟩ : ∃ RA,RA = (A ++ (List.range i).map (unitR n)).map (cP eQ):=⟨_,rfl⟩
  obtain ⟨RB,hRB⟩ : ∃ RB,RB = (B1 ++ List.replicate i 0).map eQ:=⟨_,rfl⟩
  have hRAl : RA.length = A.length + i:=by rw [hRA]; simp
  have hRBl : RB.length = A.length + i:=by rw [hRB]; simp [hB1l]
  have s1 : (A ++ (List.range (i + 1)).map (unitR n)).map (cP eQ) = RA ++ [cP eQ (unitR n i)]:=by rw [hRA,List.range_succ]; simp
  have s2 : (B1 ++ List.replicate (i + 1) 0).map eQ = RB ++ [eQ 0]:=by rw [hRB,List.replicate_succ']; simp
  rw [<- hRA,<- hRB]
  refine anyQ fun Z=>?_
  simp [hlt]
  refine loop_rule (X:=Nat) (fun k=>k <= n) (fun k=>[(5,.ptr 5 0 0),(6,.ptr 6 0 0),(7,.ptr 7 0 0),(2,.ptr 2 0 0),(3,.ptr 3 0 0),(8,.d (.int .i64 i)),(9,.own 28 0 k),(10,.d (.int .i64 k))])
   (fun k=>[(2,some (.box [.d (.pl (A.map (cP eQ))),.d (.pl (B1.map eQ)),.d (.pl (C1.map eQ))])),(3,some (.box [.d (.int .i64 1)])),(5,some (.box [.d (.int .i64 n)])),(6,some (.box [.own 16 0 (A.length + i)])),(7,some (.box [.own 22 0 (A.length + i)])),(16,some (.row 101 1 RA)),(22,some (.row 62 2 RB)),(28,some (.row 62 2 (((unitR n i).take k).map eQ)))]) (fun k=>n - k) 0 (by simp) (by simp) (by simp) ?_
  intro k hs2 t2 m2 hk hh2
  by_cases hkn : k < n
  ·have hwk:=wr1 (i:=k) (by omega)
   have hL3 : LenOk 16 (k + 1):=⟨by omega,by simp only [maxLen]; omega⟩
   have s3:=unit_take (i:=i) hkn
   have s4 : eQ (if k = i then 1 else 0) = [.int .i64 (if i = k then 1 else 0),.int .i64 1]:=by
    by_cases e : k = i
    ·subst e; rw [if_pos rfl,if_pos rfl]; rfl
    ·rw [if_neg e,if_neg (Ne.symm e)]; rfl
   obtain ⟨U,hU⟩ : ∃ U,U = ((unitR n i).take k).map eQ:=⟨_,rfl⟩
   have hUl : U.length = k:=by rw [hU]; simp [unitR]; omega
   have s5 : ((unitR n i).take (k + 1)).map eQ = U ++ [[.int .i64 (if i = k then 1 else 0),.int .i64 1]]:=by rw [s3,hU,Zj,Qz,List.map_nil,s4]
   have hbit:=w_impl_bit (decide (i = k))
   rw [List.map_take] at s5
   rw [<- hU]
   refine anyQ fun Z=>?_
   simp [hkn]
   refine call_f hbit (by simp) rfl fun hs3 hh3=>?_
   try simp at hh3
   simp [hUl,hL3,hwk]
   refine back (k + 1) (by omega) (by omega) rfl (by simp <;> omega) (by simp) (by simp [s5])
  ·have hkn2 : k = n:=by omega
   subst hkn2
   have hut : (unitR k i).take k = unitR k i:=Jj (by rw [unitR_len]; omega)
   have hul : List.take k ((unitR k i).map eQ) = (unitR k i).map eQ:=Jj (by simp [unitR_len])
   simp only [Zj,List.map_map] at s1
   simp at s2
   rw [hut]
   simp [hRAl,hRBl,hL1,hL2,hwi]
   refine back (i + 1) (by omega) (by omega) rfl (by simp <;> omega) (by simp) (by simp [s1,s2,hul,Nat.add_assoc])
 ·have hin : i = n:=by omega
  subst hin
  obtain ⟨RA,hRA⟩ : ∃ RA,RA = (A ++ (List.range i).map (unitR i)).map (cP eQ):=⟨_,rfl⟩
  obtain ⟨RB,hRB⟩ : ∃ RB,RB = (B1 ++ List.replicate i 0).map eQ:=⟨_,rfl⟩
  have hRAl : RA.length = A.length + i:=by rw [hRA]; simp
  have hRBl : RB.length = A.length + i:=by rw [hRB]; simp [hB1l]
  rw [<- hRA,<- hRB] at hkc ⊢
  simp
  have hkc2:=VK.nil2 (a:=.d (.int .i64 0)) (f:=147) (by simpa [intsN] using hkc)
  refine vdyn_lead ?_
  refine (lead_frp 16 (T:=101) (sz:=1) (es:=RA) (by simp)).bind ?_
  rintro _ rfl
  refine (lead_frp 22 (T:=62) (sz:=2) (es:=RB) (by simp)).bind ?_
  rintro _ rfl
  refine lead_fbx (k:=2) (ds:=[.pl (A.map (cP eQ)),.pl (B1.map eQ),.pl (C1.map eQ)]) (by simp) (by omega) ?_
  refine lead_fbx (k:=3) (ds:=[.int .i64 1]) (by simp [St.fbx,fbxL,fbx]) (by omega) ?_
  refine lead_fbx (k:=5) (ds:=[.int .i64 i]) (by simp [St.fbx,fbxL,fbx]) (by omega) ?_
  refine lead_fbx (k:=6) (ds:=[.pl RA]) (by simp [St.fbx,fbxL,fbx,hRAl,Jj]) (by omega) ?_
  refine lead_fbx (k:=7) (ds:=[.pl RB]) (by simp [St.fbx,fbxL,fbx,hRBl,Jj]) (by omega) ?_
  refine (lead_box 11 0 902 101 1 [.d (.sl none none [])] (by omega) (by omega) (by omega) (by simp [St.fbx,fbxL,fbx]) rfl).bind ?_
  rintro _ rfl
  refine Lead.of (vdynK (f:=147) (ko:=11) (kr:=902) (kc:=12) (T:=101) (sz:=1) (es:=[]) (caps:=capsV i RA RB [.pl (A.map (cP eQ)),.pl (B1.map eQ),.pl (C1.map eQ)]) (post:=fun es'=>es' = (ptsQ A i).map (cP eQ)) (by simp [St.fbx,fbxL,fbx]) (by simp [St.fbx,fbxL,fbx]) ?_ (by simp [Hk]) ?_ rfl (by simp) (by simpa using hkc2) fun es' hs5 g1 g2 g3 g4 g5=>?_)
  ·simp [St.fbx,fbxL,fbx,capsV,renK,hRAl,hRBl,Jj]
  ·simp [St.fbx,fbxL,fbx,capsV,renK,hRAl,hRBl,Jj]
  have hpl:=pts_len h
  subst g2
  simp [St.kst,St.fbx,fbxL,fbx,Jj]
end
section
attribute [local simp] pS cP eQ_def cI
theorem w_impl_best (A : List (List Xw)) (n : Nat) (h : LPok A n) (p : List Xw × Xw) (hp : minQ A n = some p) :
  VC Tryz.prog 108 [.agg [.d (pS (cP eQ) A),.d (pS eQ (List.replicate A.length 1)),.d (pS eQ (List.replicate n 1))],.d (.int .i64 1)]
   (fun _ r=>r = .tup [.d (.pl (p.1.map eQ)),.agg [.d (.int .i64 p.2.num),.d (.int .i64 (p.2.den : Int))],.d (.bool true)]):=by
 have hn4:=h.n4
 obtain ⟨PT,hPT⟩ : ∃ PT,PT = ptsQ A n:=⟨_,rfl⟩
 have hPl : PT.length <= 512:=by rw [hPT]; exact pts_len h
 have hPs : ∀ x ∈ PT,SolB n x:=by rw [hPT]; exact pts_sol h
 have hb : bestQ PT = some p:=by rw [hPT]; exact hp
 have hw1 : ∀ z : Int,-1 <= z -> z <= 1 -> IntKind.i64.wrap z = z:=fun z h1 h2=>wrap64_of (by omega) (by omega)
 have hcb : ∀ a b : Xw,-1 <= cmpQ a b /\ cmpQ a b <= 1:=fun a b=>by unfold cmpQ; split <;> (try split) <;> omega
 have hvs:=w_impl_vertices A n h
 rw [<- hPT] at hvs
 obtain ⟨B1,hB1⟩ : ∃ B1,B1 = List.replicate A.length (1 : Xw):=⟨_,rfl⟩
 obtain ⟨C1,hC1⟩ : ∃ C1,C1 = List.replicate n (1 : Xw):=⟨_,rfl⟩
 have hC1l : C1.length = n:=by rw [hC1]; simp
 rw [<- hB1,<- hC1] at hvs ⊢
 refine VC.ofL EP s108 Tryz.func108 fun B hl=>?_
 clear hl
 simp [Tryz.f108]
 refine call_p hvs (by simp) fun hs0 hh0 _=>?_
 try simp at hh0
 simp
 refine loop_rule (X:=Nat) (fun i=>i <= PT.length) (fun i=>[(1,.d (.int .i64 1)),(2,.ptr 2 0 0),(5,.ptr 5 0 0),(7,match bestT PT i with | none=>.d (.sl none none []) | some p=>.d (.pl (p.1.map eQ))),(8,.ptr 8 0 0),(9,.d (.bool (bestT PT i).isSome)),(16,.d (.pl (PT.map (cP eQ)))),(17,.d (.int .i64 PT.length)),(18,.d (.int .i64 i))])
  (fun i=>[(2,some (.box [.d (.pl (A.map (cP eQ))),.d (.pl (B1.map eQ)),.d (.pl (C1.map eQ))])),(5,some (.box [.d (.int .i64 0),.d (.int .i64 0)])),(8,some (.box (match bestT PT i with | none=>[.d (.int .i64 0),.d (.int .i64 0)] | some p=>[.d (.int .i64 p.2.num),.d (.int .i64 (p.2.den : Int))])))]) (fun i=>PT.length - i) 0 (by simp) (by simp [bestT_zero]) (by simp [bestT_zero]) ?_
 intro i hs1 t1 m1 hi hh1
 by_cases hlt : i < PT.length
 ·have hwi:=wr1 (i:=i) (by omega)
  have hm:=Jy hlt
  obtain ⟨x,hx⟩ : ∃ x,x = PT[i]:=⟨_,rfl⟩
  have hSx : SolB n x:=hPs x (by rw [hx]; exact hm)
  have hxl:=hSx.len
  have hdot:=w_impl_DotProduct C1 x (by rw [hC1l,hxl]) (by rw [hC1l,hC1]; exact one_dots hSx hn4)
  have hsq : dotF C1.length (fnL C1) (fnL x) = sumQ x:=by rw [hC1l,hC1]; exact sumQ_eq hxl
  rw [hsq] at hdot
  have hsm:=sum_sm hSx hn4
  have hst:=bestT_succ hlt
  rw [<- hx] at hst
  refine anyQ fun Z=>?_
  cases hbt : bestT PT i with
  | none =>
    rw [hbt] at hst
    simp only [bestS] at hst
    simp [hlt,<- hx]
    refine call_f hdot (by simp) rfl fun hs2 hh2=>?_
    try simp at hh2
    simp [hwi]
    exact back (i + 1) (by omega) (by omega) rfl (by simp <;> omega) (by simp [hst]) (by simp [hst])
  | some b =>
    rw [hbt] at hst
    simp only [bestS] at hst
    obtain ⟨hb1,hb2⟩:=bestT_sum hbt
    have hbm : smQ b.2:=by rw [hb1]; exact sum_sm (hPs _ (List.mem_of_mem_take hb2)) hn4
    simp [hlt,<- hx]
    refine call_f hdot (by simp) rfl fun hs2 hh2=>?_
    try simp at hh2
    simp
    refine call_f (w_impl_CompareRationals (sumQ x) b.2 hsm hbm) (by simp) rfl fun hs3 hh3=>?_
    try simp at hh3
    have hc:=hcb (sumQ x) b.2
    simp [hw1 _ hc.1 hc.2]
    by_cases hl : sumQ x < b.2
    ·rw [if_pos hl] at hst
     simp [cmpQ_lt.2 hl,hwi]
     exact back (i + 1) (by omega) (by omega) rfl (by simp <;> omega) (by simp [hst]) (by simp [hst])
    ·rw [if_neg hl] at hst
     have hnc : ¬ cmpQ (sumQ x) b.2 < 0:=fun e=>hl (cmpQ_lt.1 e)
     simp [hnc,hwi]
     exact back (i + 1) (by omega) (by omega) rfl (by simp <;> omega) (by simp [hst]) (by simp [hst])
 ·have hin : i = PT.length:=by omega
  subst hin
  have hbt : bestT PT PT.length = some p:=by rw [bestT_all]; exact hb
  simp [hbt]
theorem w_impl_Minimize (A : List (List Xw)) (n : Nat) (h : LPok A n) (p : List Xw × Xw) (hp : minQ A n = some p) :
  VC Tryz.prog 64 [.agg [.d (pS (cP eQ) A),.d (pS eQ (List.replicate A.length 1)),.d (pS eQ (List.replicate n 1))]]
   (fun _ r=>r = .tup [.d (.pl (p.1.map eQ)),.agg [.d (.int .i64 p.2.num),.d (.int .i64 (p.2.den : Int))],.d (.bool true)]):=by
 have hn4:=h.n4
 have hval:=w_impl_IsValidLinearProgram A n h
 have hbest:=w_impl_best A n h p hp
 obtain ⟨B1,hB1⟩ : ∃ B1,B1 = List.replicate A.length (1 : Xw):=⟨_,rfl⟩
 rw [<- hB1] at hval hbest ⊢
 refine VC.ofL EP sZ Tryz.func64 fun B hl=>?_
 clear hl
 simp [Tryz.f64]
 refine call_f hval (by simp) rfl fun hs0 hh0=>?_
 try simp at hh0
 simp
 refine loop_rule (X:=Nat) (fun i=>i <= n) (fun i=>[(1,.ptr 1 0 0),(3,.ptr 3 0 0),(12,.d (.pl ((List.replicate n (1 : Xw)).map eQ))),(13,.d (.int .i64 n)),(14,.d (.int .i64 i))]) (fun _=>[(1,some (.box [.d (.pl (A.map (cP eQ))),.d (.pl (B1.map eQ)),.d (.pl ((List.replicate n (1 : Xw)).map eQ))])),(3,some (.box [.d (.int .i64 0),.d (.int .i64 0)]))]) (fun i=>n - i) 0 (by simp) (by simp) (by simp) ?_
 intro i hs t m hi hh
 by_cases hlt : i < n
 ·have hwi:=wr1 (i:=i) (by omega)
  simp [hlt,hwi]
  exact back (i + 1) (by omega) (by omega) rfl (by simp <;> omega) (by simp) (by simp)
 ·simp [hlt]
  refine call_p hbest (by simp) fun hs1 hh1 _=>?_
  try simp at hh1
  simp
theorem w_impl_coverOf (q : PQuery) (bag : List Int) (hq : q.atoms.length <= 4) (hb : bag.length <= 5) :
  VC Tryz.prog 65 [.agg ((eQuery q).map V.d),.d (pS cI bag)]
   (fun _ r=>r = .agg [.d (pS (cP eQ) (covM q.atoms bag)),.d (pS eQ (List.replicate bag.length 1)),.d (pS eQ (List.replicate q.atoms.length 1))]):=by
 have hqe : (eQuery q).map V.d = [V.d (.int .i64 q.n),V.d (.pl (q.atoms.map eAtom)),V.d (.pl (q.out.map cI))]:=by simp [eQuery]
 obtain ⟨AT,hAT⟩ : ∃ AT,AT = q.atoms:=⟨_,rfl⟩
 obtain ⟨OU,hOU⟩ : ∃ OU,OU = q.out.map cI:=⟨_,rfl⟩
 obtain ⟨RW,hRW⟩ : ∃ RW : Int -> List Xw,RW = fun v=>AT.map fun a=>r01 (a.vars.contains v):=⟨_,rfl⟩
 have hcov : covM q.atoms bag = bag.map RW:=by rw [hRW,hAT]; rfl
 rw [hcov,hqe,<- hAT,<- hOU]
 rw [<- hAT] at hq
 refine VC.ofL EP sZ Tryz.func65 fun B hl=>?_
 clear hl
 simp [Tryz.f65]
 refine loop_ruleL (X:=Nat) (fun i _=>i <= bag.length) (fun i=>[(2,.ptr 2 0 0),(4,.ptr 4 0 0),(5,.ptr 5 0 0),(11,.d (.pl (bag.map cI))),(12,.d (.int .i64 bag.length)),(13,.d (.int .i64 i))])
  (fun i=>[(2,some (.box [.d (.int .i64 q.n),.d (.pl (AT.map eAtom)),.d (.pl OU)])),(4,some (.box [.d (.sl none none []),.d (.sl none none []),.d (.sl none none [])])),(5,some (.box [.own 901 0 i,.own 902 0 i,.d (.sl none none [])])),(901,some (.row 101 1 (((bag.take i).map RW).map (cP eQ)))),(902,some (.row 62 2 ((List.replicate i (1 : Xw)).map eQ)))]) (fun i=>bag.length - i) ?_ ?_
 ·refine (lead_box 5 0 901 101 1 [.d (.sl none none []),.d (.sl none none []),.d (.sl none none [])] (by omega) (by omega) (by omega) (by simp) rfl).bind ?_
  rintro _ rfl
  refine (lead_box 5 1 902 62 2 [.own 901 0 0,.d (.sl none none []),.d (.sl none none [])] (by omega) (by omega) (by omega) (by simp) rfl).bind ?_
  rintro _ rfl
  exact Lead.of ⟨0,by omega,rfl,rfl,Jv _,by simp,by simp⟩
 intro i hs1 t1 m1 hi hh1
 by_cases hlt : i < bag.length
 ·have hwi:=wr1 (i:=i) (by omega)
  have hL1 : LenOk 24 (i + 1):=⟨by omega,by simp only [maxLen]; omega⟩
  have hL2 : LenOk 16 (i + 1):=⟨by omega,by simp only [maxLen]; omega⟩
  obtain ⟨v,hv⟩ : ∃ v,v = bag[i]:=⟨_,rfl⟩
  obtain ⟨RA,hRA⟩ : ∃ RA,RA = ((bag.take i).map RW).map (cP eQ):=⟨_,rfl⟩
  obtain ⟨RB,hRB⟩ : ∃ RB,RB = (List.replicate i (1 : Xw)).map eQ:=⟨_,rfl⟩
  have hRAl : RA.length = i:=by rw [hRA]; simp; omega
  have hRBl : RB.length = i:=by rw [hRB]; simp
  have s1 : List.take (i + 1) (List.map (cP eQ ∘ RW) bag) = RA ++ [cP eQ (RW v)]:=by rw [Jz (by simpa using hlt)]; simp [hRA,hv]
  have s2 : List.replicate (i + 1) [D.int .i64 1,D.int .i64 1] = RB ++ [[D.int .i64 1,D.int .i64 1]]:=by rw [hRB,List.replicate_succ']; simp
  rw [<- hRA,<- hRB]
  refine anyQ2 fun Z=>?_
  simp [hlt,<- hv]
  refine loop_ruleL (X:=Nat) (fun k _=>k <= AT.length) (fun k=>[(2,.ptr 2 0 0),(4,.ptr 4 0 0),(5,.ptr 5 0 0),(7,.d (.int .i64 v)),(8,.own 903 0 k),(11,.d (.pl (bag.map cI))),(12,.d (.int .i64 bag.length)),(13,.d (.int .i64 i)),(18,.d (.pl (AT.map eAtom))),(19,.d (.int .i64 AT.length)),(20,.d (.int .i64 k))])
   (fun k=>[(2,some (.box [.d (.int .i64 q.n),.d (.pl (AT.map eAtom)),.d (.pl OU)])),(4,some (.box [.d (.sl none none []),.d (.sl none none []),.d (.sl none none [])])),(5,some (.box [.own 901 0 i,.own 902 0 i,.d (.sl none none [])])),(901,some (.row 101 1 RA)),(902,some (.row 62 2 RB)),(903,some (.row 62 2 (((AT.take k).map fun a=>r01 (a.vars.contains v)).map eQ)))]) (fun k=>AT.length - k) ?_ ?_
  ·refine (lead_slot 8 903 62 2 (by omega) (by omega) (by simp)).bind ?_
   rintro _ rfl
   exact Lead.of ⟨0,by omega,rfl,rfl,Jv _,by simp,by simp⟩
  intro k hs2 t2 m2 hk hh2
  by_cases hkn : k < AT.length
  ·have hwk:=wr1 (i:=k) (by omega)
   have hL3 : LenOk 16 (k + 1):=⟨by omega,by simp only [maxLen]; omega⟩
   obtain ⟨a,ha⟩ : ∃ a,a = AT[k]:=⟨_,rfl⟩
   obtain ⟨U,hU⟩ : ∃ U,U = ((AT.take k).map fun a=>r01 (a.vars.contains v)).map eQ:=⟨_,rfl⟩
   have hUl : U.length = k:=by rw [hU]; simp; omega
   have s5 : List.take (k + 1) (List.map (eQ ∘ fun a=>r01 (decide (v ∈ a.vars))) AT) = U ++ [[.int .i64 (if v ∈ a.vars then 1 else 0),.int .i64 1]]:=by
    rw [Jz (by simpa using hkn)]
    simp [-eQ_def,hU,<- ha,r01_eQ,List.contains_eq_mem]
   have hcon:=w_impl_ContainsVariable a v
   have hae : (eAtom a).map V.d = [V.d (.str a.rel),V.d (.pl (a.vars.map cI))]:=by simp [eAtom,cStr]
   have hbit:=w_impl_bit (a.vars.contains v)
   rw [hae] at hcon
   rw [<- hU]
   refine anyQ2 fun Z=>?_
   have hgk : (AT.map eAtom).getD k [] = [.str a.rel,.pl (a.vars.map cI)]:=by simp [hkn,<- ha,eAtom,cStr]
   simp [hkn,<- ha,eAtom,cStr]
   refine call_f hcon (by simp) rfl fun hs3 hh3=>?_
   try simp at hh3
   simp
   refine call_f hbit (by simp) rfl fun hs4 hh4=>?_
   try simp at hh4
   simp [hUl,hL3,hwk]
   exact back2 (k + 1) (by omega) (by omega) rfl (by simp <;> omega) (by simp) (by simp [s5])
  ·have hkn2 : k = AT.length:=by omega
   have hRWv : ((AT.take k).map fun a=>r01 (a.vars.contains v)) = RW v:=by rw [hRW,hkn2,Jj (Jv _)]
   rw [hRWv]
   have hRWl : (RW v).length = k:=by rw [hRW,hkn2]; simp
   have htk : ((RW v).map eQ).take k = (RW v).map eQ:=Jj (by simp; omega)
   simp [hkn2,hRAl,hRBl,hL1,hL2,hwi]
   exact back2 (i + 1) (by omega) (by omega) rfl (by simp <;> omega) (by simp) (by simp [s1,s2,<- hkn2,htk])
 ·have hin : i = bag.length:=by omega
  subst hin
  rw [Jj (Jv _)]
  simp
  refine loop_ruleL (X:=Nat) (fun k _=>k <= AT.length) (fun k=>[(4,.ptr 4 0 0),(5,.ptr 5 0 0),(48,.d (.int .i64 AT.length)),(49,.d (.int .i64 k))])
   (fun k=>[(4,some (.box [.d (.sl none none []),.d (.sl none none []),.d (.sl none none [])])),(5,some (.box [.own 901 0 bag.length,.own 902 0 bag.length,.own 904 0 k])),(901,some (.row 101 1 ((bag.map RW).map (cP eQ)))),(902,some (.row 62 2 ((List.replicate bag.length (1 : Xw)).map eQ))),(904,some (.row 62 2 ((List.replicate k (1 : Xw)).map eQ)))]) (fun k=>AT.length - k) ?_ ?_
  ·refine (lead_box 5 2 904 62 2 [.own 901 0 bag.length,.own 902 0 bag.length,.d (.sl none none [])] (by omega) (by omega) (by omega) (by simp) rfl).bind ?_
   rintro _ rfl
   exact Lead.of ⟨0,by omega,rfl,rfl,Jv _,by simp,by simp⟩
  intro k hs2 t2 m2 hk hh2
  by_cases hkn : k < AT.length
  ·have hwk:=wr1 (i:=k) (by omega)
   have hL3 : LenOk 16 (k + 1):=⟨by omega,by simp only [maxLen]; omega⟩
   obtain ⟨U,hU⟩ : ∃ U,U = (List.replicate k (1 : Xw)).map eQ:=⟨_,rfl⟩
   have hUl : U.length = k:=by rw [hU]; simp
   have s5 : List.replicate (k + 1) [D.int .i64 1,D.int .i64 1] = U ++ [[D.int .i64 1,D.int .i64 1]]:=by rw [hU,List.replicate_succ']; simp
   rw [<- hU]
   refine anyQ2 fun Z=>?_
   simp [hkn,hUl,hL3,hwk]
   exact back2 (k + 1) (by omega) (by omega) rfl (by simp <;> omega) (by simp) (by simp [s5])
  ·have hkn2 : k = AT.length:=by omega
   subst hkn2
   simp [Jj]
theorem w_impl_BagCoverWidth (q : PQuery) (b : List Int) : VC Tryz.prog 22 [.agg ((eQuery q).map V.d),.d (pS cI b)] (fun _ r=>r = bcwV q b):=by
 have hqe : (eQuery q).map V.d = [V.d (.int .i64 q.n),V.d (.pl (q.atoms.map eAtom)),V.d (.pl (q.out.map cI))]:=by simp [eQuery]
 refine VC.ofL EP sZ Tryz.func22 fun B hl=>?_
 clear hl
 simp [hqe,Tryz.f22]
 refine call_f (w_impl_IsValidQuery q) (by simp [hqe]) rfl fun hs0 hh0=>?_
 try simp at hh0
 cases hq : queryOk q
 ·simp [bcwV,hq]
 simp
 refine call_f (w_impl_isBag q b) (by simp [hqe]) rfl fun hs1 hh1=>?_
 try simp at hh1
 cases hb : bagI q.n b
 ·simp [bcwV,hq,hb]
 obtain ⟨f1,f2,f3,f4,f5⟩:=bag_facts hq hb
 obtain ⟨p,hp1,hp2⟩:=wid_some hq hb
 have hmin:=w_impl_Minimize (covM q.atoms b) q.atoms.length (bag_lp hq hb) p hp1
 have hcl : (covM q.atoms b).length = b.length:=by simp [covM]
 rw [hcl,hp2] at hmin
 simp
 refine call_p (w_impl_coverOf q b f4 f2) (by simp [hqe]) fun hs2 hh2 _=>?_
 try simp at hh2
 simp
 refine call_p hmin (by simp) fun hs3 hh3 _=>?_
 try simp at hh3
 simp [bcwV,hq,hb]
end
section
attribute [local simp] plI_id plStr_id map_plI map_plStr pS cP cI cStr dSl
theorem er_rowsL2 (l : List Ints) : erLL (l.map (cS cI)) = (l.map (plS plI)).map (cP cI):=erLL_map (er_cS er_cI) l
theorem er_intsL2 (l : List Int) : erLL (l.map cI) = l.map cI:=by rw [erLL_map er_cI,map_plI]
theorem rp_vrel (m : Nat -> Option Blk) (v : VRel) : rp m (.agg ((cVRel v).map V.d)) = some (.agg ((eVRel (plVRel v)).map V.d)):=by
 simp [cVRel,cReln,cS,eVRel,eReln,plVRel,plReln,plS,er_rowsL2,er_intsL2,rp,rpL]
theorem rp_reln2 (m : Nat -> Option Blk) (v : Reln) : rp m (.agg ((cReln v).map V.d)) = some (.agg ((eReln (plReln v)).map V.d)):=by
 simp [cReln,cS,eReln,plReln,plS,er_rowsL2,rp,rpL]
theorem rpL_cons2 {m : Nat -> Option Blk} {v v' : V} {l l' : List V} (h : rp m v = some v') (h' : rpL m l = some l') : rpL m (v :: l) = some (v' :: l'):=by simp only [rpL,h,h']
theorem xVRel (v : VRel) : (cVRel v).map V.d = [.d (.sl v.vars.id v.vars.T (v.vars.xs.map cI)),.d (.int .i64 v.rel.ar),.d (.sl v.rel.rows.id v.rel.rows.T (v.rel.rows.xs.map (cS cI)))]:=by simp [cVRel,cReln,cS]
theorem yVRel (v : PVRel) : (eVRel v).map V.d = [.d (.pl (v.vars.map cI)),.d (.int .i64 v.rel.ar),.d (.pl (v.rel.rows.map (cP cI)))]:=by simp [eVRel,eReln]
theorem p_impl_Project (r : PReln) (cols : List Int) (hb : cols.length <= 4294967296) : VC Tryz.prog 34 [.agg ((eReln r).map V.d),.d (pS cI cols)] (fun _ v=>v = .tup [.agg ((eReln (prP r cols)).map V.d),.d (.bool (prB r cols))]):=
 VC.plain (e_impl_Project r cols hb) (fun n v h=>by
  obtain ⟨y,rfl,hp,_,_⟩:=h
  have:=rp_reln2 (fun _=>none) y
  rw [hp] at this
  simp only [rp,rpL] at this ⊢
  rw [this]; rfl) (by simp [eReln,rd,rdL])
theorem w_impl_projected (b : PVRel) (bag : List Int) (hn : b.vars.Nodup) (h5 : b.vars.length <= 1000) : VC Tryz.prog 57 [.agg ((eVRel b).map V.d),.d (pS cI bag)] (fun _ r=>r = .agg ((eVRel (pjV b bag)).map V.d)):=by
 have hc1:=comL_len b.vars bag
 have hP:=p_impl_Project b.rel (comC b.vars bag) (by simp [comC]; omega)
 obtain ⟨vs,⟨ar,rl⟩⟩:=b
 simp only at hn h5 hc1 hP
 rw [pjV]
 simp only
 obtain ⟨Rs,hRs⟩ : ∃ R,R = prP ⟨ar,rl⟩ (comC vs bag):=⟨_,rfl⟩
 rw [<- hRs] at hP ⊢
 refine VC.ofL EP sZ Tryz.func57 fun B hl=>?_
 clear hl
 simp [Tryz.f57,yVRel]
 have hcm:=w_impl_common vs bag (by omega)
 rw [show commL vs bag = comL vs bag from rfl] at hcm
 have hsub : ∀ v ∈ comL vs bag,v ∈ vs:=fun v hv=>(List.mem_filter.1 hv).1
 obtain ⟨C,hC⟩ : ∃ C,C = comL vs bag:=⟨_,rfl⟩
 have hcc : comC vs bag = C.map (idxL vs):=by rw [hC]; rfl
 rw [hcc] at hP
 rw [<- hC] at hcm hsub hc1 ⊢
 refine call_p hcm (by simp) fun hs1 hh1 hl1=>?_
 simp at hh1
 simp
 refine loop_ruleL (X:=Nat) (fun i _=>i <= C.length) (fun i=>[(1,.d (.pl (bag.map cI))),(2,.ptr 2 0 0),(4,.ptr 4 0 0),(5,.d (.pl (C.map cI))),(6,.own 90 0 i),(15,.d (.pl (C.map cI))),(16,.d (.int .i64 C.length)),(17,.d (.int .i64 i))])
  (fun i=>[(2,some (.box [.d (.pl (vs.map cI)),.d (.int .i64 ar),.d (.pl (rl.map (cP cI)))])),(4,some (.box [.d (.sl none none []),.d (.int .i64 0),.d (.sl none none [])])),(90,some (.row 3 1 (((C.take i).map (idxL vs)).map cI)))]) (fun i=>C.length - i) ?_ ?_
 ·refine (lead_slot 6 90 3 1 (by omega) (by omega) (by simp)).bind ?_
  rintro _ rfl
  exact Lead.of ⟨0,by omega,rfl,rfl,Jv _,by simp,by simp⟩
 intro i hs t m hi hh
 by_cases hlt : i < C.length
 ·have hwi:=wr1 (i:=i) (by omega)
  have hmin : min i C.length = i:=by omega
  have L : LenOk 8 (i + 1):=⟨by omega,by simp only [maxLen]; omega⟩
  have htk : (C.map (cI ∘ idxL vs)).take (i + 1) = (C.map (cI ∘ idxL vs)).take i ++ [[D.int .i64 (idxL vs C[i])]]:=by
   rw [<- List.map_take,Jz hlt,Zj,List.map_take]; simp
  refine anyQ2 fun Q=>?_
  simp [hlt]
  refine call_f (w_impl_indexOf vs C[i]) (by simp) rfl fun hs3 hh3=>?_
  simp at hh3
  simp [hwi,L,hmin,Jj]
  exact back2 (i + 1) (by omega) (by omega) rfl (by simp <;> omega) (by simp) (by simp [htk])
 have hn : i = C.length:=by omega
 subst hn
 rw [List.take_length]
 obtain ⟨X,hX⟩ : ∃ X,X = C.map (idxL vs):=⟨_,rfl⟩
 have hXl : X.length = C.length:=by rw [hX]; simp
 rw [<- hX] at hP ⊢
 simp [eReln]
 refine call_p hP (by simp [eReln,Jj,hXl]) fun hs3 hh3 hl3=>?_
 simp at hh3
 simp [eReln,eVRel]
theorem e_impl_BagRelation (d : PDb) (q : PQuery) (bag : List Int) : VC Tryz.prog 19 [.agg ((eDb d).map V.d),.agg ((eQuery q).map V.d),.d (pS cI bag)]
  (fun n r=>∃ y : VRel,r = .tup [.agg ((cVRel y).map V.d),.d (.bool (brO d q bag).isSome)] /\ plVRel y = ovR (brO d q bag) /\ okVRel y /\ Good (cVRel y) (whVRel y) n):=by
 obtain ⟨dl,hdl⟩ : ∃ dl,dl = d.tabs:=⟨_,rfl⟩
 have hde : (eDb d).map V.d = [V.d (.pl (dl.map eTab))]:=by rw [hdl]; simp [eDb]
 have hqe : (eQuery q).map V.d = [V.d (.int .i64 q.n),V.d (.pl (q.atoms.map eAtom)),V.d (.pl (q.out.map cI))]:=by simp [eQuery]
 have hBC:=w_impl_BagCoverWidth q bag
 rw [bcwV] at hBC
 refine VC.of E s19 Tryz.func19 fun B=>?_
 have hZ : ∃ y : VRel,[V.d (.sl none none []),V.d (.int .i64 0),V.d (.sl none none [])] = (cVRel y).map V.d /\ plVRel y = ovR none /\ okVRel y /\ Good (cVRel y) (whVRel y) B:=
  ⟨⟨nilS,⟨0,nilS⟩⟩,by simp [cVRel,cReln,cS,nilS],by simp [ovR,plVRel,plReln,nilS,plS],⟨ok_nilS,trivial,ok_nilS⟩,good_VRel0 B⟩
 obtain ⟨yz,hz1,hz2,hz3,hz4⟩:=hZ
 simp [Tryz.f19,hde,hqe]
 cases hqb : queryOk q && bagI q.n bag
 ·have hO : brO d q bag = none:=by
   rw [brO,if_neg]
   intro h
   simp only [Jq] at h
   have:=(qf_of h.1).qok
   simp [this,h.2] at hqb
  rw [hqb] at hBC
  simp only [Zv,if_false] at hBC
  refine call_f hBC (by simp [hqe]) rfl fun hs1 hh1=>?_
  simp at hh1
  simp
  exact ⟨yz,⟨hz1,hO⟩,by rw [hO]; exact hz2,hz3,hz4⟩
 rw [hqb] at hBC
 simp only [if_true] at hBC
 refine call_f hBC (by simp [hqe]) rfl fun hs1 hh1=>?_
 simp at hh1
 simp
 refine call_f (w_impl_IsQueryFor d q) (by simp [hde,hqe]) rfl fun hs2 hh2=>?_
 simp at hh2
 cases hqf : qryFor d q
 ·have hO : brO d q bag = none:=by rw [brO,hqf]; rfl
  simp
  exact ⟨yz,⟨hz1,hO⟩,by rw [hO]; exact hz2,hz3,hz4⟩
 have f:=qf_of hqf
 have ha4:=f.a4
 have hbg : bagI q.n bag = true:=by simp only [Jq] at hqb; exact hqb.2
 have hOe : brO d q bag = brT d q bag q.atoms.length:=by rw [brO,hqf,hbg]; rfl
 rw [hOe]
 simp
 rw [w_bs1 (k':=30) (ks:=[]) _ _ _ (by simp) (by simp)]
 intro γ hs3 h3 hg
 obtain ⟨q1,q2⟩:=gam_at hg (k:=30) (T:=3) (sz:=1) (es:=[]) (by simp)
 clear hg
 simp [vpre,vnext,veff,vval,isPure,St.frzs,St.frz,Vs.frz,hpLL,St.kill]
 have h3' : hs2 <= hs3:=h3
 refine loop_ruleL (X:=Nat × VRel) (fun p _=>p.1 <= q.atoms.length /\ brT d q bag p.1 = some (plVRel p.2) /\ okVRel p.2 /\ Good (cVRel p.2) (whVRel p.2) B) (fun p=>[(2,.d (.pl (bag.map cI))),(3,.ptr 3 0 0),(4,.ptr 4 0 0),(6,.ptr 6 0 0),(10,.ptr 10 0 0),(35,.d (.pl (q.atoms.map eAtom))),(36,.d (.int .i64 q.atoms.length)),(37,.d (.int .i64 p.1))])
  (fun p=>[(3,some (.box [.d (.pl (dl.map eTab))])),(4,some (.box [.d (.int .i64 q.n),.d (.pl (q.atoms.map eAtom)),.d (.pl (q.out.map cI))])),(6,some (.box [.d (.sl none none []),.d (.int .i64 0),.d (.sl none none [])])),(10,some (.box [.d (.sl p.2.vars.id p.2.vars.T (p.2.vars.xs.map cI)),.d (.int .i64 p.2.rel.ar),.d (.sl p.2.rel.rows.id p.2.rel.rows.T (p.2.rel.rows.xs.map (cS cI)))]))]) (fun p=>q.atoms.length - p.1) ?_ ?_
 ·refine (lead_frz 31 (T:=28) (sz:=1) (es:=[[.sl (γ 30) (some (3,1)) []]]) (by simp)).bind ?_
  rintro _ ⟨γ2,hs4,h4,hg2,rfl⟩
  obtain ⟨p1,p2⟩:=gam_at hg2 (k:=31) (T:=28) (sz:=1) (es:=[[.sl (γ 30) (some (3,1)) []]]) (by simp)
  have p3:=gam_row hg2 (k:=31) (T:=28) (sz:=1) (es:=[[.sl (γ 30) (some (3,1)) []]]) (by simp)
  clear hg2
  have G1 : Good (cS cI (⟨γ 30,some (3,1),[]⟩ : Ints)) (whS whI ⟨γ 30,some (3,1),[]⟩) B:=good_ints (fun g hg=>(q1 g hg).1) (by simp)
  have G2 : Good (cS (cS cI) (⟨γ2 31,some (28,1),[⟨γ 30,some (3,1),[]⟩]⟩ : Sl Ints)) (whS (whS whI) ⟨γ2 31,some (28,1),[⟨γ 30,some (3,1),[]⟩]⟩) B:=
   good_row (fun g hg=>(p1 g hg).1) (by simpa using p2 (by simp)) (fun g hg=>by have:=p3 g hg; simpa [cS] using this) ⟨by have:=G1.nd; simpa [cS,idsLL] using this,by have:=G1.lo; simpa [cS,idsLL] using this⟩ (by simpa using G1.wh)
  have G:=Good.app (good_nilS (c:=cI) (wh:=whI) B) (good_Reln (ar:=0) G2 (Jv _)) (fun g h h'=>by simp [cS,nilS,idsL,D.ids,dSl,idsLL] at h)
  exact Lead.of ⟨(0,⟨nilS,⟨0,⟨γ2 31,some (28,1),[⟨γ 30,some (3,1),[]⟩]⟩⟩⟩),⟨by omega,by simp [brT_zero,plVRel,plReln,plS,nilS],⟨ok_nilS,trivial,by simp only [List.length_singleton,maxLen]; omega,by simp [okS]⟩,⟨G.nd,G.lo,G.wh⟩⟩,rfl,rfl,by simp <;> omega,by simp,by simp [Vs.frz,St.frz,nilS,cS]⟩
 rintro ⟨i,y⟩ hs t m ⟨hi,hT,ky,Gy⟩ hh
 simp only at hi hT ky Gy
 by_cases hlt : i < q.atoms.length
 ·have hwi:=wr1 (i:=i) (by omega)
  have hmem:=Jy hlt
  obtain ⟨⟨nm,vs⟩,ha⟩ : ∃ a,a = q.atoms[i]:=⟨_,rfl⟩
  have hsc:=brT_succ d q bag hlt
  rw [hT] at hsc
  rw [<- ha] at hmem hsc
  have hlk:=f.lk _ hmem
  have har:=f.ar _ hmem
  have hvl:=f.vlen _ hmem
  have hvi : ∀ v ∈ vs,0 <= v /\ v < 5:=fun v hv=>by have:=f.vin _ hmem v hv; have:=f.n5; omega
  have hcm:=w_impl_common (aVars vs) bag (by have:=aVars_len5 vs; omega)
  rw [show commL (aVars vs) bag = comL (aVars vs) bag from rfl] at hcm
  have hAR:=w_impl_AtomRelation d ⟨nm,vs⟩ hlk har hvl.2 hvi
  have hPJ:=w_impl_projected (abV d ⟨nm,vs⟩) bag (pw_nodup (aVars_pw vs)) (by have:=aVars_len5 vs; simp only [abV]; omega)
  rw [show (⟨aVars (⟨nm,vs⟩ : PAtom).vars,⟨(aVars (⟨nm,vs⟩ : PAtom).vars).length,abR d ⟨nm,vs⟩⟩⟩ : PVRel) = abV d ⟨nm,vs⟩ from rfl] at hAR
  simp only [brS] at hsc
  obtain ⟨AB,hAB⟩ : ∃ x,x = abV d ⟨nm,vs⟩:=⟨_,rfl⟩
  obtain ⟨PJ,hPJd⟩ : ∃ x,x = pjV AB bag:=⟨_,rfl⟩
  obtain ⟨CM,hCM⟩ : ∃ x,x = comL (aVars vs) bag:=⟨_,rfl⟩
  rw [<- hAB] at hAR hPJ hsc
  rw [<- hPJd] at hPJ hsc
  rw [<- hCM] at hcm hsc
  have hNJ:=e_impl_NaturalJoin (plVRel y) PJ
  obtain ⟨⟨vid,vT,vx⟩,⟨yar,⟨rid,rT,rx⟩⟩⟩:=y
  have rNJ:=fun m=>rpL_cons2 (rp_vrel m ⟨⟨vid,vT,vx⟩,⟨yar,⟨rid,rT,rx⟩⟩⟩) (rpL_cons2 (show rp m (.agg ((eVRel PJ).map V.d)) = some (.agg ((eVRel PJ).map V.d)) by simp [eVRel,eReln,rp,rpL]) (show rpL m [] = some [] from rfl))
  simp only [xVRel] at rNJ
  have hqB:=fun (e : brT d q bag (i + 1) = none)=>brT_none e q.atoms.length (by omega)
  simp [hlt,<- ha,eAtom]
  refine call_p (w_impl_AtomVariablesA ⟨nm,vs⟩) (by simp [eAtom,cStr]) fun hs5 hh5 hl5=>?_
  simp at hh5
  simp
  refine call_p hcm (by simp) fun hs6 hh6 hl6=>?_
  simp at hh6
  by_cases hC0 : CM = []
  ·rw [if_pos hC0] at hsc
   simp [hC0,hwi]
   exact back2 (i + 1,⟨⟨vid,vT,vx⟩,⟨yar,⟨rid,rT,rx⟩⟩⟩) ⟨by simp only; omega,hsc,ky,Gy⟩ (by simp only; omega) rfl (by simp <;> omega) (by simp) (by simp [cS])
  rw [if_neg hC0] at hsc
  simp [hC0]
  repeat' apply And.intro
  all_goals
   refine call_p hAR (by simp [hde,eAtom,cStr]) fun hs7 hh7 hl7=>?_
   simp at hh7
   simp [yVRel AB]
   try (repeat' apply And.intro)
   all_goals
    refine call_p hPJ (by simp [yVRel AB]) fun hs8 hh8 hl8=>?_
    simp at hh8
    simp [yVRel PJ]
    try (repeat' apply And.intro)
    all_goals
     refine call_pq hNJ (by rw [<- yVRel PJ]; exact rNJ _) fun n9 hs9 r9 hn9 hm9 hp9 hl9=>?_
     obtain ⟨⟨⟨wid,wT,wx⟩,⟨war,⟨sid,sT,sx⟩⟩⟩,rfl,pw,kw,Gw⟩:=hp9
     simp at hn9
     cases hnb : njB (plVRel ⟨⟨vid,vT,vx⟩,⟨yar,⟨rid,rT,rx⟩⟩⟩) PJ
     ·rw [hnb] at hsc
      simp only [Zv,if_false] at hsc
      have hO:=hqB hsc
      simp [cVRel,cReln,cS]
      simp only [hO]
      exact ⟨yz,by simpa [cVRel,cReln,cS] using hz1,hz2,hz3,hz4⟩
     ·rw [hnb] at hsc
      simp only [if_true] at hsc
      simp [cVRel,cReln,cS,hwi]
      exact back2 (i + 1,⟨⟨wid,wT,wx⟩,⟨war,⟨sid,sT,sx⟩⟩⟩) ⟨by simp only; omega,by rw [pw]; exact hsc,kw,Gw.le (by omega)⟩ (by simp only; omega) rfl (by simp <;> omega) (by simp) (by simp [cS])
 ·have hn : i = q.atoms.length:=by omega
  subst hn
  rw [hT]
  simp
  exact ⟨y,by simp [cVRel,cReln,cS],rfl,ky,Gy⟩
end
section
attribute [local simp] plI_id plStr_id map_plI map_plStr pS cP cI cStr
def nlC (b : Bool) (l : List Int) : D:=if b then .sl none none [] else .pl (l.map cI)
theorem w_spec_BagRelation (d : PDb) (q : PQuery) (bag : List Int) (hst : ∀ t ∈ d.tabs,t.name.length <= maxLen) (hsq : ∀ a ∈ q.atoms,a.rel.length <= maxLen) : VC Tryz.prog 20 [.agg ((eDb d).map V.d),.agg ((eQuery q).map V.d),.d (pS cI bag)]
  (fun _ r=>r = .tup [.agg ((eVRel (ovR (brO d q bag))).map V.d),.d (.bool (brO d q bag).isSome)]):=by
 obtain ⟨dl,hdl⟩ : ∃ dl,dl = d.tabs:=⟨_,rfl⟩
 have hde : (eDb d).map V.d = [V.d (.pl (dl.map eTab))]:=by rw [hdl]; simp [eDb]
 have hqe : (eQuery q).map V.d = [V.d (.int .i64 q.n),V.d (.pl (q.atoms.map eAtom)),V.d (.pl (q.out.map cI))]:=by simp [eQuery]
 have hBg:=w_spec_l30Bag q bag
 rw [<- bag_eq] at hBg
 refine VC.ofL EP s20 Tryz.func20 fun B hl=>?_
 clear hl
 simp [Tryz.f20,hde,hqe]
 refine call_f (w_spec_IsQueryFor d q hst hsq) (by simp [hde,hqe]) rfl fun hs1 hh1=>?_
 simp at hh1
 cases hqf : qryFor d q
 ·have hO : brO d q bag = none:=by rw [brO,hqf]; rfl
  simp [hO,ovR,eVRel,eReln]
 simp
 refine call_f hBg (by simp [hqe]) rfl fun hs2 hh2=>?_
 simp at hh2
 cases hbg : bagI q.n bag
 ·have hO : brO d q bag = none:=by rw [brO,hbg,Bool.and_false]; rfl
  simp [hO,ovR,eVRel,eReln]
 have f:=qf_of hqf
 have ha4:=f.a4
 have hOe : brO d q bag = brT d q bag q.atoms.length:=by rw [brO,hqf,hbg]; rfl
 rw [hOe]
 simp
 refine loop_ruleL (X:=Nat × PVRel × Bool) (fun p _=>p.1 <= q.atoms.length /\ brT d q bag p.1 = some p.2.1 /\ (p.2.2 = true -> p.2.1.vars = [])) (fun p=>[(2,.d (.pl (bag.map cI))),(3,.ptr 3 0 0),(4,.ptr 4 0 0),(6,.ptr 6 0 0),(8,.ptr 8 0 0),(9,.d (.int .i64 p.1))])
  (fun p=>[(3,some (.box [.d (.pl (dl.map eTab))])),(4,some (.box [.d (.int .i64 q.n),.d (.pl (q.atoms.map eAtom)),.d (.pl (q.out.map cI))])),(6,some (.box [.d (.sl none none []),.d (.int .i64 0),.d (.sl none none [])])),(8,some (.box [.d (nlC p.2.2 p.2.1.vars),.d (.int .i64 p.2.1.rel.ar),.d (.pl (p.2.1.rel.rows.map (cP cI)))]))]) (fun p=>q.atoms.length - p.1) ?_ ?_
 ·refine (lead_frp 30 (T:=28) (sz:=1) (es:=[[.pl []]]) (by simp)).bind ?_
  rintro _ rfl
  exact Lead.of ⟨(0,⟨[],⟨0,[[]]⟩⟩,true),⟨by omega,brT_zero d q bag,fun _=>rfl⟩,rfl,rfl,Jv _,by simp,by simp [nlC]⟩
 rintro ⟨i,y,fl⟩ hs t m ⟨hi,hT,hfl⟩ hh
 simp only at hi hT hfl
 by_cases hlt : i < q.atoms.length
 ·have hwi:=wr1 (i:=i) (by omega)
  have hmem:=Jy hlt
  obtain ⟨⟨nm,vs⟩,ha⟩ : ∃ a,a = q.atoms[i]:=⟨_,rfl⟩
  have hsc:=brT_succ d q bag hlt
  rw [hT] at hsc
  rw [<- ha] at hmem hsc
  have hlk:=f.lk _ hmem
  have har:=f.ar _ hmem
  have hvl:=f.vlen _ hmem
  have hvi : ∀ v ∈ vs,0 <= v /\ v < 5:=fun v hv=>by have:=f.vin _ hmem v hv; have:=f.n5; omega
  have hAR:=w_spec_AtomRelation d ⟨nm,vs⟩ hst (hsq _ hmem) hlk har hvl.2 hvi
  have hav5:=aVars_len5 vs
  have hnd:=pw_nodup (aVars_pw vs)
  have hPr:=w_spec_Project (abV d ⟨nm,vs⟩).rel (comC (aVars vs) bag) (by have:=comL_len (aVars vs) bag; simp [comC]; omega)
  simp only [brS] at hsc
  have hPJe : pjV (abV d ⟨nm,vs⟩) bag = ⟨comL (aVars vs) bag,prP (abV d ⟨nm,vs⟩).rel (comC (aVars vs) bag)⟩:=rfl
  have hNJ:=w_spec_NaturalJoin y (pjV (abV d ⟨nm,vs⟩) bag)
  have hABv : (abV d ⟨nm,vs⟩).vars = aVars vs:=rfl
  obtain ⟨AB,hAB⟩ : ∃ x,x = abV d ⟨nm,vs⟩:=⟨_,rfl⟩
  rw [<- hAB] at hAR hPr hsc hPJe hNJ hABv
  obtain ⟨AV,hAV⟩ : ∃ x,x = aVars vs:=⟨_,rfl⟩
  rw [<- hAV] at hPr hsc hPJe hABv hav5 hnd
  obtain ⟨abv,abr⟩:=AB
  simp only at hABv hPr
  subst hABv
  have hqB:=fun (e : brT d q bag (i + 1) = none)=>brT_none e q.atoms.length (by omega)
  simp [hlt,<- ha,eAtom]
  repeat' apply And.intro
  all_goals
   refine call_p hAR (by simp [hde,eAtom,cStr]) fun hs3 hh3 hl3=>?_
   simp at hh3
   simp [yVRel]
   refine loop_rule (X:=Nat) (fun j=>j <= abv.length) (fun j=>[(2,.d (.pl (bag.map cI))),(3,.ptr 3 0 0),(4,.ptr 4 0 0),(6,.ptr 6 0 0),(8,.ptr 8 0 0),(9,.d (.int .i64 i)),(10,.ptr 10 0 0),(11,.own 47 0 (comL (abv.take j) bag).length),(12,.own 48 0 (comL (abv.take j) bag).length),(13,.d (.int .i64 j))])
    (fun j=>[(3,some (.box [.d (.pl (dl.map eTab))])),(4,some (.box [.d (.int .i64 q.n),.d (.pl (q.atoms.map eAtom)),.d (.pl (q.out.map cI))])),(6,some (.box [.d (.sl none none []),.d (.int .i64 0),.d (.sl none none [])])),(8,some (.box [.d (nlC fl y.vars),.d (.int .i64 y.rel.ar),.d (.pl (y.rel.rows.map (cP cI)))])),(10,some (.box [.d (.pl (abv.map cI)),.d (.int .i64 abr.ar),.d (.pl (abr.rows.map (cP cI)))])),(47,some (.row 3 1 (((comL (abv.take j) bag).map (idxL abv)).map cI))),(48,some (.row 3 1 ((comL (abv.take j) bag).map cI)))]) (fun j=>abv.length - j) 0 (by omega) (by simp [comL_nil]) (by simp [comL_nil]) ?_
   intro j hs4 t m hj hh4
   have hh4' : hs3 <= hs4:=hh4
   by_cases hjl : j < abv.length
   ·have hwj:=wr1 (i:=j) (by omega)
    have hstp:=comL_succ (b:=bag) hjl
    have hln:=comL_len (abv.take j) bag
    rw [Zq] at hln
    obtain ⟨C,hC⟩ : ∃ C,C = comL (abv.take j) bag:=⟨_,rfl⟩
    rw [<- hC] at hstp hln ⊢
    have hL : LenOk 8 (C.length + 1):=⟨by omega,by simp only [maxLen]; omega⟩
    have hge:=idxL_ge bag abv[j]
    have hix:=idxL_get hnd hjl
    refine anyQ fun Q=>?_
    simp [hjl]
    refine call_f (w_spec_l7Find bag abv[j]) (by simp) rfl fun hs5 hh5=>?_
    simp at hh5
    cases hc : bag.contains abv[j]
    ·have h8 : ¬ 0 <= idxL bag abv[j]:=by rw [hc] at hge; exact of_decide_eq_false hge
     rw [hc] at hstp
     simp only [Zv,if_false,List.append_nil] at hstp
     simp [h8,hwj]
     exact back (j + 1) (by omega) (by omega) rfl (by simp <;> omega) (by rw [hstp]; simp) (by rw [hstp]; simp)
    ·have h8 : 0 <= idxL bag abv[j]:=by rw [hc] at hge; exact of_decide_eq_true hge
     rw [hc] at hstp
     simp only [if_true] at hstp
     simp [h8,hjl,hwj,hL,Jj]
     exact back (j + 1) (by omega) (by omega) rfl (by simp <;> omega) (by rw [hstp]; simp) (by rw [hstp]; simp [hix])
   have hn : j = abv.length:=by omega
   subst hn
   rw [List.take_length]
   obtain ⟨C,hC⟩ : ∃ C,C = comL abv bag:=⟨_,rfl⟩
   have hcc : comC abv bag = C.map (idxL abv):=by rw [hC]; rfl
   rw [hcc] at hPr hPJe
   rw [<- hC] at hsc hPJe ⊢
   by_cases hC0 : C = []
   ·rw [if_pos hC0] at hsc
    simp [hC0,hwi]
    exact back2 (i + 1,y,fl) ⟨by simp only; omega,hsc,hfl⟩ (by simp only; omega) rfl (by simp <;> omega) (by simp) (by simp)
   rw [if_neg hC0] at hsc
   obtain ⟨X,hX⟩ : ∃ X,X = C.map (idxL abv):=⟨_,rfl⟩
   have hXl : X.length = C.length:=by rw [hX]; simp
   rw [<- hX] at hPr hPJe ⊢
   simp [hC0]
   refine call_p hPr (by simp [eReln,Jj,hXl]) fun hs6 hh6 hl6=>?_
   simp at hh6
   obtain ⟨PP,hPP⟩ : ∃ P,P = prP abr X:=⟨_,rfl⟩
   rw [<- hPP] at hPJe ⊢
   rw [hPJe] at hNJ hsc
   simp [eReln,Jj]
   refine call_p hNJ (by
    cases fl
    ·simp [nlC,eVRel,eReln,Jj]
    ·have:=hfl rfl
     simp [nlC,eVRel,eReln,Jj,this,D.er,erLL]) fun hs7 hh7 hl7=>?_
   simp at hh7
   cases hnb : njB y ⟨C,PP⟩
   ·rw [hnb] at hsc
    simp only [Zv,if_false] at hsc
    have hO:=hqB hsc
    simp [hO,ovR,eVRel,eReln]
   ·rw [hnb] at hsc
    simp only [if_true] at hsc
    simp [eVRel,eReln,hwi]
    exact back2 (i + 1,njP y ⟨C,PP⟩,false) ⟨by simp only; omega,hsc,fun h=>by cases h⟩ (by simp only; omega) rfl (by simp <;> omega) (by simp) (by simp [nlC])
 ·have hn : i = q.atoms.length:=by omega
  subst hn
  rw [hT]
  obtain ⟨yv,⟨yar,yr⟩⟩:=y
  simp only at hfl
  cases fl
  ·simp [nlC,ovR,eVRel,eReln]
  ·obtain rfl:=hfl rfl
   simp [nlC,ovR,eVRel,eReln]
end
section
attribute [local simp] plI_id plStr_id map_plI map_plStr pS cP cI cStr dSl
theorem rp_db2 (m : Nat -> Option Blk) (v : Db) : rp m (.agg ((cDb v).map V.d)) = some (.agg ((eDb (plDb v)).map V.d)):=by
 simp [cDb,cS,eDb,plDb,plS,erLL_map er_cTab,rp,rpL]
theorem rp_qry2 (m : Nat -> Option Blk) (v : Query) : rp m (.agg ((cQuery v).map V.d)) = some (.agg ((eQuery (plQuery v)).map V.d)):=by
 simp [cQuery,cS,eQuery,plQuery,plS,erLL_map er_cAtom,erLL_map er_cI,rp,rpL]
theorem rp_ints2 (m : Nat -> Option Blk) (v : Ints) : rp m (.d (dSl cI v)) = some (.d (pS cI (plS plI v))):=by
 simp [plS,erLL_map er_cI,rp,D.er]
theorem t_impl_BagRelation (d : Db) (q : Query) (bag : Ints) : VC Tryz.prog 19 [.agg ((cDb d).map V.d),.agg ((cQuery q).map V.d),.d (dSl cI bag)]
  (fun n r=>∃ y : VRel,r = .tup [.agg ((cVRel y).map V.d),.d (.bool (brO (plDb d) (plQuery q) (plS plI bag)).isSome)] /\ plVRel y = ovR (brO (plDb d) (plQuery q) (plS plI bag)) /\ okVRel y /\ Good (cVRel y) (whVRel y) n):=
 (e_impl_BagRelation (plDb d) (plQuery q) (plS plI bag)).er (rpL_cons2 (rp_db2 _ d) (rpL_cons2 (rp_qry2 _ q) (rpL_cons2 (rp_ints2 _ bag) rfl)))
end
section
attribute [local simp] pS cP eQ_def cI
theorem w_spec_l14Best (A : List (List Xw)) (n : Nat) (h : LPok A n) (p : List Xw × Xw) (hp : minQ A n = some p) :
  VC Tryz.prog 112 [.agg [.d (pS (cP eQ) A),.d (pS eQ (List.replicate A.length 1)),.d (pS eQ (List.replicate n 1))],.d (.int .i64 1)]
   (fun _ r=>r = .tup [.d (.pl (p.1.map eQ)),.agg [.d (.int .i64 p.2.num),.d (.int .i64 (p.2.den : Int))],.d (.bool true)]):=by
 have hn4:=h.n4
 obtain ⟨PT,hPT⟩ : ∃ PT,PT = ptsQ A n:=⟨_,rfl⟩
 have hPl : PT.length <= 512:=by rw [hPT]; exact pts_len h
 have hPs : ∀ x ∈ PT,SolB n x:=by rw [hPT]; exact pts_sol h
 have hb : bestQ PT = some p:=by rw [hPT]; exact hp
 have hw1 : ∀ z : Int,-1 <= z -> z <= 1 -> IntKind.i64.wrap z = z:=fun z h1 h2=>wrap64_of (by omega) (by omega)
 have hcb : ∀ a b : Xw,-1 <= cmpQ a b /\ cmpQ a b <= 1:=fun a b=>by unfold cmpQ; split <;> (try split) <;> omega
 have hvs:=w_spec_l14Points A n h
 rw [<- hPT] at hvs
 obtain ⟨B1,hB1⟩ : ∃ B1,B1 = List.replicate A.length (1 : Xw):=⟨_,rfl⟩
 obtain ⟨C1,hC1⟩ : ∃ C1,C1 = List.replicate n (1 : Xw):=⟨_,rfl⟩
 have hC1l : C1.length = n:=by rw [hC1]; simp
 rw [<- hB1,<- hC1] at hvs ⊢
 refine VC.ofL EP s112 Tryz.func112 fun B hl=>?_
 clear hl
 simp [Tryz.f112]
 refine call_p hvs (by simp) fun hs0 hh0 _=>?_
 try simp at hh0
 simp
 refine loop_ruleL (X:=Nat) (fun i _=>i <= PT.length) (fun i=>[(1,.d (.int .i64 1)),(2,.ptr 2 0 0),(5,.ptr 5 0 0),(7,.d (ptV (bestT PT i))),(8,.ptr 8 0 0),(9,.d (.pl (PT.map (cP eQ)))),(10,.d (.bool (bestT PT i).isSome)),(11,.d (.int .i64 i))])
  (fun i=>[(2,some (.box [.d (.pl (A.map (cP eQ))),.d (.pl (B1.map eQ)),.d (.pl (C1.map eQ))])),(5,some (.box [.d (.int .i64 0),.d (.int .i64 0)])),(8,some (.box (match bestT PT i with | none=>[.d (.int .i64 0),.d (.int .i64 0)] | some p=>[.d (.int .i64 p.2.num),.d (.int .i64 (p.2.den : Int))])))]) (fun i=>PT.length - i) ?_ ?_
 ·refine (lead_frp 14 (T:=62) (sz:=2) (es:=[]) (by simp)).bind ?_
  rintro _ rfl
  exact Lead.of ⟨0,by omega,rfl,rfl,Jv _,by simp [bestT_zero,ptV],by simp [bestT_zero]⟩
 intro i hs1 t1 m1 hi hh1
 by_cases hlt : i < PT.length
 ·have hwi:=wr1 (i:=i) (by omega)
  have hm:=Jy hlt
  obtain ⟨x,hx⟩ : ∃ x,x = PT[i]:=⟨_,rfl⟩
  have hSx : SolB n x:=hPs x (by rw [hx]; exact hm)
  have hxl:=hSx.len
  have hdot:=w_spec_DotProduct C1 x (by rw [hC1l,hxl]) (by rw [hC1l,hC1]; exact one_dots hSx hn4)
  have hsq : dotF C1.length (fnL C1) (fnL x) = sumQ x:=by rw [hC1l,hC1]; exact sumQ_eq hxl
  rw [hsq] at hdot
  have hsm:=sum_sm hSx hn4
  have hst:=bestT_succ hlt
  rw [<- hx] at hst
  refine anyQ2 fun Z=>?_
  cases hbt : bestT PT i with
  | none =>
    rw [hbt] at hst
    simp only [bestS] at hst
    simp [hlt,<- hx]
    refine ⟨?_,?_⟩
    all_goals
     refine call_f hdot (by simp) rfl fun hs2 hh2=>?_
     try simp at hh2
     simp [hlt,<- hx,hwi]
     exact back2 (i + 1) (by omega) (by omega) rfl (by simp <;> omega) (by simp [hst,ptV,hx]) (by simp [hst])
  | some b =>
    rw [hbt] at hst
    simp only [bestS] at hst
    obtain ⟨hb1,hb2⟩:=bestT_sum hbt
    have hbm : smQ b.2:=by rw [hb1]; exact sum_sm (hPs _ (List.mem_of_mem_take hb2)) hn4
    simp [hlt,<- hx]
    refine ⟨?_,?_⟩
    all_goals
     refine call_f hdot (by simp) rfl fun hs2 hh2=>?_
     try simp at hh2
     simp
     refine call_f (w_spec_CompareRationals (sumQ x) b.2 hsm hbm) (by simp) rfl fun hs3 hh3=>?_
     try simp at hh3
     have hc:=hcb (sumQ x) b.2
     simp [hw1 _ hc.1 hc.2]
     by_cases hl : sumQ x < b.2
     ·rw [if_pos hl] at hst
      simp [hlt,<- hx,cmpQ_lt.2 hl,hwi]
      exact back2 (i + 1) (by omega) (by omega) rfl (by simp <;> omega) (by simp [hst,ptV]) (by simp [hst])
     ·rw [if_neg hl] at hst
      have hnc : ¬ cmpQ (sumQ x) b.2 < 0:=fun e=>hl (cmpQ_lt.1 e)
      simp [hnc,hwi]
      exact back2 (i + 1) (by omega) (by omega) rfl (by simp <;> omega) (by simp [hst,ptV]) (by simp [hst])
 ·have hin : i = PT.length:=by omega
  subst hin
  have hbt : bestT PT PT.length = some p:=by rw [bestT_all]; exact hb
  simp [hbt,ptV]
theorem w_spec_Minimize (A : List (List Xw)) (n : Nat) (h : LPok A n) (p : List Xw × Xw) (hp : minQ A n = some p) :
  VC Tryz.prog 67 [.agg [.d (pS (cP eQ) A),.d (pS eQ (List.replicate A.length 1)),.d (pS eQ (List.replicate n 1))]]
   (fun _ r=>r = .tup [.d (.pl (p.1.map eQ)),.agg [.d (.int .i64 p.2.num),.d (.int .i64 (p.2.den : Int))],.d (.bool true)]):=by
 have hn4:=h.n4
 have hval:=w_spec_IsValidLinearProgram A n h
 have hbest:=w_spec_l14Best A n h p hp
 obtain ⟨B1,hB1⟩ : ∃ B1,B1 = List.replicate A.length (1 : Xw):=⟨_,rfl⟩
 rw [<- hB1] at hval hbest ⊢
 refine VC.ofL EP s67 Tryz.func67 fun B hl=>?_
 clear hl
 simp [Tryz.f67]
 refine call_f hval (by simp) rfl fun hs0 hh0=>?_
 try simp at hh0
 simp
 refine call_f (w_spec_l14Plus n (by omega)) (by simp) rfl fun hs1 hh1=>?_
 try simp at hh1
 simp
 refine call_p hbest (by simp) fun hs2 hh2 _=>?_
 try simp at hh2
 simp
theorem w_spec_BagCoverWidth (q : PQuery) (bag : List Int) (hst : ∀ a ∈ q.atoms,a.rel.length <= maxLen) : VC Tryz.prog 23 [.agg ((eQuery q).map V.d),.d (pS cI bag)] (fun _ r=>r = bcwV q bag):=by
 have hqe : (eQuery q).map V.d = [V.d (.int .i64 q.n),V.d (.pl (q.atoms.map eAtom)),V.d (.pl (q.out.map cI))]:=by simp [eQuery]
 refine VC.ofL EP s23 Tryz.func23 fun B hl=>?_
 clear hl
 simp [hqe,Tryz.f23]
 refine call_f (w_spec_IsValidQuery q hst) (by simp [hqe]) rfl fun hs0 hh0=>?_
 try simp at hh0
 cases hq : queryOk q
 ·simp [bcwV,hq]
 simp
 refine call_f (VC.to (w_spec_l30Bag q bag) (show _ = V.d (.bool (bagI q.n bag)) by rw [bag_eq])) (by simp [hqe]) rfl fun hs1 hh1=>?_
 try simp at hh1
 cases hb : bagI q.n bag
 ·simp [bcwV,hq,hb]
 obtain ⟨f1,f2,f3,f4,f5⟩:=bag_facts hq hb
 obtain ⟨p,hp1,hp2⟩:=wid_some hq hb
 have hmin:=w_spec_Minimize (covM q.atoms bag) q.atoms.length (bag_lp hq hb) p hp1
 have hcl : (covM q.atoms bag).length = bag.length:=by simp [covM]
 rw [hcl,hp2] at hmin
 obtain ⟨WQ,hWQ⟩ : ∃ WQ,WQ = widQ q.atoms bag:=⟨_,rfl⟩
 have hbcw : bcwV q bag = .tup [.agg [.d (.int .i64 WQ.num),.d (.int .i64 (WQ.den : Int))],.d (.bool true)]:=by rw [hWQ]; simp [bcwV,hq,hb]
 rw [<- hWQ] at hmin
 rw [hbcw]
 obtain ⟨AT,hAT⟩ : ∃ AT,AT = q.atoms:=⟨_,rfl⟩
 obtain ⟨OU,hOU⟩ : ∃ OU,OU = q.out.map cI:=⟨_,rfl⟩
 obtain ⟨RW,hRW⟩ : ∃ RW : Int -> List Xw,RW = fun v=>AT.map fun a=>r01 (a.vars.contains v):=⟨_,rfl⟩
 have hcov : covM q.atoms bag = bag.map RW:=by rw [hRW,hAT]; rfl
 rw [hcov,<- hAT] at hmin
 rw [<- hAT] at f4 ⊢
 rw [<- hOU]
 have hq4:=f4
 have hb5:=f2
 simp
 refine loop_ruleL (X:=Nat) (fun i _=>i <= bag.length) (fun i=>[(1,.d (.pl (bag.map cI))),(2,.ptr 2 0 0),(4,.ptr 4 0 0),(6,.ptr 6 0 0),(7,.d (.int .i64 i))])
  (fun i=>[(2,some (.box [.d (.int .i64 q.n),.d (.pl (AT.map eAtom)),.d (.pl OU)])),(4,some (.box [.d (.int .i64 0),.d (.int .i64 0)])),(6,some (.box [.own 901 0 i,.own 902 0 i,.d (.sl none none [])])),(901,some (.row 101 1 (((bag.take i).map RW).map (cP eQ)))),(902,some (.row 62 2 ((List.replicate i (1 : Xw)).map eQ)))]) (fun i=>bag.length - i) ?_ ?_
 ·refine (lead_box 6 0 901 101 1 [.d (.sl none none []),.d (.sl none none []),.d (.sl none none [])] (by omega) (by omega) (by omega) (by simp) rfl).bind ?_
  rintro _ rfl
  refine (lead_box 6 1 902 62 2 [.own 901 0 0,.d (.sl none none []),.d (.sl none none [])] (by omega) (by omega) (by omega) (by simp) rfl).bind ?_
  rintro _ rfl
  exact Lead.of ⟨0,by omega,rfl,rfl,Jv _,by simp,by simp⟩
 intro i hs1 t1 m1 hi hh1
 by_cases hlt : i < bag.length
 ·have hwi:=wr1 (i:=i) (by omega)
  have hL1 : LenOk 24 (i + 1):=⟨by omega,by simp only [maxLen]; omega⟩
  have hL2 : LenOk 16 (i + 1):=⟨by omega,by simp only [maxLen]; omega⟩
  obtain ⟨v,hv⟩ : ∃ v,v = bag[i]:=⟨_,rfl⟩
  obtain ⟨RA,hRA⟩ : ∃ RA,RA = ((bag.take i).map RW).map (cP eQ):=⟨_,rfl⟩
  obtain ⟨RB,hRB⟩ : ∃ RB,RB = (List.replicate i (1 : Xw)).map eQ:=⟨_,rfl⟩
  have hRAl : RA.length = i:=by rw [hRA]; simp; omega
  have hRBl : RB.length = i:=by rw [hRB]; simp
  have s1 : List.take (i + 1) (List.map (cP eQ ∘ RW) bag) = RA ++ [cP eQ (RW v)]:=by rw [Jz (by simpa using hlt)]; simp [hRA,hv]
  have s2 : List.replicate (i + 1) [D.int .i64 1,D.int .i64 1] = RB ++ [[D.int .i64 1,D.int .i64 1]]:=by rw [hRB,List.replicate_succ']; simp
  rw [<- hRA,<- hRB]
  refine anyQ2 fun Z=>?_
  simp [hlt]
  refine loop_rule (X:=Nat) (fun k=>k <= AT.length) (fun k=>[(1,.d (.pl (bag.map cI))),(2,.ptr 2 0 0),(4,.ptr 4 0 0),(6,.ptr 6 0 0),(7,.d (.int .i64 i)),(8,.own 32 0 k),(9,.d (.int .i64 k))])
   (fun k=>[(2,some (.box [.d (.int .i64 q.n),.d (.pl (AT.map eAtom)),.d (.pl OU)])),(4,some (.box [.d (.int .i64 0),.d (.int .i64 0)])),(6,some (.box [.own 901 0 i,.own 902 0 i,.d (.sl none none [])])),(901,some (.row 101 1 RA)),(902,some (.row 62 2 RB)),(32,some (.row 62 2 (((AT.take k).map fun a=>r01 (a.vars.contains v)).map eQ)))]) (fun k=>AT.length - k) 0 (by simp) (by simp) (by simp) ?_
  intro k hs2 t2 m2 hk hh2
  by_cases hkn : k < AT.length
  ·have hwk:=wr1 (i:=k) (by omega)
   have hL3 : LenOk 16 (k + 1):=⟨by omega,by simp only [maxLen]; omega⟩
   obtain ⟨a,ha⟩ : ∃ a,a = AT[k]:=⟨_,rfl⟩
   obtain ⟨U,hU⟩ : ∃ U,U = ((AT.take k).map fun a=>r01 (a.vars.contains v)).map eQ:=⟨_,rfl⟩
   have hUl : U.length = k:=by rw [hU]; simp; omega
   have s5 : List.take (k + 1) (List.map (eQ ∘ fun a=>r01 (decide (v ∈ a.vars))) AT) = U ++ [[.int .i64 (if v ∈ a.vars then 1 else 0),.int .i64 1]]:=by
    rw [Jz (by simpa using hkn)]
    simp [-eQ_def,hU,<- ha,r01_eQ,List.contains_eq_mem]
   have hcon:=w_spec_ContainsVariable a v
   have hae : (eAtom a).map V.d = [V.d (.str a.rel),V.d (.pl (a.vars.map cI))]:=by simp [eAtom,cStr]
   rw [hae] at hcon
   rw [<- hU]
   refine anyQ fun Z=>?_
   simp [hkn,hlt,<- hv,<- ha,eAtom,cStr]
   refine call_f hcon (by simp) rfl fun hs3 hh3=>?_
   try simp at hh3
   by_cases hvm : v ∈ a.vars
   ·rw [if_pos hvm] at s5
    simp [hvm,hUl,hL3,hwk]
    exact back (k + 1) (by omega) (by omega) rfl (by simp <;> omega) (by simp) (by simp [s5])
   ·rw [if_neg hvm] at s5
    simp [hvm,hUl,hL3,hwk]
    exact back (k + 1) (by omega) (by omega) rfl (by simp <;> omega) (by simp) (by simp [s5])
  ·have hkn2 : k = AT.length:=by omega
   have hRWv : ((AT.take k).map fun a=>r01 (a.vars.contains v)) = RW v:=by rw [hRW,hkn2,Jj (Jv _)]
   rw [hRWv]
   have hRWl : (RW v).length = k:=by rw [hRW,hkn2]; simp
   have htk : ((RW v).map eQ).take k = (RW v).map eQ:=Jj (by simp; omega)
   simp [hkn2,hRAl,hRBl,hL1,hL2,hwi]
   exact back2 (i + 1) (by omega) (by omega) rfl (by simp <;> omega) (by simp) (by simp [s1,s2,<- hkn2,htk])
 ·have hin : i = bag.length:=by omega
  subst hin
  rw [Jj (Jv _)]
  simp
  refine loop_ruleL (X:=Nat) (fun k _=>k <= AT.length) (fun k=>[(2,.ptr 2 0 0),(4,.ptr 4 0 0),(6,.ptr 6 0 0),(11,.d (.int .i64 k))])
   (fun k=>[(2,some (.box [.d (.int .i64 q.n),.d (.pl (AT.map eAtom)),.d (.pl OU)])),(4,some (.box [.d (.int .i64 0),.d (.int .i64 0)])),(6,some (.box [.own 901 0 bag.length,.own 902 0 bag.length,.own 904 0 k])),(901,some (.row 101 1 ((bag.map RW).map (cP eQ)))),(902,some (.row 62 2 ((List.replicate bag.length (1 : Xw)).map eQ))),(904,some (.row 62 2 ((List.replicate k (1 : Xw)).map eQ)))]) (fun k=>AT.length - k) ?_ ?_
  ·refine (lead_box 6 2 904 62 2 [.own 901 0 bag.length,.own 902 0 bag.length,.d (.sl none none [])] (by omega) (by omega) (by omega) (by simp) rfl).bind ?_
   rintro _ rfl
   exact Lead.of ⟨0,by omega,rfl,rfl,Jv _,by simp,by simp⟩
  intro k hs2 t2 m2 hk hh2
  by_cases hkn : k < AT.length
  ·have hwk:=wr1 (i:=k) (by omega)
   have hL3 : LenOk 16 (k + 1):=⟨by omega,by simp only [maxLen]; omega⟩
   obtain ⟨U,hU⟩ : ∃ U,U = (List.replicate k (1 : Xw)).map eQ:=⟨_,rfl⟩
   have hUl : U.length = k:=by rw [hU]; simp
   have s5 : List.replicate (k + 1) [D.int .i64 1,D.int .i64 1] = U ++ [[D.int .i64 1,D.int .i64 1]]:=by rw [hU,List.replicate_succ']; simp
   rw [<- hU]
   refine anyQ2 fun Z=>?_
   simp [hkn,hUl,hL3,hwk]
   exact back2 (k + 1) (by omega) (by omega) rfl (by simp <;> omega) (by simp) (by simp [s5])
  ·have hkn2 : k = AT.length:=by omega
   subst hkn2
   simp
   refine call_p hmin (by simp [Jj]) fun hs3 hh3 _=>?_
   try simp at hh3
   simp
end
section
attribute [local simp] plI_id plStr_id map_plI map_plStr pS cP cI cW dSl
theorem er_atomsW (l : List Atom) : erLL (l.map cAtom) = (l.map plAtom).map eAtom:=erLL_map er_cAtom l
theorem er_rowsW (l : List Ints) : erLL (l.map (cS cI)) = (l.map (plS plI)).map (cP cI):=erLL_map (er_cS er_cI) l
theorem er_intsW (l : List Int) : erLL (l.map cI) = (l.map plI).map cI:=erLL_map er_cI l
theorem er_tabsW (l : List Tab) : erLL (l.map cTab) = (l.map plTab).map eTab:=erLL_map er_cTab l
theorem rp_qryW (m : Nat -> Option Blk) (v : Query) : rp m (.agg ((cQuery v).map V.d)) = some (.agg ((eQuery (plQuery v)).map V.d)):=by
 simp [cQuery,cS,eQuery,plQuery,plS,er_atomsW,er_intsW,rp,rpL]
theorem rp_decW (m : Nat -> Option Blk) (v : Dec) : rp m (.agg ((cDec v).map V.d)) = some (.agg ((eDec (plDec v)).map V.d)):=by
 simp [cDec,cS,eDec,plDec,plS,er_rowsW,er_intsW,rp,rpL]
theorem rp_dbW (m : Nat -> Option Blk) (v : Db) : rp m (.agg ((cDb v).map V.d)) = some (.agg ((eDb (plDb v)).map V.d)):=by
 simp [cDb,cS,eDb,plDb,plS,er_tabsW,rp,rpL]
theorem rp_vrelW (m : Nat -> Option Blk) (v : VRel) : rp m (.agg ((cVRel v).map V.d)) = some (.agg ((eVRel (plVRel v)).map V.d)):=by
 simp [cVRel,cReln,cS,eVRel,eReln,plVRel,plReln,plS,er_rowsW,er_intsW,rp,rpL]
theorem rp_intsW (m : Nat -> Option Blk) (v : Ints) : rp m (.d (dSl cI v)) = some (.d (pS cI (plS plI v))):=by
 simp [plS,er_intsW,rp,D.er]
theorem rpL_consW {m : Nat -> Option Blk} {v v' : V} {l l' : List V} (h : rp m v = some v') (h' : rpL m l = some l') : rpL m (v :: l) = some (v' :: l'):=by simp only [rpL,h,h']
theorem xQueryW (q : Query) : (cQuery q).map V.d = [.d (.int .i64 q.n),.d (.sl q.atoms.id q.atoms.T (q.atoms.xs.map cAtom)),.d (.sl q.out.id q.out.T (q.out.xs.map cI))]:=by simp [cQuery,cS]
theorem xDecW (d : Dec) : (cDec d).map V.d = [.d (.sl d.bags.id d.bags.T (d.bags.xs.map (cS cI))),.d (.sl d.par.id d.par.T (d.par.xs.map cI))]:=by simp [cDec,cS]
theorem xDbW (d : Db) : (cDb d).map V.d = [.d (.sl d.tabs.id d.tabs.T (d.tabs.xs.map cTab))]:=by simp [cDb,cS]
theorem xVRelW (v : VRel) : (cVRel v).map V.d = [.d (.sl v.vars.id v.vars.T (v.vars.xs.map cI)),.d (.int .i64 v.rel.ar),.d (.sl v.rel.rows.id v.rel.rows.T (v.rel.rows.xs.map (cS cI)))]:=by simp [cVRel,cReln,cS]
theorem yVRelW (v : PVRel) : (eVRel v).map V.d = [.d (.pl (v.vars.map cI)),.d (.int .i64 v.rel.ar),.d (.pl (v.rel.rows.map (cP cI)))]:=by simp [eVRel,eReln]
theorem w_laws_big (b : Sl Int) : VC Tryz.prog 5 [.d (dSl cW b)] (fun _ r=>r = .d (.bool (decide (1048576 < (b.xs.length : Int))))):=by
 refine VC.of E sZ Tryz.func5 fun B=>?_
 simp [Tryz.f5]
theorem bag_tail {n : Int} {l : List Int} (hn : 1 <= n /\ n <= 5) (h : bagI n l = true) (h1 : 1 < l.length) : bagI n (l.drop 1) = true /\ ∀ v ∈ l.drop 1,v ∈ l:=by
 obtain ⟨pw,rng⟩:=bag_rng hn h
 have hm : ∀ v ∈ l.drop 1,v ∈ l:=fun v hv=>List.mem_of_mem_drop hv
 refine ⟨?_,hm⟩
 rw [bag_eq,bagS,Jq,Xj]
 refine ⟨?_,by simp; omega⟩
 simp only [Jk,Zg,bagAt,Jq]
 intro i hi
 have hpw : (l.drop 1).Pairwise (· < ·):=pw.sublist (List.drop_sublist 1 l)
 refine ⟨?_,?_⟩
 ·rw [getD_el _ hi]
  have:=rng _ (hm _ (Jy hi))
  rw [wrap64_of (by omega) (by omega)]
  simp only [inR,Jq,Xj]
  omega
 ·simp only [ascAt,Xx,Xj]
  rcases Nat.eq_zero_or_pos i with h0 | h0
  ·exact .inl h0
  ·right
   rw [getD_el _ hi,getD_el _ (show i - 1 < (l.drop 1).length by omega)]
   exact List.pairwise_iff_getElem.1 hpw (i - 1) i (by omega) hi (by omega)
theorem tail_wid {q : PQuery} {l : List Int} (hq : queryOk q = true) (hb : bagI q.n l = true) (h1 : 1 < l.length) : bagI q.n (l.drop 1) = true /\ smQ (widQ q.atoms (l.drop 1)) /\ smQ (widQ q.atoms l) /\ cmpQ (widQ q.atoms (l.drop 1)) (widQ q.atoms l) <= 0:=by
 obtain ⟨t1,t2⟩:=bag_tail (queryOk_n5 hq) hb h1
 refine ⟨t1,(wid_sm hq t1).1,(wid_sm hq hb).1,?_⟩
 have hle:=wid_mono (atoms:=q.atoms) (bag:=l) (bag':=l.drop 1) (bag_facts hq hb).2.2.2.2 t2
 have:=mt cmpQ_gt.1 (_root_.Rat.not_lt.2 hle); omega
theorem bc_none {q : PQuery} {l : List Int} (h : (queryOk q && bagI q.n l) = false) : bcwV q l = .tup [.agg [.d (.int .i64 0),.d (.int .i64 0)],.d (.bool false)]:=by rw [bcwV,h]; rfl
theorem bc_some {q : PQuery} {l : List Int} (h : (queryOk q && bagI q.n l) = true) : bcwV q l = .tup [.agg [.d (.int .i64 (widQ q.atoms l).num),.d (.int .i64 ((widQ q.atoms l).den : Int))],.d (.bool true)]:=by rw [bcwV,h]; rfl
theorem w_laws_FnBagWidth (b : Sl Int) : VC Tryz.prog 4 [.d (dSl cW b)] (fun _ r=>r = .d (.bool true)):=by
 refine VC.of E s4 Tryz.func4 fun B=>?_
 simp [Tryz.f4]
 refine call_pure (w_laws_big b) rfl (by simp) rfl fun hz zz=>?_
 simp at zz
 by_cases hb : (1048576 : Int) < b.xs.length
 ·simp [hb]
 simp [hb]
 refine call_some (w_spec_DrawBagRelation b (by omega)) rfl (by simp) fun n1 hs1 r1 hn1 hm1 hp1 hr1=>?_
 obtain ⟨d,q,o,rfl,kd,kq,ko⟩:=hp1.ex
 have hI:=t_impl_BagRelation d q o
 have hS:=w_spec_BagRelation (plDb d) (plQuery q) (plS plI o) (okDb_strs kd) (okQuery_strs kq)
 have rB : ∀ m,rpL m [.agg ((cDb d).map V.d),.agg ((cQuery q).map V.d),.d (dSl cI o)] = some [.agg ((eDb (plDb d)).map V.d),.agg ((eQuery (plQuery q)).map V.d),.d (pS cI (plS plI o))]:=fun m=>rpL_consW (rp_dbW m d) (rpL_consW (rp_qryW m q) (rpL_consW (rp_intsW m o) rfl))
 obtain ⟨X,hX⟩ : ∃ X,X = brO (plDb d) (plQuery q) (plS plI o):=⟨_,rfl⟩
 have hok : ∀ v,X = some v -> vrOk v = true:=fun v h=>br_ok (hX ▸ h)
 obtain ⟨PY,hPY⟩ : ∃ PY,PY = ovR X:=⟨_,rfl⟩
 rw [<- hX,<- hPY] at hI hS
 simp only [xQueryW,xDbW] at rB
 simp [xQueryW,xDbW]
 refine call_some hI (by simp [xQueryW,xDbW]) (by simp [xQueryW,xDbW]) fun n2 hs2 r2 hn2 hm2 hp2 hr2=>?_
 obtain ⟨y,rfl,py,ky,_⟩:=hp2
 simp [xQueryW,xDbW,xVRelW]
 refine call_p hS (rB _) fun hs3 hh3 hl3=>?_
 simp at hh3
 simp [xQueryW,xDbW,xVRelW,yVRelW]
 refine call_some (w_spec_DrawBagCoverWidth b (by omega)) rfl (by simp) fun n4 hs4 r4 hn4 hm4 hp4 hr4=>?_
 obtain ⟨p,l,rfl,kp,kl⟩:=hp4.ex
 have rL : ∀ m,rpL m [.agg ((cQuery p).map V.d),.d (dSl cI l)] = some [.agg ((eQuery (plQuery p)).map V.d),.d (pS cI (plS plI l))]:=fun m=>rpL_consW (rp_qryW m p) (rpL_consW (rp_intsW m l) rfl)
 have rT : ∀ m id T (L : List Int),rpL m [.agg ((cQuery p).map V.d),.d (.sl id T (L.map cI))] = some [.agg ((eQuery (plQuery p)).map V.d),.d (pS cI L)]:=fun m id T L=>rpL_consW (rp_qryW m p) (by simp [rpL,rp,D.er,er_intsW])
 have hW1:=w_impl_BagCoverWidth (plQuery p) (plS plI l)
 have hW2:=w_spec_BagCoverWidth (plQuery p) (plS plI l) (okQuery_strs kp)
 obtain ⟨TL,hTL⟩ : ∃ TL,TL = (plS plI l).drop 1:=⟨_,rfl⟩
 have hW3:=w_impl_BagCoverWidth (plQuery p) TL
 have hll : (plS plI l) = l.xs:=by simp [plS]
 obtain ⟨P0,hP0⟩ : ∃ P0,P0 = plQuery p:=⟨_,rfl⟩
 obtain ⟨L0,hL0⟩ : ∃ L0,L0 = plS plI l:=⟨_,rfl⟩
 rw [<- hL0] at hW1 hW2 hTL hll rL
 rw [<- hP0] at hW1 hW2 hW3 rL rT
 simp only [xQueryW] at rL rT
 simp [xQueryW,xDbW,xVRelW,yVRelW]
 have hkk : ∃ (x y : Int) (k : Bool),bcwV P0 L0 = .tup [.agg [.d (.int .i64 x),.d (.int .i64 y)],.d (.bool k)] /\ k = (queryOk P0 && bagI P0.n L0) /\ (k = true -> x = (widQ P0.atoms L0).num /\ y = ((widQ P0.atoms L0).den : Int)):=by
  cases hc : queryOk P0 && bagI P0.n L0 with
  | false=>exact ⟨0,0,false,bc_none hc,rfl,fun h=>by cases h⟩
  | true=>exact ⟨_,_,true,bc_some hc,rfl,fun _=>⟨rfl,rfl⟩⟩
 obtain ⟨wx,wy,k,hxy,hk,hk2⟩:=hkk
 rw [hxy] at hW1 hW2
 refine call_f hW1 (rL _) (by simp) fun hs5 hh5=>?_
 simp [xQueryW,xDbW,xVRelW,yVRelW]
 refine call_f hW2 (rL _) (by simp) fun hs6 hh6=>?_
 simp [xQueryW,xDbW,xVRelW,yVRelW]
 refine call_some (w_spec_DrawIsValidDecomposition b (by omega)) rfl (by simp) fun n7 hs7 r7 hn7 hm7 hp7 hr7=>?_
 obtain ⟨z,w,rfl,kz,h5⟩:=hp7.ex
 have rZ : ∀ m,rpL m [.agg ((cQuery z).map V.d),.agg ((cDec w).map V.d)] = some [.agg ((eQuery (plQuery z)).map V.d),.agg ((eDec (plDec w)).map V.d)]:=fun m=>rpL_consW (rp_qryW m z) (rpL_consW (rp_decW m w) rfl)
 have rE : ∀ m,rpL m [.agg ((cVRel y).map V.d),.agg ((eVRel PY).map V.d)] = some [.agg ((eVRel PY).map V.d),.agg ((eVRel PY).map V.d)]:=fun m=>rpL_consW (py ▸ rp_vrelW m y) (by simp [rpL,rp,yVRelW,D.er])
 have rY : ∀ m,rpL m [.agg ((cVRel y).map V.d)] = some [.agg ((eVRel PY).map V.d)]:=fun m=>rpL_consW (py ▸ rp_vrelW m y) rfl
 have hw5 : (plDec w).par.length <= 4294967296:=by simp [plDec,plS]; omega
 have hV1:=w_impl_IsValidDecomposition (plQuery z) (plDec w) hw5
 have hV2:=w_spec_IsValidDecomposition (plQuery z) (plDec w) (okQuery_strs kz) hw5
 have hE:=w_spec_EqualVarRelations PY PY
 have hR:=w_impl_IsValidVarRelation PY
 simp only [xQueryW,xDecW] at rZ
 simp only [xVRelW,yVRelW] at rE rY
 obtain ⟨dk,hdk⟩ : ∃ dk,dk = decOk (plQuery z) (plDec w):=⟨_,rfl⟩
 rw [<- hdk] at hV1 hV2
 obtain ⟨isX,hisX⟩ : ∃ k,k = X.isSome:=⟨_,rfl⟩
 have hvr : isX = true -> vrOk PY = true:=fun h=>by
  rw [hisX] at h
  obtain ⟨v,hv⟩:=Zx.1 h
  rw [hPY,hv]; exact hok v hv
 rw [<- hisX]
 by_cases hbr : k = true /\ 1 < l.xs.length
 case' pos=>
  obtain ⟨rfl,hl1⟩:=hbr
  simp [-w_condT,hl1,show (1 : Int) < l.xs.length by omega,xQueryW,xDbW,xDecW,xVRelW,yVRelW]
  refine forgetG [(6,.ptr 6 0 0),(7,.d (.bool isX)),(8,.ptr 8 0 0),(9,.d (.bool isX)),(10,.ptr 10 0 0),(11,.d (.sl l.id l.T (l.xs.map cI))),(12,.ptr 12 0 0),(13,.d (.bool true)),(14,.ptr 14 0 0),(15,.d (.bool true)),(16,.ptr 16 0 0),(17,.ptr 17 0 0),(69,.d (.bool true))]
   [(6,some (.box ((cVRel y).map V.d))),(8,some (.box ((eVRel PY).map V.d))),(10,some (.box ((cQuery p).map V.d))),(12,some (.box [.d (.int .i64 wx),.d (.int .i64 wy)])),(14,some (.box [.d (.int .i64 wx),.d (.int .i64 wy)])),(16,some (.box ((cQuery z).map V.d))),(17,some (.box ((cDec w).map V.d)))] (by simp) (by simp [xQueryW,xDecW,xVRelW,yVRelW]) fun t m=>?_
  rw [w_condT _ _ _ rfl]
  refine ⟨by simp,fun _=>?_,fun h=>absurd h (by simp)⟩
  have hq0 : queryOk P0 = true /\ bagI P0.n L0 = true:=by simpa using hk.symm
  obtain ⟨t1,t2,t3,t4⟩:=tail_wid hq0.1 hq0.2 (by rw [hll]; exact hl1)
  rw [<- hTL] at t1 t2 t4
  obtain ⟨rfl,rfl⟩:=hk2 rfl
  have hC:=w_impl_CompareRationals _ _ t2 t3
  rw [bc_some (by rw [hq0.1,t1]; rfl)] at hW3
  have ht : List.take (l.xs.length - 1) (List.map cI l.xs).tail = TL.map cI:=by rw [hTL,hll,<- List.drop_one,List.map_drop,Jj (by simp)]
  have hcg : ¬ 0 < cmpQ (widQ P0.atoms TL) (widQ P0.atoms L0):=by omega
  simp [xQueryW,xDecW,xVRelW,yVRelW,ht]
  refine ⟨by omega,?_⟩
  repeat' apply And.intro
  all_goals
   refine call_f hW3 (rT _ _ _ _) (by simp) fun hs8 hh8=>?_
   simp [xQueryW,xDecW,xVRelW,yVRelW]
   refine call_f hC (by simp) rfl fun hs9 hh9=>?_
   simp [-w_condT,hcg,xQueryW,xDecW,xVRelW,yVRelW]
   rw [w_condT _ _ _ rfl]
   refine ⟨by simp,fun h=>absurd h (by simp),fun _=>?_⟩
 case' neg=>
  have hb3 : k = false \/ (k = true /\ ¬ 1 < l.xs.length):=by
   cases k
   ·exact .inl rfl
   ·exact .inr ⟨rfl,fun h=>hbr ⟨rfl,h⟩⟩
  rcases hb3 with hk0 | ⟨hk0,hl3⟩
  all_goals
   first
   | simp [-w_condT,hk0,hl3,show ¬ (1 : Int) < l.xs.length by omega,xQueryW,xDbW,xDecW,xVRelW,yVRelW]
   | simp [-w_condT,hk0,xQueryW,xDbW,xDecW,xVRelW,yVRelW]
   refine forgetG [(6,.ptr 6 0 0),(7,.d (.bool isX)),(8,.ptr 8 0 0),(9,.d (.bool isX)),(10,.ptr 10 0 0),(11,.d (.sl l.id l.T (l.xs.map cI))),(12,.ptr 12 0 0),(13,.d (.bool k)),(14,.ptr 14 0 0),(15,.d (.bool k)),(16,.ptr 16 0 0),(17,.ptr 17 0 0),(69,.d (.bool false))]
    [(6,some (.box ((cVRel y).map V.d))),(8,some (.box ((eVRel PY).map V.d))),(10,some (.box ((cQuery p).map V.d))),(12,some (.box [.d (.int .i64 wx),.d (.int .i64 wy)])),(14,some (.box [.d (.int .i64 wx),.d (.int .i64 wy)])),(16,some (.box ((cQuery z).map V.d))),(17,some (.box ((cDec w).map V.d)))] (by simp [hk0]) (by simp [xQueryW,xDecW,xVRelW,yVRelW]) fun t m=>?_
   rw [w_condT _ _ _ rfl]
   refine ⟨by simp,fun h=>absurd h (by simp),fun _=>?_⟩
 all_goals
  cases isX
 all_goals
  simp [xQueryW,xDecW,xVRelW,yVRelW]
  first
  | refine call_f hE (rE _) rfl fun hsa hha => ?_
    simp [xQueryW,xDecW,xVRelW,yVRelW]
    refine call_f hV1 (rZ _) rfl fun hsb hhb=>?_
    simp [xQueryW,xDecW,xVRelW,yVRelW]
    refine call_f hV2 (rZ _) rfl fun hsc hhc=>?_
    simp [xQueryW,xDecW,xVRelW,yVRelW]
    refine call_f hR (rY _) rfl fun hsd hhd=>?_
    simp [hvr rfl]
  | refine call_f hV1 (rZ _) rfl fun hsb hhb => ?_
    simp [xQueryW,xDecW,xVRelW,yVRelW]
    refine call_f hV2 (rZ _) rfl fun hsc hhc=>?_
    simp [xQueryW,xDecW,xVRelW,yVRelW]
end
end Go.Proofs.YtgjfmjiildjelaaGreatDoor
