/-
  EV1B2: a part of a proof of this seat: the value-level semantics of Go code without maps, its walk rules, the frame of a row, facts of types, schedules, walks, plain lemmas (D1 D2 D3 W1 W2 W3 W4 EA EB EC ED EE QA QC QB QD QE QF QG QH QI QJ QK QL). It holds of every program and state that its hypotheses name.
-/
import Derived.Test.YtglilmkmkdkedaaGreatDoorEV1B1
set_option linter.unusedSimpArgs false
set_option linter.unusedVariables false
set_option linter.unnecessarySimpa false
namespace Go.Proofs.YtglilmkmkdkedaaGreatDoor
open Go.Vs Go.Proofs Go
set_option maxRecDepth 100000
set_option maxHeartbeats 1000000
section
attribute [local simp] plI_id plStr_id map_plI map_plStr pS cP cI cStr cU8 cB
theorem w_impl_IsStrictlyAscending (b : List Int) : VC Tryz.prog 132 [.d (pS cI b)] (fun _ r=>r = .d (.bool (ascB b))):=by
 refine VC.ofL EP s132 (by kernel_rfl) Tryz.func132 (by rfl) (by kernel_rfl) (by simp [Tryz.f132]) (by simp [Tryz.f132]) s132_ok fun B hl=>?_
 simp [pS,maxLen] at hl
 simp [Tryz.f132,s132_4,s132_4,]
 refine loop_rule (X:=Nat) (AscI b) (fun i=>[(0,.d (.pl (b.map cI))),(3,.d (.int .i64 i))]) (fun _=>[]) (fun i=>b.length + 1 - i) 1 .one (by simp) (by simp) ?_
 intro i hs t m hi hh
 have hle:=hi.le
 by_cases hlt : i < b.length
 ·have hwi:=wr1 (i:=i) (by omega)
  have hw : IntKind.i64.wrap ((i : Int) - 1) = ((i - 1 : Nat) : Int):=by rw [wrap64_of (by omega) (by omega)]; omega
  have hl1 : i - 1 < b.length:=by omega
  by_cases he : b[i - 1] < b[i]
  ·simp [hlt,hw,hl1,he,show ¬ b[i] <= b[i - 1] by omega,hwi,s132_4,]
   exact back (i + 1) (hi.step hlt he) (by omega) rfl (by simp <;> omega) (by simp) (by simp)
  ·simp [hlt,hw,hl1,show b[i] <= b[i - 1] by omega,asc_bad hle.1 hlt he,s132_4,]
 ·simp [hlt,hi.done (by omega)]
theorem w_impl_isBag (q : PQuery) (b : List Int) : VC Tryz.prog 95 [.agg ((eQuery q).map V.d),.d (pS cI b)] (fun _ r=>r = .d (.bool (bagI q.n b))):=by
 refine VC.ofL EP s95 (by kernel_rfl) Tryz.func95 (by rfl) (by kernel_rfl) (by simp [Tryz.f95]) (by simp [Tryz.f95]) s95_ok fun B hl=>?_
 by_cases h0 : b.length = 0
 ·have : b = []:=List.length_eq_zero_iff.1 h0
  subst this
  simp [Tryz.f95,eQuery,bagI]
 have h1 : 0 < b.length:=by omega
 simp [Tryz.f95,eQuery,h1]
 refine call_f (w_impl_IsStrictlyAscending b) (by simp) rfl fun hs1 hh1=>?_
 simp at hh1
 cases h2 : ascB b
 ·simp [bagI,h2]
 simp []
 refine call_f (w_impl_isSetOf b q.n) (by simp) rfl fun hs2 hh2=>?_
 simp [bagI,h1,h2]
theorem w_impl_common (l b : List Int) (hb : l.length <= 4294967296) : VC Tryz.prog 53 [.d (pS cI l),.d (pS cI b)] (fun _ r=>r = .d (pS cI (commL l b))):=by
 refine VC.ofL EP s53 (by kernel_rfl) Tryz.func53 (by rfl) (by kernel_rfl) (by simp [Tryz.f53]) (by simp [Tryz.f53]) s53_ok fun B hl=>?_
 simp [Tryz.f53,]
 refine loop_ruleL (X:=Nat) (fun i _=>i <= l.length) (fun i=>[(1,.d (.pl (b.map cI))),(5,.own 20 0 (commL (l.take i) b).length),(8,.d (.pl (l.map cI))),(9,.d (.int .i64 l.length)),(10,.d (.int .i64 i))]) (fun i=>[(20,some (.row 3 1 ((commL (l.take i) b).map cI)))]) (fun i=>l.length - i) ?_ ?_
 ·refine (lead_slot 5 20 3 1 (by omega) (by omega) (by simp)).bind ?_
  rintro _ rfl
  exact Lead.of ⟨0,by omega,rfl,rfl,Nat.le_refl _,by simp [commL],by simp [commL]⟩
 intro i hs t m hi hh
 by_cases hlt : i < l.length
 ·have hwi:=wr1 (i:=i) (by omega)
  have hst:=comm_step (b:=b) hlt
  have hcl:=List.length_filter_le (fun v=>b.contains v) (l.take i)
  rw [List.length_take] at hcl
  have hL : LenOk 8 ((commL (l.take i) b).length + 1):=⟨by simp only [commL]; omega,by simp only [maxLen,commL]; omega⟩
  simp [hlt,]
  refine call_f (w_impl_hasInt b l[i]) (by simp) rfl fun hs1 hh1=>?_
  simp at hh1
  by_cases h1 : l[i] ∈ b
  ·have e : b.contains l[i] = true:=by simpa using h1
   rw [e] at hst
   simp only [if_true] at hst
   simp [h1,hwi,hL,]
   exact back2 (i + 1) (by omega) (by omega) rfl (by simp <;> omega) (by simp [hst]) (by simp [hst])
  ·have e : b.contains l[i] = false:=by simpa using h1
   rw [e] at hst
   simp only [Bool.false_eq_true,if_false,List.append_nil] at hst
   simp [h1,hwi,]
   exact back2 (i + 1) (by omega) (by omega) rfl (by simp <;> omega) (by simp [hst]) (by simp [hst])
 ·have hn : i = l.length:=by omega
  subst hn
  simp [List.take_of_length_le]
theorem w_impl_AtomVariables (a : PAtom) : VC Tryz.prog 54 [.agg ((eAtom a).map V.d)] (fun _ r=>r = .d (pS cI (avars a))):=by
 refine VC.ofL EP s54 (by kernel_rfl) Tryz.func54 (by rfl) (by kernel_rfl) (by simp [Tryz.f54]) (by simp [Tryz.f54]) s54_ok fun B hl=>?_
 simp [Tryz.f54,eAtom]
 refine loop_ruleL (X:=Nat) (fun i _=>i <= 5) (fun i=>[(1,.ptr 1 0 0),(3,.own 15 0 (avTo a i).length),(4,.d (.int .i64 i))]) (fun i=>[(1,some (.box [.d (.str a.rel),.d (.pl (a.vars.map cI))])),(15,some (.row 3 1 ((avTo a i).map cI)))]) (fun i=>5 - i) ?_ ?_
 ·refine (lead_slot 3 15 3 1 (by omega) (by omega) (by simp)).bind ?_
  rintro _ rfl
  exact Lead.of ⟨0,by omega,rfl,rfl,Nat.le_refl _,by simp [avTo,rangeI_zero],by simp [avTo,rangeI_zero]⟩
 intro i hs t m hi hh
 by_cases hlt : i < 5
 ·have hwi:=wr1 (i:=i) (by omega)
  have hst:=avTo_step a i
  have hal:=avTo_len a i
  have hL : LenOk 8 ((avTo a i).length + 1):=⟨by omega,by simp only [maxLen]; omega⟩
  have hlt' : (i : Int) < 5:=by omega
  simp [hlt',]
  refine call_f (w_impl_ContainsVariable a i) (by simp [eAtom]) rfl fun hs1 hh1=>?_
  simp at hh1
  by_cases h1 : (i : Int) ∈ a.vars
  ·have e : a.vars.contains (i : Int) = true:=by simpa using h1
   rw [e] at hst
   simp only [if_true] at hst
   simp [h1,hwi,hL,]
   exact back2 (i + 1) (by omega) (by omega) rfl (by simp <;> omega) (by simp [hst]) (by simp [hst])
  ·have e : a.vars.contains (i : Int) = false:=by simpa using h1
   rw [e] at hst
   simp only [Bool.false_eq_true,if_false,List.append_nil] at hst
   simp [h1,hwi,]
   exact back2 (i + 1) (by omega) (by omega) rfl (by simp <;> omega) (by simp [hst]) (by simp [hst])
 ·have hn : i = 5:=by omega
  subst hn
  have : avTo a 5 = avars a:=rfl
  simp [this,List.take_of_length_le,]
theorem w_spec_l30Within (a : PAtom) (b : List Int) : VC Tryz.prog 112 [.agg ((eAtom a).map V.d),.d (pS cI b)] (fun _ r=>r = .d (.bool (insD a b))):=by
 refine VC.ofL EP s112 (by kernel_rfl) Tryz.func112 (by rfl) (by kernel_rfl) (by simp [Tryz.f112]) (by simp [Tryz.f112]) s112_ok fun B hl=>?_
 obtain ⟨nm,l⟩:=a
 simp [pS,maxLen,eAtom] at hl
 simp [Tryz.f112,eAtom]
 refine loop_rule (X:=Nat) (InTo b ⟨nm,l⟩) (fun i=>[(1,.d (.pl (b.map cI))),(2,.ptr 2 0 0),(5,.d (.int .i64 i))]) (fun _=>[(2,some (.box [.d (.str nm),.d (.pl (l.map cI))]))]) (fun i=>l.length - i) 0 .zero (by simp) (by simp) ?_
 intro i hs t m hi hh
 have hle : i <= l.length:=hi.le
 by_cases hlt : i < l.length
 ·have hwi:=wr1 (i:=i) (by omega)
  have hge:=idxL_ge b l[i]
  simp [hlt,]
  refine call_f (w_spec_l7Find b l[i]) (by simp) rfl fun hs1 hh1=>?_
  simp at hh1
  by_cases h1 : l[i] ∈ b
  ·have h8 : ¬ idxL b l[i] < 0 := by have : 0 ≤ idxL b l[i] := by simpa [h1] using hge
                                     omega
   simp [h8,hwi,]
   exact back (i + 1) (hi.step hlt h1) (by omega) rfl (by simp <;> omega) (by simp) (by simp)
  ·have h8 : idxL b l[i] < 0 := by have : ¬ 0 ≤ idxL b l[i] := by simpa [h1] using hge
                                   omega
   have hb : insD ⟨nm,l⟩ b = false:=ins_bad (a:=⟨nm,l⟩) hlt h1
   simp [h8,hb]
 ·have hd : insD ⟨nm,l⟩ b = true:=hi.done (by show l.length <= i; omega)
  simp [hlt,hd]
theorem w_spec_l30Bag (q : PQuery) (b : List Int) : VC Tryz.prog 44 [.agg ((eQuery q).map V.d),.d (pS cI b)] (fun _ r=>r = .d (.bool (bagS q.n b))):=by
 refine VC.ofL EP s44 (by kernel_rfl) Tryz.func44 (by rfl) (by kernel_rfl) (by simp [Tryz.f44]) (by simp [Tryz.f44]) s44_ok fun B hl=>?_
 simp [pS,maxLen] at hl
 simp [Tryz.f44,s44_4,eQuery]
 refine loop_rule (X:=Nat) (BagI q.n b) (fun i=>[(1,.d (.pl (b.map cI))),(2,.ptr 2 0 0),(5,.d (.int .i64 i))]) (fun _=>[(2,some (.box [.d (.int .i64 q.n),.d (.pl (q.atoms.map eAtom)),.d (.pl (q.out.map cI))]))]) (fun i=>b.length - i) 0 .zero (by simp) (by simp) ?_
 intro i hs t m hi hh
 have hle:=hi.le
 by_cases hlt : i < b.length
 ·have hwi:=wr1 (i:=i) (by omega)
  simp [hlt,s44_4,]
  refine call_f (w_spec_l1In b[i] 0 (IntKind.i64.wrap (q.n - 1))) (by simp) rfl fun hs1 hh1=>?_
  simp at hh1
  cases h1 : inR b[i] 0 (IntKind.i64.wrap (q.n - 1))
  ·have hb : bagS q.n b = false:=bagS_bad hlt (by rw [bagAt,getD_el _ hlt,h1,Bool.false_and])
   simp [hb,s44_4,]
  by_cases h0 : i = 0
  ·subst h0
   have hwi0 : IntKind.i64.wrap 1 = 1:=by simpa using hwi
   have hok : bagAt q.n b 0 = true:=by rw [bagAt,getD_el _ hlt,h1,Bool.true_and]; simp [ascAt]
   simp [hwi0,s44_4,]
   exact back 1 (hi.step hlt hok) (by omega) rfl (by simp <;> omega) (by simp) (by simp)
  ·have h0' : 0 < i:=by omega
   have hw : IntKind.i64.wrap ((i : Int) - 1) = ((i - 1 : Nat) : Int):=by rw [wrap64_of (by omega) (by omega)]; omega
   have hl1 : i - 1 < b.length:=by omega
   have hat:=ascAt_eq (b:=b) (by omega) hlt
   by_cases he : b[i - 1] < b[i]
   ·have hok : bagAt q.n b i = true:=by rw [bagAt,getD_el _ hlt,h1,Bool.true_and,hat]; simpa using he
    simp [h0',hlt,hw,hl1,show ¬ b[i] <= b[i - 1] by omega,hwi,s44_4,]
    exact back (i + 1) (hi.step hlt hok) (by omega) rfl (by simp <;> omega) (by simp) (by simp)
   ·have hb : bagS q.n b = false:=bagS_bad hlt (by rw [bagAt,getD_el _ hlt,h1,Bool.true_and,hat]; simpa using he)
    simp [h0',hlt,hw,hl1,show b[i] <= b[i - 1] by omega,hb,s44_4,]
 ·have hd:=hi.done (by omega)
  simp [hlt,hd]
end
end Go.Proofs.YtglilmkmkdkedaaGreatDoor
namespace Go.Proofs.YtglilmkmkdkedaaGreatDoor
open Go.Vs Go.Proofs Go
set_option maxRecDepth 100000
set_option maxHeartbeats 1000000
section
attribute [local simp] plI_id plStr_id map_plI map_plStr pS cP cI cStr cU8 cB
theorem w_impl_isTree (ps : List Int) (hb : ps.length <= 4294967296) : VC Tryz.prog 113 [.d (pS cI ps)] (fun _ r=>r = .d (.bool (treeB ps))):=by
 refine VC.ofL EP s113 (by kernel_rfl) Tryz.func113 (by rfl) (by kernel_rfl) (by simp [Tryz.f113]) (by simp [Tryz.f113]) s113_ok fun B hl=>?_
 simp [pS,maxLen] at hl
 simp [Tryz.f113,]
 refine loop_rule (X:=Nat) (TreI ps) (fun i=>[(0,.d (.pl (ps.map cI))),(3,.d (.int .i64 (rootsTo ps i))),(8,.d (.pl (ps.map cI))),(9,.d (.int .i64 ps.length)),(10,.d (.int .i64 i))]) (fun _=>[]) (fun i=>ps.length - i) 0 .zero (by simp [rootsTo]) (by simp) ?_
 intro i hs t m hi hh
 have hle:=hi.le
 by_cases hlt : i < ps.length
 case neg=>
  have hd:=hi.done (by omega)
  simp [hlt,hd]
  omega
 have hwi:=wr1 (i:=i) (by omega)
 have hw1 : IntKind.i64.wrap ((ps.length : Int) - 1) = ps.length - 1:=wrap64_of (by omega) (by omega)
 have hbad : treeAt ps i = false -> treeB ps = false:=treeB_bad hlt
 have hri:=rootsTo_le ps i
 have hst:=rootsTo_step hlt
 have hwr : IntKind.i64.wrap ((rootsTo ps i : Int) + 1) = rootsTo ps i + 1:=wrap64_of (by omega) (by omega)
 simp [hlt,hw1,]
 refine call_f (w_impl_within ps[i] (-1) (ps.length - 1)) (by simp) rfl fun hs1 hh1=>?_
 simp at hh1
 cases h1 : inR ps[i] (-1) (ps.length - 1)
 ·have hb:=hbad (by rw [treeAt,nxP_at hlt,h1,Bool.false_and])
  simp [hb]
 have hend : treeAt ps i = endNeg (upI ps (ps.length + 1) i):=by rw [treeAt,nxP_at hlt,h1,Bool.true_and]
 obtain ⟨R,hR⟩ : ∃ R : Nat,R = rootsTo ps (i + 1):=⟨_,rfl⟩
 by_cases h2 : ps[i] < 0
 ·rw [if_pos h2] at hst
  simp [h2,hwr,]
  refine loop_rule (X:=Nat × Int) (UpT ps i) (fun p=>[(0,.d (.pl (ps.map cI))),(3,.d (.int .i64 R)),(6,.d (.int .i64 p.2)),(7,.d (.int .i64 p.1)),(8,.d (.pl (ps.map cI))),(9,.d (.int .i64 ps.length)),(10,.d (.int .i64 i))]) (fun _=>[]) (fun p=>ps.length + 1 - p.1) (0,(i : Int)) ⟨by simp,by simp only; omega,rfl⟩ (by simp [hR,hst]) (by simp) ?_
  rintro ⟨k,a⟩ hs t m hk hh
  have hkl:=hk.le
  have hka:=hk.at_
  simp only at hkl hka
  by_cases hc : k <= ps.length /\ 0 <= a
  ·obtain ⟨hc1,hc2⟩:=hc
   obtain ⟨A,rfl⟩ : ∃ A : Nat,a = (A : Int):=⟨a.toNat,by omega⟩
   have hA : A < ps.length:=by omega
   have hwk:=wr1 (i:=k) (by omega)
   cases h3 : inR ps[A] (-1) (ps.length - 1)
   ·have hb:=hbad (hk.bad hc1 hc2 (nxP_at hA) h3)
    simp [hc1,hA,hw1,]
    refine call_f (VC.to (w_impl_within ps[A] (-1) (ps.length - 1)) (show _ = V.d (.bool false) by rw [h3])) (by simp) rfl fun hs3 hh3=>?_
    simp [hb]
   ·refine anyQ fun Q=>?_
    simp [hc1,hA,hw1,]
    refine call_f (VC.to (w_impl_within ps[A] (-1) (ps.length - 1)) (show _ = V.d (.bool true) by rw [h3])) (by simp) rfl fun hs3 hh3=>?_
    simp at hh3
    simp [hwk,]
    exact back (k + 1,ps[A]) (hk.step hc1 hc2 (nxP_at hA) h3) (by simp only; omega) rfl (by simp <;> omega) (by simp) (by simp)
  have hfin:=hk.fin hc
  by_cases ha : a < 0
  ·have hok : treeAt ps i = true:=by rw [hend,hfin]; simpa using ha
   have ha' : ¬ 0 <= a:=by omega
   by_cases hk2 : k <= ps.length
   ·simp [hk2,ha,ha',hwi,]
    exact back (i + 1) (hi.step hlt hok) (by omega) rfl (by simp <;> omega) (by simp [hR]) (by simp)
   ·simp [hk2,ha,ha',hwi,]
    exact back (i + 1) (hi.step hlt hok) (by omega) rfl (by simp <;> omega) (by simp [hR]) (by simp)
  ·have hb:=hbad (by rw [hend,hfin]; simpa using ha)
   have hk2 : ¬ k <= ps.length:=fun h=>hc ⟨h,by omega⟩
   simp [hk2,show 0 <= a by omega,hb,]
 ·rw [if_neg h2] at hst
  simp [h2,]
  refine loop_rule (X:=Nat × Int) (UpT ps i) (fun p=>[(0,.d (.pl (ps.map cI))),(3,.d (.int .i64 R)),(6,.d (.int .i64 p.2)),(7,.d (.int .i64 p.1)),(8,.d (.pl (ps.map cI))),(9,.d (.int .i64 ps.length)),(10,.d (.int .i64 i))]) (fun _=>[]) (fun p=>ps.length + 1 - p.1) (0,(i : Int)) ⟨by simp,by simp only; omega,rfl⟩ (by simp [hR,hst]) (by simp) ?_
  rintro ⟨k,a⟩ hs t m hk hh
  have hkl:=hk.le
  have hka:=hk.at_
  simp only at hkl hka
  by_cases hc : k <= ps.length /\ 0 <= a
  ·obtain ⟨hc1,hc2⟩:=hc
   obtain ⟨A,rfl⟩ : ∃ A : Nat,a = (A : Int):=⟨a.toNat,by omega⟩
   have hA : A < ps.length:=by omega
   have hwk:=wr1 (i:=k) (by omega)
   cases h3 : inR ps[A] (-1) (ps.length - 1)
   ·have hb:=hbad (hk.bad hc1 hc2 (nxP_at hA) h3)
    simp [hc1,hA,hw1,]
    refine call_f (VC.to (w_impl_within ps[A] (-1) (ps.length - 1)) (show _ = V.d (.bool false) by rw [h3])) (by simp) rfl fun hs3 hh3=>?_
    simp [hb]
   ·refine anyQ fun Q=>?_
    simp [hc1,hA,hw1,]
    refine call_f (VC.to (w_impl_within ps[A] (-1) (ps.length - 1)) (show _ = V.d (.bool true) by rw [h3])) (by simp) rfl fun hs3 hh3=>?_
    simp at hh3
    simp [hwk,]
    exact back (k + 1,ps[A]) (hk.step hc1 hc2 (nxP_at hA) h3) (by simp only; omega) rfl (by simp <;> omega) (by simp) (by simp)
  have hfin:=hk.fin hc
  by_cases ha : a < 0
  ·have hok : treeAt ps i = true:=by rw [hend,hfin]; simpa using ha
   have ha' : ¬ 0 <= a:=by omega
   by_cases hk2 : k <= ps.length
   ·simp [hk2,ha,ha',hwi,]
    exact back (i + 1) (hi.step hlt hok) (by omega) rfl (by simp <;> omega) (by simp [hR]) (by simp)
   ·simp [hk2,ha,ha',hwi,]
    exact back (i + 1) (hi.step hlt hok) (by omega) rfl (by simp <;> omega) (by simp [hR]) (by simp)
  ·have hb:=hbad (by rw [hend,hfin]; simpa using ha)
   have hk2 : ¬ k <= ps.length:=fun h=>hc ⟨h,by omega⟩
   simp [hk2,show 0 <= a by omega,hb,]
theorem w_spec_JoinTreeRoot (ps : List Int) : VC Tryz.prog 70 [.agg [.d (pS cI ps)]] (fun _ r=>r = .d (.int .i64 (rootS ps))):=by
 refine VC.ofL EP s70 (by kernel_rfl) Tryz.func70 (by rfl) (by kernel_rfl) (by simp [Tryz.f70]) (by simp [Tryz.f70]) s70_ok fun B hl=>?_
 simp [pS,maxLen] at hl
 simp [Tryz.f70,]
 refine loop_rule (X:=Nat × Int) (RootI ps) (fun p=>[(1,.ptr 1 0 0),(3,.d (.int .i64 p.2)),(4,.d (.int .i64 p.1))]) (fun _=>[(1,some (.box [.d (.pl (ps.map cI))]))]) (fun p=>ps.length - p.1) (0,-1) .zero (by simp) (by simp) ?_
 rintro ⟨i,o⟩ hs t m hI hh
 have hle:=hI.le
 simp only at hle
 by_cases hlt : i < ps.length
 ·have hwi:=wr1 (i:=i) (by omega)
  by_cases h1 : ps[i] = -1
  ·by_cases h2 : 0 <= o
   ·simp [hlt,h1,h2,hI.two h2 hlt h1,]
   ·simp [hlt,h1,h2,hwi,]
    exact back (i + 1,(i : Int)) (hI.put (by omega) hlt h1) (by simp only; omega) rfl (by simp <;> omega) (by simp) (by simp)
  ·simp [hlt,h1,hwi,]
   exact back (i + 1,o) (hI.skip hlt h1) (by simp only; omega) rfl (by simp <;> omega) (by simp) (by simp)
 ·simp [hlt,hI.done (by omega)]
theorem w_spec_l10Path (ps : List Int) (k0 : Int) (hb : ps.length <= 4294967296) : VC Tryz.prog 111 [.agg [.d (pS cI ps)],.d (.int .i64 k0)] (fun _ r=>r = .d (pS cI (pathS ps (ps.length + 1) k0))):=by
 refine VC.ofL EP s111 (by kernel_rfl) Tryz.func111 (by rfl) (by kernel_rfl) (by simp [Tryz.f111]) (by simp [Tryz.f111]) s111_ok fun B hl=>?_
 have hw1 : IntKind.i64.wrap ((ps.length : Int) - 1) = ps.length - 1:=wrap64_of (by omega) (by omega)
 simp [Tryz.f111,]
 refine loop_rule (X:=Int × List Int) (PathI ps k0) (fun p=>[(1,.d (.int .i64 p.1)),(2,.ptr 2 0 0),(5,.own 6 0 p.2.length)]) (fun p=>[(2,some (.box [.d (.pl (ps.map cI))])),(6,some (.row 3 1 (p.2.map cI)))]) (fun p=>ps.length + 1 - p.2.length) (k0,[]) .zero (by simp) (by simp) ?_
 rintro ⟨k,o⟩ hs t m hI hh
 have hle:=hI.le
 simp only at hle
 simp [hw1,]
 refine call_f (w_spec_l1In k 0 (ps.length - 1)) (by simp) rfl fun hs3 hh3=>?_
 simp at hh3
 cases h1 : inR k 0 (ps.length - 1)
 ·have hd:=hI.done (by simp [h1])
  simp [hd,List.take_of_length_le,]
 by_cases h2 : o.length <= ps.length
 ·have h1':=h1
  simp only [inR,Bool.and_eq_true,decide_eq_true_eq] at h1'
  have hst:=hI.step h1 h2
  obtain ⟨K,rfl⟩ : ∃ K : Nat,k = (K : Int):=⟨k.toNat,by omega⟩
  have hK : K < ps.length:=by omega
  rw [nxP_at hK] at hst
  have hL : LenOk 8 (o.length + 1):=⟨by omega,by simp only [maxLen]; omega⟩
  simp [h2,hK,hL,]
  exact back (ps[K],o ++ [(K : Int)]) hst (by simp; omega) rfl (by simp <;> omega) (by simp) (by simp)
 ·have hd:=hI.done (by simp [h2])
  simp [h2,hd,List.take_of_length_le,]
theorem w_impl_topsOf (bags : List (List Int)) (ps : List Int) (v : Int) (hl2 : bags.length = ps.length) (hp : ∀ i (h : i < ps.length),-1 <= ps[i] /\ ps[i] < ps.length) : VC Tryz.prog 114 [.d (pS (cP cI) bags),.d (pS cI ps),.d (.int .i64 v)] (fun _ r=>r = .d (.int .i64 (topN bags ps v bags.length))):=by
 refine VC.ofL EP s114 (by kernel_rfl) Tryz.func114 (by rfl) (by kernel_rfl) (by simp [Tryz.f114]) (by simp [Tryz.f114]) s114_ok fun B hl=>?_
 simp [pS,maxLen] at hl
 simp [Tryz.f114,]
 refine loop_rule (X:=Nat) (fun i=>i <= bags.length) (fun i=>[(0,.d (.pl (bags.map (cP cI)))),(1,.d (.pl (ps.map cI))),(2,.d (.int .i64 v)),(7,.d (.int .i64 (topN bags ps v i))),(10,.d (.pl (bags.map (cP cI)))),(11,.d (.int .i64 bags.length)),(12,.d (.int .i64 i))]) (fun _=>[]) (fun i=>bags.length - i) 0 (by simp) (by simp [topN]) (by simp) ?_
 intro i hs t m hi hh
 by_cases hlt : i < bags.length
 ·have hwi:=wr1 (i:=i) (by omega)
  have hlp : i < ps.length:=by omega
  have hst:=topN_step bags ps v i
  have htl:=topN_le bags ps v i
  have hwt : IntKind.i64.wrap ((topN bags ps v i : Int) + 1) = topN bags ps v i + 1:=wrap64_of (by omega) (by omega)
  have hpi:=hp i hlp
  simp [hlt,]
  refine call_f (w_impl_hasInt bags[i] v) (by simp) rfl fun hs3 hh3=>?_
  simp at hh3
  by_cases h1 : v ∈ bags[i]
  case neg=>
   have e : topIs bags ps v i = false:=by rw [topIs,getD_el _ hlt]; simp [h1]
   rw [e] at hst
   simp only [Bool.false_eq_true,if_false,Nat.add_zero] at hst
   simp [h1,hwi,]
   exact back (i + 1) (by omega) (by omega) rfl (by simp <;> omega) (by simp [hst]) (by simp)
  by_cases h2 : ps[i] < 0
  ·have e : topIs bags ps v i = true:=by rw [topIs,getD_el _ hlt,getD_el _ hlp]; simp [h1,h2]
   rw [e] at hst
   simp only [if_true] at hst
   simp [h1,h2,hlp,hwi,hwt,]
   exact back (i + 1) (by omega) (by omega) rfl (by simp <;> omega) (by simp [hst]) (by simp)
  obtain ⟨A,hA⟩ : ∃ A : Nat,ps[i] = (A : Int):=⟨ps[i].toNat,by omega⟩
  have hAl : A < bags.length:=by omega
  have h2' : ¬ (A : Int) < 0:=by omega
  simp [h1,hA,hAl,hlp,]
  refine call_f (w_impl_hasInt bags[A] v) (by simp) rfl fun hs4 hh4=>?_
  simp at hh4
  by_cases h3 : v ∈ bags[A]
  ·have e : topIs bags ps v i = false:=by rw [topIs,getD_el _ hlt,getD_el _ hlp,hA,Int.toNat_natCast,getD_el _ hAl]; simp [h1,h3]
   rw [e] at hst
   simp only [Bool.false_eq_true,if_false,Nat.add_zero] at hst
   simp [h3,h2',hwi,]
   exact back (i + 1) (by omega) (by omega) rfl (by simp <;> omega) (by simp [hst]) (by simp)
  ·have e : topIs bags ps v i = true:=by rw [topIs,getD_el _ hlt,getD_el _ hlp,hA,Int.toNat_natCast,getD_el _ hAl]; simp [h1,h3]
   rw [e] at hst
   simp only [if_true] at hst
   simp [h3,h2',hwi,hwt,]
   exact back (i + 1) (by omega) (by omega) rfl (by simp <;> omega) (by simp [hst]) (by simp)
 ·have hn : i = bags.length:=by omega
  subst hn
  simp
end
end Go.Proofs.YtglilmkmkdkedaaGreatDoor
namespace Go.Proofs.YtglilmkmkdkedaaGreatDoor
open Go.Vs Go.Proofs Go
set_option maxRecDepth 100000
set_option maxHeartbeats 1000000
section
attribute [local simp] plI_id plStr_id map_plI map_plStr pS cP cI cStr cU8 cB
theorem w_impl_IsValidDecomposition (q : PQuery) (d : PDec) (hb : d.par.length <= 4294967296) : VC Tryz.prog 67 [.agg ((eQuery q).map V.d),.agg ((eDec d).map V.d)] (fun _ r=>r = .d (.bool (decOk q d))):=by
 refine VC.ofL EP s67 (by kernel_rfl) Tryz.func67 (by rfl) (by kernel_rfl) (by simp [Tryz.f67]) (by simp [Tryz.f67]) s67_ok fun B hl=>?_
 obtain ⟨bags,ps⟩:=d
 simp only at hb
 simp [Tryz.f67,s67_17,s67_17,eQuery,eDec]
 refine call_f (w_impl_IsValidQuery q) (by simp [eQuery]) rfl fun hs1 hh1=>?_
 simp at hh1
 cases h1 : queryOk q
 ·simp [decOk_q (d:=⟨bags,ps⟩) h1]
 have hn:=queryOk_n5 h1
 by_cases h2 : bags.length = ps.length
 case neg=>simp [h2,decOk_l (q:=q) (d:=⟨bags,ps⟩) h2,s67_17,]
 simp [h2,s67_17,]
 refine call_f (w_impl_isTree ps hb) (by simp) rfl fun hs2 hh2=>?_
 simp at hh2
 cases h3 : treeB ps
 ·simp [decOk_t (q:=q) (d:=⟨bags,ps⟩) h3]
 have hpar:=tree_par h3
 simp [h2,s67_17,]
 refine loop_rule (X:=Nat) (ToI (bagI q.n) bags) (fun i=>[(2,.ptr 2 0 0),(5,.ptr 5 0 0),(34,.d (.pl (bags.map (cP cI)))),(35,.d (.int .i64 ps.length)),(36,.d (.int .i64 i))])
  (fun _=>[(2,some (.box [.d (.int .i64 q.n),.d (.pl (q.atoms.map eAtom)),.d (.pl (q.out.map cI))])),(5,some (.box [.d (.pl (bags.map (cP cI))),.d (.pl (ps.map cI))]))]) (fun i=>bags.length - i) 0 .zero (by simp [eAtom]) (by simp) ?_
 intro i hs t m hi hh
 have hle:=hi.le
 by_cases hlt : i < bags.length
 ·have hltp : i < ps.length:=by omega
  have hwi:=wr1 (i:=i) (by omega)
  simp [hlt,hltp,s67_17,]
  refine call_f (w_impl_isBag q bags[i]) (by simp [eQuery]) rfl fun hs3 hh3=>?_
  simp at hh3
  cases h4 : bagI q.n bags[i]
  ·simp [decOk_b (q:=q) (d:=⟨bags,ps⟩) hlt h4]
  simp [hwi,s67_17,]
  exact back (i + 1) (hi.step hlt h4) (by omega) rfl (by simp <;> omega) (by simp) (by simp)
 have hbags:=hi.done (by omega)
 have hlp : ¬ i < ps.length:=by omega
 simp [hlt,hlp,s67_17,]
 refine loop_rule (X:=Nat) (ToI (anyIn bags) q.atoms) (fun i=>[(2,.ptr 2 0 0),(5,.ptr 5 0 0),(46,.d (.pl (q.atoms.map eAtom))),(47,.d (.int .i64 q.atoms.length)),(48,.d (.int .i64 i))])
  (fun _=>[(2,some (.box [.d (.int .i64 q.n),.d (.pl (q.atoms.map eAtom)),.d (.pl (q.out.map cI))])),(5,some (.box [.d (.pl (bags.map (cP cI))),.d (.pl (ps.map cI))]))]) (fun i=>q.atoms.length - i) 0 .zero (by simp) (by simp) ?_
 intro i hs t m hi hh
 have hle:=hi.le
 have hat4 : q.atoms.length <= 4:=by
  cases h2 : inR (q.atoms.length : Int) 1 4
  ·rw [queryOk_a h2] at h1; cases h1
  ·simp only [inR,Bool.and_eq_true,decide_eq_true_eq] at h2; omega
 by_cases hlt : i < q.atoms.length
 ·have hwi:=wr1 (i:=i) (by omega)
  obtain ⟨nm,vs,hT⟩ : ∃ nm vs,q.atoms[i] = ⟨nm,vs⟩:=⟨_,_,rfl⟩
  have hav : (avars ⟨nm,vs⟩).length <= 5:=avTo_len ⟨nm,vs⟩ 5
  have hall : anyTo (inAB ⟨nm,vs⟩) bags bags.length = anyIn bags q.atoms[i]:=by rw [anyTo_all (Nat.le_refl _),hT]; rfl
  simp [hlt,hT,eAtom,s67_17,]
  refine loop_rule (X:=Nat) (fun j=>j <= bags.length) (fun j=>[(2,.ptr 2 0 0),(5,.ptr 5 0 0),(9,.ptr 9 0 0),(10,.d (.bool (anyTo (inAB ⟨nm,vs⟩) bags j))),(46,.d (.pl (q.atoms.map eAtom))),(47,.d (.int .i64 q.atoms.length)),(48,.d (.int .i64 i)),(53,.d (.pl (bags.map (cP cI)))),(54,.d (.int .i64 bags.length)),(55,.d (.int .i64 j))])
   (fun _=>[(2,some (.box [.d (.int .i64 q.n),.d (.pl (q.atoms.map eAtom)),.d (.pl (q.out.map cI))])),(5,some (.box [.d (.pl (bags.map (cP cI))),.d (.pl (ps.map cI))])),(9,some (.box [.d (.str nm),.d (.pl (vs.map cI))]))]) (fun j=>bags.length - j) 0 (by simp) (by simp [anyTo_zero]) (by simp) ?_
  intro j hs t m hj hh
  by_cases hjt : j < bags.length
  ·have hwj:=wr1 (i:=j) (by omega)
   have hst:=anyTo_step (f:=inAB ⟨nm,vs⟩) hjt
   refine anyQ fun Q=>?_
   cases h6 : anyTo (inAB ⟨nm,vs⟩) bags j
   ·rw [h6,Bool.false_or] at hst
    simp [hjt,s67_17,]
    refine call_p (w_impl_AtomVariables ⟨nm,vs⟩) (by simp [eAtom]) fun hs5 hh5 hl5=>?_
    simp at hh5
    simp [s67_17,]
    refine call_p (w_impl_common (avars ⟨nm,vs⟩) bags[j] (by omega)) (by simp) fun hs6 hh6 hl6=>?_
    simp at hh6
    simp [s67_17,]
    refine call_p (w_impl_AtomVariables ⟨nm,vs⟩) (by simp [eAtom]) fun hs7 hh7 hl7=>?_
    simp at hh7
    by_cases h7 : (commL (avars ⟨nm,vs⟩) bags[j]).length = (avars ⟨nm,vs⟩).length
    ·have e : inAB ⟨nm,vs⟩ bags[j] = true:=by rw [inAB,decide_eq_true h7]
     rw [e] at hst
     simp [h7,hwj,s67_17,]
     exact back (j + 1) (by omega) (by omega) rfl (by simp <;> omega) (by simp [hst]) (by simp)
    ·have e : inAB ⟨nm,vs⟩ bags[j] = false:=by rw [inAB,decide_eq_false h7]
     rw [e] at hst
     simp [h7,hwj,s67_17,]
     exact back (j + 1) (by omega) (by omega) rfl (by simp <;> omega) (by simp [hst]) (by simp)
   ·rw [h6,Bool.true_or] at hst
    simp [hjt,hwj,s67_17,]
    exact back (j + 1) (by omega) (by omega) rfl (by simp <;> omega) (by simp [hst]) (by simp)
  ·have hjn : j = bags.length:=by omega
   subst hjn
   cases h7 : anyIn bags q.atoms[i]
   ·rw [h7] at hall
    simp [hall,decOk_a (q:=q) (d:=⟨bags,ps⟩) hlt h7,s67_17,]
   ·rw [h7] at hall
    simp [hall,hwi,s67_17,]
    exact back (i + 1) (hi.step hlt h7) (by omega) rfl (by simp <;> omega) (by simp) (by simp)
 have hats:=hi.done (by omega)
 simp [hlt,s67_17,]
 refine loop_rule (X:=Nat) (VarI ⟨bags,ps⟩ q.n.toNat) (fun v=>[(2,.ptr 2 0 0),(5,.ptr 5 0 0),(13,.d (.int .i64 v))]) (fun _=>[(2,some (.box [.d (.int .i64 q.n),.d (.pl (q.atoms.map eAtom)),.d (.pl (q.out.map cI))])),(5,some (.box [.d (.pl (bags.map (cP cI))),.d (.pl (ps.map cI))]))]) (fun v=>q.n.toNat - v) 0 .zero (by simp) (by simp) ?_
 intro v hs t m hv hh
 have hvn:=hv.le
 by_cases hvt : v < q.n.toNat
 ·have hwv:=wr1 (i:=v) (by omega)
  have hvt' : (v : Int) < q.n:=by omega
  simp [hvt',s67_17,]
  refine call_f (w_impl_topsOf bags ps v h2 hpar) (by simp) rfl fun hs5 hh5=>?_
  simp at hh5
  by_cases h7 : topN bags ps (v : Int) bags.length = 1
  ·simp [h7,hwv,s67_17,]
   exact back (v + 1) (hv.step hvt h7) (by omega) rfl (by simp <;> omega) (by simp) (by simp)
  ·have h7' : ¬ (topN bags ps (v : Int) bags.length : Int) = 1:=by omega
   simp [h7',h7,decOk_v (q:=q) (d:=⟨bags,ps⟩) hvt h7,s67_17,]
 ·have hvs:=hv.done (by omega)
  have hvt' : ¬ (v : Int) < q.n:=by omega
  simp [hvt',decOk_all (q:=q) (d:=⟨bags,ps⟩) h1 h2 h3 hbags hats hvs,s67_17,]
theorem w_spec_IsValidDecomposition (q : PQuery) (d : PDec) (hst : ∀ a ∈ q.atoms,a.rel.length <= maxLen) (hb : d.par.length <= 4294967296) : VC Tryz.prog 66 [.agg ((eQuery q).map V.d),.agg ((eDec d).map V.d)] (fun _ r=>r = .d (.bool (decOk q d))):=by
 refine VC.ofL EP s66 (by kernel_rfl) Tryz.func66 (by rfl) (by kernel_rfl) (by simp [Tryz.f66]) (by simp [Tryz.f66]) s66_ok fun B hl=>?_
 obtain ⟨bags,ps⟩:=d
 simp only at hb
 simp [Tryz.f66,s66_8,s66_17,s66_27,s66_8,s66_17,s66_27,eQuery,eDec]
 refine call_f (w_spec_IsValidQuery q hst) (by simp [eQuery]) rfl fun hs1 hh1=>?_
 simp at hh1
 cases h1 : queryOk q
 ·simp [decOk_q (d:=⟨bags,ps⟩) h1,s66_8,s66_17,s66_27,]
 have hn:=queryOk_n5 h1
 by_cases h2 : bags.length = ps.length
 case neg=>simp [show ¬ ps.length = bags.length from fun h=>h2 h.symm,decOk_l (q:=q) (d:=⟨bags,ps⟩) h2,s66_8,s66_17,s66_27,]
 have h2' : ps.length = bags.length:=h2.symm
 simp [h2',s66_8,s66_17,s66_27,]
 refine call_f (w_spec_JoinTreeRoot ps) (by simp) rfl fun hs2 hh2=>?_
 simp at hh2
 by_cases h3 : rootS ps < 0
 ·simp [h3,decOk_r (q:=q) (d:=⟨bags,ps⟩) h3,s66_8,s66_17,s66_27,]
 simp [h3,s66_8,s66_17,s66_27,]
 refine loop_rule (X:=Nat) (PlI q ⟨bags,ps⟩) (fun i=>[(2,.ptr 2 0 0),(3,.ptr 3 0 0),(5,.ptr 5 0 0),(6,.d (.int .i64 i))]) (fun _=>[(2,some (.box [.d (.int .i64 q.n),.d (.pl (q.atoms.map eAtom)),.d (.pl (q.out.map cI))])),(3,some (.box [.d (.pl (bags.map (cP cI))),.d (.pl (ps.map cI))])),(5,some (.box [.d (.pl (ps.map cI))]))]) (fun i=>bags.length - i) 0 .zero (by simp) (by simp) ?_
 intro i hs t m hi hh
 have hle : i <= bags.length:=hi.le
 by_cases hlt : i < bags.length
 ·have hltp : i < ps.length:=by omega
  have hwi:=wr1 (i:=i) (by omega)
  have hbad : placeOk q ⟨bags,ps⟩ i = false -> decOk q ⟨bags,ps⟩ = false:=decOk_p (d:=⟨bags,ps⟩) h2 hlt
  have hpo : placeOk q ⟨bags,ps⟩ i = (bagS q.n bags[i] && pathOk ps i):=by rw [placeOk]; simp only; rw [getD_el _ hlt]
  obtain ⟨P,hP⟩ : ∃ P,P = pathS ps (ps.length + 1) i:=⟨_,rfl⟩
  have hPl : 0 < P.length:=by rw [hP]; exact path_ne hltp
  have hPo : pathOk ps i = (decide (P.length <= ps.length) && decide (lastZ P = rootS ps)):=by rw [pathOk,<- hP]
  have hPle : P.length <= ps.length + 1:=by
   have hx : ∀ (m : Nat) (k : Int),(pathS ps m k).length <= m:=fun m=>by
    induction m with
    | zero=>intro k; simp [pathS]
    | succ m ih =>
      intro k
      by_cases hc : inR k 0 (ps.length - 1) = true
      ·rw [path_yes hc]; have:=ih (nxP ps k); simp; omega
      ·rw [path_out hc]; simp
   rw [hP]; exact hx _ _
  simp [hlt,s66_8,s66_17,s66_27,]
  refine call_p (w_spec_l10Path ps i hb) (by simp) fun hs3 hh3 hl3=>?_
  simp at hh3
  rw [<- hP]
  simp [hlt,s66_8,s66_17,s66_27,]
  refine call_f (w_spec_l30Bag q bags[i]) (by simp [eQuery]) rfl fun hs4 hh4=>?_
  simp at hh4
  cases h4 : bagS q.n bags[i]
  ·simp [hbad (by rw [hpo,h4,Bool.false_and]),s66_8,s66_17,s66_27,]
  by_cases h5 : ps.length < P.length
  ·have h5' : ¬ P.length <= ps.length:=by omega
   simp [h5,<- h2',hbad (by rw [hpo,hPo,decide_eq_false h5']; simp),s66_8,s66_17,s66_27,]
  have h5' : P.length <= ps.length:=by omega
  have hwl : IntKind.i64.wrap ((P.length : Int) - 1) = ((P.length - 1 : Nat) : Int):=by rw [wrap64_of (by omega) (by omega)]; omega
  have hll : P.length - 1 < P.length:=by omega
  have hla : lastZ P = P[P.length - 1]:=by rw [lastZ,getD_el _ hll]
  simp [h5,<- h2',hwl,hll,s66_8,s66_17,s66_27,]
  refine call_f (w_spec_JoinTreeRoot ps) (by simp) rfl fun hs5 hh5=>?_
  simp at hh5
  by_cases h6 : P[P.length - 1] = rootS ps
  ·have hok : placeOk q ⟨bags,ps⟩ i = true:=by rw [hpo,hPo,h4,decide_eq_true h5',hla,decide_eq_true h6]; rfl
   simp [h6,hwi,s66_8,s66_17,s66_27,]
   exact back (i + 1) (hi.step hlt hok) (by omega) rfl (by simp <;> omega) (by simp) (by simp)
  ·simp [h6,hbad (by rw [hpo,hPo,hla,decide_eq_false h6]; simp),s66_8,s66_17,s66_27,]
 obtain ⟨h3t,hbags⟩:=places (q:=q) (d:=⟨bags,ps⟩) h2 (by show 0 <= rootS ps; omega) (hi.done (by show bags.length <= i; omega))
 simp only at h3t hbags
 have hpar:=tree_par h3t
 simp [hlt,s66_8,s66_17,s66_27,]
 refine loop_rule (X:=Nat) (ToI (anyIn bags) q.atoms) (fun i=>[(2,.ptr 2 0 0),(3,.ptr 3 0 0),(5,.ptr 5 0 0),(8,.d (.int .i64 i))]) (fun _=>[(2,some (.box [.d (.int .i64 q.n),.d (.pl (q.atoms.map eAtom)),.d (.pl (q.out.map cI))])),(3,some (.box [.d (.pl (bags.map (cP cI))),.d (.pl (ps.map cI))])),(5,some (.box [.d (.pl (ps.map cI))]))]) (fun i=>q.atoms.length - i) 0 .zero (by simp) (by simp) ?_
 intro i hs t m hi hh
 have hle:=hi.le
 have hat4 : q.atoms.length <= 4:=by
  cases h2 : inR (q.atoms.length : Int) 1 4
  ·rw [queryOk_a h2] at h1; cases h1
  ·simp only [inR,Bool.and_eq_true,decide_eq_true_eq] at h2; omega
 by_cases hlt : i < q.atoms.length
 ·have hwi:=wr1 (i:=i) (by omega)
  obtain ⟨nm,vs,hT⟩ : ∃ nm vs,q.atoms[i] = ⟨nm,vs⟩:=⟨_,_,rfl⟩
  have hall : anyTo (insD ⟨nm,vs⟩) bags bags.length = anyIn bags q.atoms[i]:=by
   rw [anyTo_all (Nat.le_refl _),<- any_ins h1 (List.getElem_mem hlt),hT]
  simp [hlt,s66_8,s66_17,s66_27,]
  refine loop_rule (X:=Nat) (fun j=>j <= bags.length) (fun j=>[(2,.ptr 2 0 0),(3,.ptr 3 0 0),(5,.ptr 5 0 0),(8,.d (.int .i64 i)),(9,.d (.bool (anyTo (insD ⟨nm,vs⟩) bags j))),(10,.d (.int .i64 j))]) (fun _=>[(2,some (.box [.d (.int .i64 q.n),.d (.pl (q.atoms.map eAtom)),.d (.pl (q.out.map cI))])),(3,some (.box [.d (.pl (bags.map (cP cI))),.d (.pl (ps.map cI))])),(5,some (.box [.d (.pl (ps.map cI))]))]) (fun j=>bags.length - j) 0 (by simp) (by simp [anyTo_zero]) (by simp) ?_
  intro j hs t m hj hh
  by_cases hjt : j < bags.length
  ·have hwj:=wr1 (i:=j) (by omega)
   have hst:=anyTo_step (f:=insD ⟨nm,vs⟩) hjt
   refine anyQ fun Q=>?_
   cases h6 : anyTo (insD ⟨nm,vs⟩) bags j
   ·rw [h6,Bool.false_or] at hst
    simp [hjt,hlt,hT,eAtom,s66_8,s66_17,s66_27,]
    refine call_f (w_spec_l30Within ⟨nm,vs⟩ bags[j]) (by simp [eAtom]) rfl fun hs5 hh5=>?_
    simp at hh5
    simp [hwj,s66_8,s66_17,s66_27,]
    exact back (j + 1) (by omega) (by omega) rfl (by simp <;> omega) (by simp [hst]) (by simp)
   ·rw [h6,Bool.true_or] at hst
    simp [hjt,hwj,s66_8,s66_17,s66_27,]
    exact back (j + 1) (by omega) (by omega) rfl (by simp <;> omega) (by simp [hst]) (by simp)
  ·have hjn : j = bags.length:=by omega
   subst hjn
   cases h7 : anyIn bags q.atoms[i]
   ·rw [h7] at hall
    simp [hall,decOk_a (q:=q) (d:=⟨bags,ps⟩) hlt h7,s66_8,s66_17,s66_27,]
   ·rw [h7] at hall
    simp [hall,hwi,s66_8,s66_17,s66_27,]
    exact back (i + 1) (hi.step hlt h7) (by omega) rfl (by simp <;> omega) (by simp) (by simp)
 have hats:=hi.done (by omega)
 simp [hlt,s66_8,s66_17,s66_27,]
 refine loop_rule (X:=Nat) (VarI ⟨bags,ps⟩ q.n.toNat) (fun v=>[(2,.ptr 2 0 0),(3,.ptr 3 0 0),(5,.ptr 5 0 0),(11,.d (.int .i64 v))]) (fun _=>[(2,some (.box [.d (.int .i64 q.n),.d (.pl (q.atoms.map eAtom)),.d (.pl (q.out.map cI))])),(3,some (.box [.d (.pl (bags.map (cP cI))),.d (.pl (ps.map cI))])),(5,some (.box [.d (.pl (ps.map cI))]))]) (fun v=>q.n.toNat - v) 0 .zero (by simp) (by simp) ?_
 intro v hs t m hv hh
 have hvn:=hv.le
 by_cases hvt : v < q.n.toNat
 case neg=>
  have hvs:=hv.done (by omega)
  have hvt' : ¬ (v : Int) < q.n:=by omega
  simp [hvt',decOk_all (q:=q) (d:=⟨bags,ps⟩) h1 h2 h3t hbags hats hvs,s66_8,s66_17,s66_27,]
 have hwv:=wr1 (i:=v) (by omega)
 have hvt' : (v : Int) < q.n:=by omega
 simp [hvt',s66_8,s66_17,s66_27,]
 refine loop_rule (X:=Nat) (fun j=>j <= bags.length) (fun j=>[(2,.ptr 2 0 0),(3,.ptr 3 0 0),(5,.ptr 5 0 0),(11,.d (.int .i64 v)),(12,.d (.int .i64 (topN bags ps v j))),(13,.d (.int .i64 j))]) (fun _=>[(2,some (.box [.d (.int .i64 q.n),.d (.pl (q.atoms.map eAtom)),.d (.pl (q.out.map cI))])),(3,some (.box [.d (.pl (bags.map (cP cI))),.d (.pl (ps.map cI))])),(5,some (.box [.d (.pl (ps.map cI))]))]) (fun j=>bags.length - j) 0 (by simp) (by simp [topN]) (by simp) ?_
 intro j hs t m hj hh
 by_cases hjt : j < bags.length
 ·have hwj:=wr1 (i:=j) (by omega)
  have hlp : j < ps.length:=by omega
  have hst:=topN_step bags ps v j
  have htl:=topN_le bags ps v j
  have hwt : IntKind.i64.wrap ((topN bags ps v j : Int) + 1) = topN bags ps v j + 1:=wrap64_of (by omega) (by omega)
  have hpi:=hpar j hlp
  have hg1:=idxL_ge bags[j] (v : Int)
  refine anyQ fun Q=>?_
  simp [hjt,s66_8,s66_17,s66_27,]
  refine call_f (w_spec_l7Find bags[j] v) (by simp) rfl fun hs3 hh3=>?_
  simp at hh3
  by_cases g1 : (v : Int) ∈ bags[j]
  case neg=>
   have e : topIs bags ps v j = false:=by rw [topIs,getD_el _ hjt]; simp [g1]
   rw [e] at hst
   simp only [Bool.false_eq_true,if_false,Nat.add_zero] at hst
   have g2 : ¬ 0 <= idxL bags[j] (v : Int):=by simpa [g1] using hg1
   simp [g2,hwj,s66_8,s66_17,s66_27,]
   exact back (j + 1) (by omega) (by omega) rfl (by simp <;> omega) (by simp [hst]) (by simp)
  have g2 : 0 <= idxL bags[j] (v : Int):=by simpa [g1] using hg1
  by_cases g3 : ps[j] = -1
  ·have e : topIs bags ps v j = true:=by rw [topIs,getD_el _ hjt,getD_el _ hlp]; simp [g1,g3]
   rw [e] at hst
   simp only [if_true] at hst
   simp [g2,g3,hlp,hwj,hwt,s66_8,s66_17,s66_27,]
   exact back (j + 1) (by omega) (by omega) rfl (by simp <;> omega) (by simp [hst]) (by simp)
  obtain ⟨A,hA⟩ : ∃ A : Nat,ps[j] = (A : Int):=⟨ps[j].toNat,by omega⟩
  have hAl : A < bags.length:=by omega
  have hA1 : ¬ (A : Int) = -1:=by omega
  have hA2 : ¬ (A : Int) < 0:=by omega
  have hg4:=idxL_ge bags[A] (v : Int)
  simp [g2,hA,hA1,hAl,hlp,hjt,s66_8,s66_17,s66_27,]
  refine call_f (w_spec_l7Find bags[A] v) (by simp) rfl fun hs4 hh4=>?_
  simp at hh4
  by_cases g4 : (v : Int) ∈ bags[A]
  ·have e : topIs bags ps v j = false:=by rw [topIs,getD_el _ hjt,getD_el _ hlp,hA,Int.toNat_natCast,getD_el _ hAl]; simp [g1,g4]
   rw [e] at hst
   simp only [Bool.false_eq_true,if_false,Nat.add_zero] at hst
   have g5 : ¬ idxL bags[A] (v : Int) < 0 := by have : 0 ≤ idxL bags[A] (v : Int) := by simpa [g4] using hg4
                                                omega
   simp [g5,hA1,hwj,s66_8,s66_17,s66_27,]
   exact back (j + 1) (by omega) (by omega) rfl (by simp <;> omega) (by simp [hst]) (by simp)
  ·have e : topIs bags ps v j = true:=by rw [topIs,getD_el _ hjt,getD_el _ hlp,hA,Int.toNat_natCast,getD_el _ hAl]; simp [g1,g4]
   rw [e] at hst
   simp only [if_true] at hst
   have g5 : idxL bags[A] (v : Int) < 0 := by have : ¬ 0 ≤ idxL bags[A] (v : Int) := by simpa [g4] using hg4
                                              omega
   simp [g5,hA1,hwj,hwt,s66_8,s66_17,s66_27,]
   exact back (j + 1) (by omega) (by omega) rfl (by simp <;> omega) (by simp [hst]) (by simp)
 ·have hjn : j = bags.length:=by omega
  subst hjn
  by_cases h7 : topN bags ps (v : Int) bags.length = 1
  ·simp [h7,hwv,s66_8,s66_17,s66_27,]
   exact back (v + 1) (hv.step hvt h7) (by omega) rfl (by simp <;> omega) (by simp) (by simp)
  ·have h7' : ¬ (topN bags ps (v : Int) bags.length : Int) = 1:=by omega
   simp [h7',h7,decOk_v (q:=q) (d:=⟨bags,ps⟩) hvt h7,s66_8,s66_17,s66_27,]
end
end Go.Proofs.YtglilmkmkdkedaaGreatDoor
namespace Go.Proofs.YtglilmkmkdkedaaGreatDoor
open Go.Vs Go.Proofs Go
set_option maxRecDepth 100000
set_option maxHeartbeats 1000000
theorem erI (l : List Int) : erLL (l.map cI) = l.map cI:=by
 have:=erLL_map er_cI l
 simpa [plI_id,map_plI] using this
@[simp] theorem start5 (a b c d e : V) (B : Nat) : St.start [a, b, c, d, e] B = ⟨B, B, [], upd (upd (upd (upd (upd (fun _ => .tup []) 4 e) 3 d) 2 c) 1 b) 0 a, fun _ => none⟩ := by
  simp only [St.start,St.mk.injEq,true_and,and_true]
  funext i; match i with | 0=>rfl | 1=>rfl | 2=>rfl | 3=>rfl | 4=>rfl | _ + 5=>rfl
section
attribute [local simp] plI_id plStr_id map_plI map_plStr pS cP cI
theorem e_copyIntsT (l : List Int) (hb : l.length <= 4294967296) :
  VC Tryz.prog 117 [.d (pS cI l)] (fun n r=>∃ g : Option Nat,r = .d (.sl g (some (3,1)) (l.map cI)) /\ (l = [] -> True) /\ (∀ k,g = some k -> n <= k) /\ (g = none -> l = [])):=by
 refine VC.of E s117 (by kernel_rfl) Tryz.func117 (by rfl) (by kernel_rfl) (by simp [Tryz.f117]) (by simp [Tryz.f117]) s117_ok fun B=>?_
 have hL : LenOk 8 l.length:=⟨by omega,by simp only [maxLen]; omega⟩
 have hp : hpLL (l.map cI) = false:=hpLL_mapI l
 simp [Tryz.f117,hL,hp,List.take_of_length_le]
 intro γ hs' h1 hg
 obtain ⟨q1,q2⟩:=gam_at hg (k:=3) (T:=3) (sz:=1) (es:=l.map cI) (by simp)
 clear hg
 refine ⟨fun k hk=>(q1 k hk).1,fun h=>?_⟩
 exact Classical.byContradiction fun hl=>q2 (by simpa using hl) h
def avI (vs : List Int) (i : Nat) : List Int:=(rangeI i).filter fun v=>vs.contains v
theorem avI_zero (vs : List Int) : avI vs 0 = []:=rfl
theorem w_impl_AtomVariablesA (a : PAtom) : VC Tryz.prog 54 [.agg ((eAtom a).map V.d)] (fun _ r=>r = .d (pS cI (aVars a.vars))):=by
 obtain ⟨nm,vs⟩:=a
 refine VC.ofL EP s54 (by kernel_rfl) Tryz.func54 (by rfl) (by kernel_rfl) (by simp [Tryz.f54]) (by simp [Tryz.f54]) s54_ok fun B hl=>?_
 simp [Tryz.f54,eAtom,cStr]
 refine loop_ruleL (X:=Nat) (fun i _=>i <= 5) (fun i=>[(1,.ptr 1 0 0),(3,.own 15 0 (avI vs i).length),(4,.d (.int .i64 i))]) (fun i=>[(1,some (.box [.d (.str nm),.d (.pl (vs.map cI))])),(15,some (.row 3 1 ((avI vs i).map cI)))]) (fun i=>5 - i) ?_ ?_
 ·refine (lead_slot 3 15 3 1 (by omega) (by omega) (by simp)).bind ?_
  rintro _ rfl
  exact Lead.of ⟨0,by omega,rfl,rfl,Nat.le_refl _,by simp [avI_zero],by simp [avI_zero]⟩
 intro i hs t m hi hh
 by_cases hlt : i < 5
 ·have hwi:=wr1 (i:=i) (by omega)
  have hlz : (i : Int) < 5:=by omega
  have hlen : (avI vs i).length <= i:=by
   have:=List.length_filter_le (fun v=>vs.contains v) (rangeI i)
   rw [rangeI_len] at this
   exact this
  have hL : LenOk 8 ((avI vs i).length + 1):=⟨by omega,by simp only [maxLen]; omega⟩
  have hs' : avI vs (i + 1) = avI vs i ++ if vs.contains (i : Int) then [(i : Int)] else []:=by
   rw [avI,avI,rangeI_succ,List.filter_append]
   cases h : vs.contains (i : Int) <;> simp only [List.filter_cons,List.filter_nil,h] <;> rfl
  obtain ⟨L,hLd⟩ : ∃ L,L = avI vs i:=⟨_,rfl⟩
  rw [<- hLd] at hL hs' hlen ⊢
  refine anyQ2 fun Q=>?_
  simp [hlz,]
  refine call_f (w_impl_ContainsVariable ⟨nm,vs⟩ i) (by simp [eAtom,cStr]) rfl fun hs1 hh1=>?_
  simp at hh1
  cases hc : vs.contains (i : Int)
  ·rw [hc] at hs'
   simp only [Bool.false_eq_true,if_false,List.append_nil] at hs'
   simp [hwi,]
   refine back2 (i + 1) (by omega) (by omega) rfl (by simp <;> omega) ?_ ?_
   ·rw [hs']; simp
   ·rw [hs']; simp
  ·rw [hc] at hs'
   simp only [if_true] at hs'
   simp [hwi,hL,List.take_of_length_le,]
   refine back2 (i + 1) (by omega) (by omega) rfl (by simp <;> omega) ?_ ?_
   ·rw [hs']; simp
   ·rw [hs']; simp
 ·have hn : i = 5:=by omega
  subst hn
  have e : avI vs 5 = aVars vs:=rfl
  rw [e]
  simp [List.take_of_length_le,]
theorem w_impl_glue (u a r b s : List Int) (hu : u.length <= 1000) (hua : ∀ v ∈ u,v ∈ a \/ v ∈ b) (hr : r.length = a.length) (hs : s.length = b.length) :
  VC Tryz.prog 104 [.d (pS cI u),.d (pS cI a),.d (pS cI r),.d (pS cI b),.d (pS cI s)] (fun _ v=>v = .tup [.d (pS cI (if glB u a r b s then glR u a r b s else [])),.d (.bool (glB u a r b s))]):=by
 refine VC.ofL EP s104 (by kernel_rfl) Tryz.func104 (by rfl) (by kernel_rfl) (by simp [Tryz.f104]) (by simp [Tryz.f104]) s104_ok fun B hl=>?_
 simp [Tryz.f104,s104_7]
 refine loop_rule (X:=Nat) (fun i=>i <= u.length /\ AllTo (glV a r b s) u i) (fun i=>[(1,.d (.pl (a.map cI))),(2,.d (.pl (r.map cI))),(3,.d (.pl (b.map cI))),(4,.d (.pl (s.map cI))),(12,.own 17 0 i),(18,.d (.pl (u.map cI))),(19,.d (.int .i64 u.length)),(20,.d (.int .i64 i))]) (fun i=>[(17,some (.row 3 1 ((glR (u.take i) a r b s).map cI)))]) (fun i=>u.length - i) 0 ⟨by simp,allTo_zero⟩ (by simp) (by simp [glR]) ?_
 rintro i hs0 t m ⟨hi,hal⟩ hh
 by_cases hlt : i < u.length
 ·have hwi:=wr1 (i:=i) (by omega)
  have hL : LenOk 8 (i + 1):=⟨by omega,by simp only [maxLen]; omega⟩
  have hgl : (glR (u.take i) a r b s).length = i:=by simp [glR]; omega
  have hst : glR (u.take (i + 1)) a r b s = glR (u.take i) a r b s ++ [if a.contains u[i] then lookV a r u[i] else lookV b s u[i]]:=by
   rw [List.take_succ_eq_append_getElem hlt]; simp only [glR,List.map_append,List.map_cons,List.map_nil]
  obtain ⟨G,hG⟩ : ∃ G,G = glR (u.take i) a r b s:=⟨_,rfl⟩
  rw [<- hG] at hst hgl ⊢
  have hm:=hua _ (List.getElem_mem hlt)
  obtain ⟨v,hv⟩ : ∃ v,v = u[i]:=⟨_,rfl⟩
  rw [<- hv] at hm hst
  have key : ∀ (x y : List Int),y.length = x.length -> v ∈ x -> ∃ p : Nat,idxL x v = p /\ ∃ h : p < y.length,lookV x y v = y[p]:=fun x y hl hx=>by
   have h1:=(idxL_mem hx).1
   have h0 : 0 <= idxL x v:=by rw [idxL,if_pos hx]; omega
   exact ⟨(idxL x v).toNat,(Int.toNat_of_nonneg h0).symm,by omega,by rw [lookV,getD_el _ (by omega)]⟩
  have kno : ∀ x : List Int,v ∉ x -> idxL x v = -1:=fun x hx=>by rw [idxL,if_neg hx]
  simp [hlt,<- hv,s104_7,]
  refine call_f (w_impl_indexOf a v) (by simp) rfl fun hs1 hh1=>?_
  simp at hh1
  simp [s104_7,]
  refine call_f (w_impl_indexOf b v) (by simp) rfl fun hs2 hh2=>?_
  simp at hh2
  by_cases hva : v ∈ a
  ·obtain ⟨p,hpa,hp,hpr⟩:=key a r hr hva
   have hca : a.contains v = true:=List.contains_iff_mem.2 hva
   rw [hca,if_pos rfl,hpr] at hst
   by_cases hvb : v ∈ b
   ·obtain ⟨q,hqb,hq,hqr⟩:=key b s hs hvb
    have hcb : b.contains v = true:=List.contains_iff_mem.2 hvb
    have hgv : glV a r b s v = decide (r[p] = s[q]):=by rw [glV,hca,hcb,hpr,hqr]; simp
    by_cases he : r[p] = s[q]
    ·simp [hpa,hqb,hp,hq,he,hwi,hL,hgl,List.take_of_length_le,s104_7,]
     exact back (i + 1) ⟨by omega,allTo_step hal hlt (by rw [<- hv,hgv]; simp [he])⟩ (by omega) rfl (by simp <;> omega) (by simp) (by simp [hst,he])
    ·have hbad:=all_bad (p:=glV a r b s) hlt (by rw [<- hv,hgv]; simp [he])
     have hg : glB u a r b s = false:=hbad
     simp [hpa,hqb,hp,hq,he,hg,s104_7,]
   ·have hqb:=kno b hvb
    have hcb : b.contains v = false:=by simpa using hvb
    have hgv : glV a r b s v = true:=by rw [glV,hcb]; simp
    simp [hpa,hqb,hp,hwi,hL,hgl,List.take_of_length_le,s104_7,]
    exact back (i + 1) ⟨by omega,allTo_step hal hlt (by rw [<- hv,hgv])⟩ (by omega) rfl (by simp <;> omega) (by simp) (by simp [hst])
  ·have hpa:=kno a hva
   have hca : a.contains v = false:=by simpa using hva
   have hvb:=hm.resolve_left hva
   obtain ⟨q,hqb,hq,hqr⟩:=key b s hs hvb
   rw [hca,hqr] at hst
   simp only [Bool.false_eq_true,if_false] at hst
   have hgv : glV a r b s v = true:=by rw [glV,hca]; simp
   simp [hpa,hqb,hq,hwi,hL,hgl,List.take_of_length_le,s104_7,]
   exact back (i + 1) ⟨by omega,allTo_step hal hlt (by rw [<- hv,hgv])⟩ (by omega) rfl (by simp <;> omega) (by simp) (by simp [hst])
 ·have hd:=allTo_done hal (by omega)
  have hg : glB u a r b s = true:=hd
  have hn : i = u.length:=by omega
  subst hn
  simp [hg,List.take_of_length_le,glR,s104_7,]
end
section
attribute [local simp] plI_id plStr_id map_plI map_plStr pS cP cI dSl
theorem uniL_snoc {a b : List Int} {i : Nat} (h : i < b.length) : uniL a (b.take (i + 1)) = insI (uniL a (b.take i)) b[i]:=by
 rw [List.take_succ_eq_append_getElem h,uniL,List.foldl_append]; rfl
theorem insI_len (l : List Int) (n : Int) : (insI l n).length <= l.length + 1:=by
 rw [insI]
 split
 ·omega
 ·simp only [List.length_append,List.length_take,List.length_cons,List.length_drop]; omega
theorem uniL_len (a : List Int) : ∀ (b : List Int),(uniL a b).length <= a.length + b.length:=by
 intro b
 induction b generalizing a with
 | nil=>simp [uniL]
 | cons x r ih =>
   have h1:=ih (insI a x)
   have h2:=insI_len a x
   have : uniL a (x :: r) = uniL (insI a x) r:=rfl
   rw [this,List.length_cons]; omega
theorem t_impl_unite (a b : Ints) (hl : a.xs.length + b.xs.length <= 1000) : VC Tryz.prog 103 [.d (dSl cI a),.d (dSl cI b)] (fun n r=>∃ y : Ints,r = .d (dSl cI y) /\ y.xs = uniL a.xs b.xs /\ okS okI y /\ Good (cS cI y) (whS whI y) n):=by
 refine VC.ofB E s103 (by kernel_rfl) Tryz.func103 (by rfl) (by kernel_rfl) (by simp [Tryz.f103]) (by simp [Tryz.f103]) s103_ok fun B hB=>?_
 obtain ⟨aid,aT,al⟩:=a
 obtain ⟨bid,bT,bl⟩:=b
 simp only at hl
 have hbB : ∀ g,bid = some g -> g < B:=fun g h=>hB g (by simp [idsVL,V.ids,D.ids,h])
 simp [Tryz.f103,s103_9]
 refine call_some ((e_copyIntsT al (by omega)).er (As:=[.d (dSl cI ⟨aid,aT,al⟩)]) (by simp [erI])) (by simp) (by simp) fun n1 hs1 r1 hn1 hm1 hp1 hr1=>?_
 obtain ⟨g1,rfl,_,hg1,hg1n⟩:=hp1
 have hi1 : ∀ k,g1 = some k -> k < hs1:=fun k hk=>hr1 k (by simp [V.ids,D.ids,hk])
 simp at hn1
 simp [s103_9,]
 refine loop_ruleL (X:=Nat × Option Nat) (fun p h=>p.1 <= bl.length /\ (∀ g,p.2 = some g -> B <= g /\ g < h) /\ (p.2 = none -> uniL al (bl.take p.1) = [])) (fun p=>[(5,.d (.sl p.2 (some (3,1)) ((uniL al (bl.take p.1)).map cI))),(11,.d (.sl bid bT (bl.map cI))),(12,.d (.int .i64 bl.length)),(13,.d (.int .i64 p.1))]) (fun _=>[]) (fun p=>bl.length - p.1) ?_ ?_
 ·exact Lead.of ⟨(0,g1),⟨by simp,fun g hg=>⟨by have:=hg1 g hg; omega,hi1 g hg⟩,fun h=>by simpa [uniL] using hg1n h⟩,rfl,rfl,Nat.le_refl _,by simp [uniL],by simp⟩
 rintro ⟨i,id⟩ hs t m ⟨hi,hid,hnone⟩ hh
 simp only at hi hid hnone
 by_cases hlt : i < bl.length
 ·have hwi:=wr1 (i:=i) (by omega)
  have hst:=uniL_snoc (a:=al) hlt
  have hul:=uniL_len al (bl.take i)
  rw [List.length_take] at hul
  obtain ⟨l,hld⟩ : ∃ l,l = uniL al (bl.take i):=⟨_,rfl⟩
  obtain ⟨n,hn⟩ : ∃ n,n = bl[i]:=⟨_,rfl⟩
  rw [<- hld,<- hn] at hst
  rw [<- hld] at hul hnone ⊢
  refine anyQ2 fun Q=>?_
  simp [hlt,<- hn,s103_9,]
  refine loop_rule (X:=Nat) (fun k=>k <= l.length /\ AllTo (fun x=>decide (x < n)) l k) (fun k=>[(5,.d (.sl id (some (3,1)) (l.map cI))),(7,.d (.int .i64 n)),(8,.d (.int .i64 k)),(11,.d (.sl bid bT (bl.map cI))),(12,.d (.int .i64 bl.length)),(13,.d (.int .i64 i))]) (fun _=>[]) (fun k=>l.length - k) 0 ⟨by simp,allTo_zero⟩ (by simp) (by simp) ?_
  rintro k hs2 t2 m2 ⟨hk,hal⟩ hh2
  by_cases hkl : k < l.length
  ·by_cases hless : l[k] < n
   ·have hwk:=wr1 (i:=k) (by omega)
    refine anyQ fun Q=>?_
    simp [hkl,hless,hwk,s103_9,]
    exact back (k + 1) ⟨by omega,allTo_step hal hkl (by simp [hless])⟩ (by omega) rfl (by simp <;> omega) (by simp) (by simp)
   have hK : (l.takeWhile fun x=>decide (x < n)).length = k:=takeWhile_at hal hk fun h=>by simp [hless]
   by_cases heq : l[k] = n
   ·have hins : insI l n = l:=by rw [insI,hK,getD_el _ hkl,if_pos heq]
    simp [hkl,hless,heq,hwi,show ¬ (k : Int) = l.length by omega,s103_9,]
    refine back2 (i + 1,id) ⟨by simp only; omega,fun g hg=>?_,fun h=>?_⟩ (by simp only; omega) rfl (by simp <;> omega) (by simp [hst,hins]) (by simp)
    ·have:=hid g hg; exact ⟨this.1,by simp; omega⟩
    ·rw [hst,hins]; exact hnone h
   ·have hins : insI l n = l.take k ++ n :: l.drop k:=by rw [insI,hK,getD_el _ hkl,if_neg heq]
    simp [hkl,hless,heq,hwi,show ¬ (k : Int) = l.length by omega,show k <= l.length by omega,s103_9,]
    have hki : k <= l.length:=hk
    have L1 : LenOk 8 (k + 1):=⟨by omega,by simp only [maxLen]; omega⟩
    have L1' : LenOk 8 1:=⟨by omega,by simp only [maxLen]; omega⟩
    have L2 : LenOk 8 (k + 1 + (l.length - k)):=⟨by omega,by simp only [maxLen]; omega⟩
    have L2' : LenOk 8 (1 + l.length):=⟨by omega,by simp only [maxLen]; omega⟩
    have hmn : min k l.length = k:=by omega
    have hpl : ∀ L : List Int,hpLL (L.map cI) = false:=fun L=>hpLL_mapI L
    repeat' apply And.intro
    all_goals
     refine call_some ((e_copyIntsT (l.take k) (by simp; omega)).er (by simp only [<- List.map_take]; simp [-List.map_take,erI])) (by simp) (by simp) fun n2 hs3 r2 hn2 hm2 hp2 hr2=>?_
     obtain ⟨g2,rfl,_,hg2,hg2n⟩:=hp2
     have hn2' : hs2 <= n2:=hn2
     have hins2 : l.take k ++ n :: l.drop k = insI l n:=hins.symm
     cases g2 with
     | none =>
       have hk0 : k = 0:=by
        have:=congrArg List.length (hg2n rfl)
        simp only [List.length_take,List.length_nil] at this
        by_cases h : l.length = 0
        ·omega
        ·omega
       subst hk0
       have hins3 : insI l n = n :: l:=by simpa using hins
       simp [L1',L2',hwi,List.take_of_length_le,s103_9,]
       refine Back2.lead (lead_frz 49 (T:=3) (sz:=1) (es:=(n :: l).map cI) (by simp)) ?_
       rintro _ ⟨γ,hs',h2,hg,rfl⟩
       obtain ⟨q1,q2⟩:=gam_at hg (k:=49) (T:=3) (sz:=1) (es:=(n :: l).map cI) (by simp)
       clear hg
       simp only at h2 q1
       have hp0:=hpl (n :: l)
       have hp1:=hpl l
       refine back2 (i + 1,γ 49) ⟨by simp only; omega,fun g hg=>?_,fun h=>absurd h (q2 (by simp))⟩ (by simp only; omega) rfl (by simp <;> omega) (by simp [hst,hins3,hp0,hp1,Vs.frz,St.frz,Nat.add_comm 1,List.take_of_length_le]) (by simp)
       exact ⟨(q1 g hg).1,by simpa using (q1 g hg).2⟩
     | some g =>
       have hgn:=hg2 g rfl
       have kg : ∀ j,j < n2 -> kphi (some g) j = none:=fun j hj=>by simp only [kphi]; rw [if_neg (by simp; omega)]
       have e5 : reV (kphi (some g)) (.d (.sl id (some (3,1)) (l.map cI))) = .d (.sl id (some (3,1)) (l.map cI)):=reV_id (.d (dSl cI ⟨id,some (3,1),l⟩)) fun j hj=>kg j (by
        rcases mem_sl_ids.1 hj with h | h
        ·have:=(hid j h).2; omega
        ·simp at h)
       have eD : ∀ (T0 : Option (TypeId × Nat)) (L : List Int),reV (kphi (some g)) (.d (.sl id T0 (L.map cI))) = .d (.sl id T0 (L.map cI)):=fun T0 L=>reV_id (.d (dSl cI ⟨id,T0,L⟩)) fun j hj=>kg j (by
        rcases mem_sl_ids.1 hj with h | h
        ·have:=(hid j h).2; omega
        ·simp at h)
       have e11 : reV (kphi (some g)) (.d (.sl bid bT (bl.map cI))) = .d (.sl bid bT (bl.map cI)):=reV_id (.d (dSl cI ⟨bid,bT,bl⟩)) fun j hj=>kg j (by
        rcases mem_sl_ids.1 hj with h | h
        ·have:=hbB j h; omega
        ·simp at h)
       have hgB : B <= g:=by omega
       have hids : ∀ L : List Int,g ∉ idsLL (L.map cI):=fun L=>by simp
       simp [hgB,L1,L2,hmn,hwi,St.kill,e5,e11,eD,<- List.map_take,<- List.map_drop,List.take_of_length_le,s103_9,]
       refine ⟨by simp [idsLL,idsL,D.ids],?_⟩
       have a1 : k + 1 + (l.length - k) = l.length + 1:=by omega
       have hil : (insI l n).length = l.length + 1:=by rw [hins]; simp; omega
       refine Back2.lead (lead_frz 49 (T:=3) (sz:=1) (es:=(insI l n).map cI) (by rw [hins]; simp [List.map_take,List.map_drop])) ?_
       rintro _ ⟨γ,hs',h2,hg,rfl⟩
       obtain ⟨q1,q2⟩:=gam_at hg (k:=49) (T:=3) (sz:=1) (es:=(insI l n).map cI) (by rw [hins]; simp [List.map_take,List.map_drop])
       clear hg
       simp only at h2 q1
       have hp0:=hpl (insI l n)
       refine back2 (i + 1,γ 49) ⟨by simp only; omega,fun g hg=>?_,fun h=>absurd h (q2 (by rw [hins]; simp))⟩ (by simp only; omega) rfl (by simp <;> omega) ?_ (by simp)
       ·exact ⟨(q1 g hg).1,by simpa using (q1 g hg).2⟩
       ·simp [hst,hp0,hil,a1,Vs.frz,St.frz,List.take_of_length_le]
  ·have hkn : k = l.length:=by omega
   subst hkn
   have hK : (l.takeWhile fun x=>decide (x < n)).length = l.length:=takeWhile_at hal hk fun h=>absurd h hkl
   have hins : insI l n = l ++ [n]:=by
    have h0 : l.getD l.length (n + 1) ≠ n:=by simp [List.getD]; omega
    rw [insI,hK,if_neg h0]; simp
   simp [hwi,s103_9,]
   have L1 : LenOk 8 (l.length + 1):=⟨by omega,by simp only [maxLen]; omega⟩
   have L1' : LenOk 8 1:=⟨by omega,by simp only [maxLen]; omega⟩
   have hpl : ∀ L : List Int,hpLL (L.map cI) = false:=fun L=>hpLL_mapI L
   repeat' apply And.intro
   all_goals
    refine call_some ((e_copyIntsT l (by omega)).er (by simp [erI,List.take_of_length_le])) (by simp) (by simp) fun n2 hs3 r2 hn2 hm2 hp2 hr2=>?_
    obtain ⟨g2,rfl,_,hg2,hg2n⟩:=hp2
    have hn2' : hs2 <= n2:=hn2
    cases g2 with
    | none =>
      have hl0 : l = []:=hg2n rfl
      subst hl0
      have hins3 : insI [] n = [n]:=by simpa using hins
      simp [L1',hwi,List.take_of_length_le,s103_9,]
      refine Back2.lead (lead_frz 49 (T:=3) (sz:=1) (es:=[n].map cI) (by simp)) ?_
      rintro _ ⟨γ,hs',h2,hg,rfl⟩
      obtain ⟨q1,q2⟩:=gam_at hg (k:=49) (T:=3) (sz:=1) (es:=[n].map cI) (by simp)
      clear hg
      simp only at h2 q1
      have hp0:=hpl [n]
      refine back2 (i + 1,γ 49) ⟨by simp only; omega,fun g hg=>?_,fun h=>absurd h (q2 (by simp))⟩ (by simp only; omega) rfl (by simp <;> omega) (by simp [hst,hins3,hp0,Vs.frz,St.frz,List.take_of_length_le]) (by simp)
      exact ⟨(q1 g hg).1,by simpa using (q1 g hg).2⟩
    | some g =>
      have hgn:=hg2 g rfl
      have kg : ∀ j,j < n2 -> kphi (some g) j = none:=fun j hj=>by simp only [kphi]; rw [if_neg (by simp; omega)]
      have eD : ∀ (T0 : Option (TypeId × Nat)) (L : List Int),reV (kphi (some g)) (.d (.sl id T0 (L.map cI))) = .d (.sl id T0 (L.map cI)):=fun T0 L=>reV_id (.d (dSl cI ⟨id,T0,L⟩)) fun j hj=>kg j (by
       rcases mem_sl_ids.1 hj with h | h
       ·have:=(hid j h).2; omega
       ·simp at h)
      have e11 : reV (kphi (some g)) (.d (.sl bid bT (bl.map cI))) = .d (.sl bid bT (bl.map cI)):=reV_id (.d (dSl cI ⟨bid,bT,bl⟩)) fun j hj=>kg j (by
       rcases mem_sl_ids.1 hj with h | h
       ·have:=hbB j h; omega
       ·simp at h)
      have eD0 : ∀ (T0 : Option (TypeId × Nat)),reV (kphi (some g)) (.d (.sl id T0 [])) = .d (.sl id T0 []):=fun T0=>eD T0 []
      have hgB : B <= g:=by omega
      simp [hgB,L1,hwi,St.kill,eD,eD0,e11,List.take_of_length_le,s103_9,]
      refine ⟨by simp [idsLL,idsL,D.ids],?_⟩
      refine Back2.lead (lead_frz 49 (T:=3) (sz:=1) (es:=(insI l n).map cI) (by rw [hins]; simp)) ?_
      rintro _ ⟨γ,hs',h2,hg,rfl⟩
      obtain ⟨q1,q2⟩:=gam_at hg (k:=49) (T:=3) (sz:=1) (es:=(insI l n).map cI) (by rw [hins]; simp)
      clear hg
      simp only at h2 q1
      have hp0:=hpl (insI l n)
      have hil : (insI l n).length = l.length + 1:=by rw [hins]; simp
      refine back2 (i + 1,γ 49) ⟨by simp only; omega,fun g hg=>?_,fun h=>absurd h (q2 (by rw [hins]; simp))⟩ (by simp only; omega) rfl (by simp <;> omega) ?_ (by simp)
      ·exact ⟨(q1 g hg).1,by simpa using (q1 g hg).2⟩
      ·simp [hst,hp0,hil,Vs.frz,St.frz,List.take_of_length_le]
 ·have hn : i = bl.length:=by omega
  subst hn
  simp [hlt,List.take_of_length_le,s103_9,]
  have hul:=uniL_len al bl
  exact ⟨⟨id,some (3,1),uniL al bl⟩,⟨rfl,rfl,rfl⟩,rfl,⟨by simp only [maxLen]; omega,by simp [okI]⟩,good_ints (fun g hg=>(hid g hg).1) (fun h hn=>h (by simpa using hnone hn))⟩
end
end Go.Proofs.YtglilmkmkdkedaaGreatDoor
namespace Go.Proofs.YtglilmkmkdkedaaGreatDoor
open Go.Vs Go.Proofs Go
set_option maxRecDepth 100000
set_option maxHeartbeats 1000000
section
attribute [local simp] plI_id plStr_id map_plI map_plStr pS cP cI
theorem p_impl_pick (row cols : List Int) (hb : cols.length <= 4294967296) (hc : ∀ c ∈ cols,0 <= c /\ c < row.length) : VC Tryz.prog 120 [.d (pS cI row),.d (pS cI cols)] (fun _ r=>r = .d (pS cI (pickR cols row))):=by
 refine VC.ofL EP s120 (by kernel_rfl) Tryz.func120 (by rfl) (by kernel_rfl) (by simp [Tryz.f120]) (by simp [Tryz.f120]) s120_ok fun B hl=>?_
 simp [Tryz.f120]
 refine loop_rule (X:=Nat) (fun i=>i <= cols.length) (fun i=>[(0,.d (.pl (row.map cI))),(5,.own 8 0 i),(9,.d (.pl (cols.map cI))),(10,.d (.int .i64 cols.length)),(11,.d (.int .i64 i))])
  (fun i=>[(8,some (.row 3 1 ((pickR (cols.take i) row).map cI)))]) (fun i=>cols.length - i) 0 (by simp) (by simp) (by simp [pickR]) ?_
 intro i hs t m hi hh
 by_cases hlt : i < cols.length
 ·have hwi:=wr1 (i:=i) (by omega)
  have h1:=hc _ (List.getElem_mem hlt)
  have hst:=pickR_step hlt hc
  obtain ⟨k,hk⟩ : ∃ k : Nat,cols[i] = (k : Int):=⟨cols[i].toNat,by omega⟩
  have hkl : k < row.length:=by omega
  have hL : LenOk 8 (i + 1):=⟨by omega,by simp only [maxLen]; omega⟩
  have hpl : (pickR (cols.take i) row).length = i:=by rw [pickR_len,List.length_take]; omega
  simp only [hk,Int.toNat_natCast] at hst
  simp [hlt,hk,hkl,hL,hwi,hpl,]
  exact back (i + 1) (by omega) (by omega) rfl (by simp <;> omega) (by simp) (by simp [hst])
 ·have hn : i = cols.length:=by omega
  subst hn
  simp [List.take_of_length_le,pickR_len]
theorem w_impl_sorted (l : List (List Int)) (h1 : l.length <= 4294967296) (h2 : ∀ r ∈ l,r.length <= 4294967296) : VC Tryz.prog 105 [.d (pS (cP cI) l)] (fun _ r=>r = .d (pS (cP cI) (srtU l))):=
 VC.plain (e_impl_sorted _ l (Nat.le_refl _) h1 h2) (fun n r h=>by
  obtain ⟨y,rfl,hp,_,_⟩:=h
  have e:=er_cS (c:=cS cI) (e:=cP cI) (pl:=plS plI) (fun s=>er_cS er_cI s) y
  rw [hp] at e
  simp only [cS,cP,erL,List.cons.injEq,and_true] at e
  simp only [rp,e,pS]) (by rw [pS]; rfl)
theorem w_impl_AtomBindings (d : PDb) (a : PAtom) (hlk : lkB d a.rel = true) (har : (lkR d a.rel).ar = a.vars.length) (hv5 : a.vars.length <= 5) (hv : ∀ v ∈ a.vars,0 <= v /\ v < 5) :
  VC Tryz.prog 107 [.agg ((eDb d).map V.d),.agg ((eAtom a).map V.d)] (fun _ r=>r = .agg ((eReln ⟨(aVars a.vars).length,abR d a⟩).map V.d)):=by
 have hr:=lk_ok hlk
 have hr16:=lk_rows hlk
 obtain ⟨dl,hdl⟩ : ∃ dl,dl = d.tabs:=⟨_,rfl⟩
 have hde : (eDb d).map V.d = [V.d (.pl (dl.map eTab))]:=by rw [hdl]; simp [eDb]
 obtain ⟨nm,vs⟩:=a
 simp only at hlk har hv5 hv hr hr16
 have hav : (aVars vs).length <= 5:=by
  have:=List.length_filter_le (fun v=>vs.contains v) (rangeI 5)
  rw [rangeI_len] at this
  exact this
 have hAVm : ∀ c ∈ aVars vs,0 <= c /\ c < ((5 : Nat) : Int):=fun c hc=>by
  have:=(List.mem_filter.1 hc).1
  have:=rangeI_mem.1 this
  omega
 have hrl:=fun (t : List Int) (ht : t ∈ (lkR d nm).rows)=>(rowsOk_mem hr ht).1
 refine VC.ofL EP s107 (by kernel_rfl) Tryz.func107 (by rfl) (by kernel_rfl) (by simp [Tryz.f107]) (by simp [Tryz.f107]) s107_ok fun B hl=>?_
 simp [Tryz.f107,s107_16,eAtom,cStr,hde]
 refine call_p (w_impl_AtomVariablesA ⟨nm,vs⟩) (by simp [eAtom,cStr]) fun hs1 hh1 hl1=>?_
 simp at hh1
 obtain ⟨AV,hAV⟩ : ∃ AV,AV = aVars vs:=⟨_,rfl⟩
 rw [<- hAV] at hl1 hav hAVm ⊢
 simp [s107_16,]
 refine call_p (w_impl_LookupRelation d nm) (by simp [hde]) fun hs2 hh2 hl2=>?_
 simp at hh2
 obtain ⟨R,hR⟩ : ∃ R,R = lkR d nm:=⟨_,rfl⟩
 have hab : abR d ⟨nm,vs⟩ = srtU (abL vs R.rows):=by rw [hR]; rfl
 rw [<- hR] at hl2 har hr16 hrl ⊢
 rw [hab,hlk]
 obtain ⟨ra,rl⟩:=R
 simp only at har hr16 hrl
 subst har
 have hco : colsOk 5 vs = true:=by
  simp only [colsOk,Bool.and_eq_true,decide_eq_true_eq,List.all_eq_true,inR]
  refine ⟨hv5,fun v hm=>?_⟩
  have:=hv v hm
  have hw : IntKind.i64.wrap (5 - 1) = 4:=by decide
  rw [hw]; omega
 simp [eReln,s107_16,]
 refine call_f (w_impl_columnsFit 5 vs) (by simp) rfl fun hs3 hh3=>?_
 simp at hh3
 rw [hco]
 simp [s107_16,]
 refine loop_ruleL (X:=Nat) (fun i _=>i <= rl.length) (fun i=>[(3,.ptr 3 0 0),(4,.ptr 4 0 0),(5,.d (.pl (AV.map cI))),(6,.ptr 6 0 0),(9,.own 92 0 (abL vs (rl.take i)).length),(47,.d (.pl (rl.map (cP cI)))),(48,.d (.int .i64 rl.length)),(49,.d (.int .i64 i))])
  (fun i=>[(3,some (.box [.d (.str nm),.d (.pl (vs.map cI))])),(4,some (.box [.d (.int .i64 0),.d (.sl none none [])])),(6,some (.box [.d (.int .i64 AV.length),.d (.sl none none [])])),(92,some (.row 26 1 ((abL vs (rl.take i)).map (cP cI))))]) (fun i=>rl.length - i) ?_ ?_
 ·refine (lead_slot 9 92 26 1 (by omega) (by omega) (by simp)).bind ?_
  rintro _ rfl
  exact Lead.of ⟨0,by omega,rfl,rfl,Nat.le_refl _,by simp [abL],by simp [abL]⟩
 intro i hs t m hi hh
 by_cases hlt : i < rl.length
 ·have hwi:=wr1 (i:=i) (by omega)
  have hst:=abL_succ (vs:=vs) hlt
  have hal:=abL_len vs (rl.take i)
  rw [List.length_take] at hal
  obtain ⟨row,hrow⟩ : ∃ row,row = rl[i]:=⟨_,rfl⟩
  have hrvl : row.length = vs.length:=by
   have:=hrl _ (List.getElem_mem hlt)
   rw [<- hrow] at this; omega
  rw [<- hrow] at hst
  obtain ⟨AL,hAL⟩ : ∃ AL,AL = abL vs (rl.take i):=⟨_,rfl⟩
  rw [<- hAL] at hst hal ⊢
  have hL : LenOk 24 (AL.length + 1):=⟨by omega,by simp only [maxLen]; omega⟩
  have L5 : LenOk 8 5:=⟨by omega,by simp only [maxLen]; omega⟩
  refine anyQ2 fun Q=>?_
  simp [hlt,<- hrow,L5,s107_16,]
  refine loop_rule (X:=Nat) (fun j=>j <= vs.length) (fun j=>[(3,.ptr 3 0 0),(4,.ptr 4 0 0),(5,.d (.pl (AV.map cI))),(6,.ptr 6 0 0),(9,.own 92 0 AL.length),(11,.d (.pl (row.map cI))),(12,.own 53 0 5),(13,.d (.bool (fitJ vs row j))),(47,.d (.pl (rl.map (cP cI)))),(48,.d (.int .i64 rl.length)),(49,.d (.int .i64 i)),(55,.d (.pl (vs.map cI))),(56,.d (.int .i64 vs.length)),(57,.d (.int .i64 j))])
   (fun j=>[(3,some (.box [.d (.str nm),.d (.pl (vs.map cI))])),(4,some (.box [.d (.int .i64 0),.d (.sl none none [])])),(6,some (.box [.d (.int .i64 AV.length),.d (.sl none none [])])),(53,some (.row 3 1 ((valJ vs row j).map cI))),(92,some (.row 26 1 (AL.map (cP cI))))]) (fun j=>vs.length - j) 0 (by simp) (by simp [fitJ_zero]) (by simp [valJ_zero]) ?_
  intro j hs4 t m hj hh4
  by_cases hjl : j < vs.length
  ·have hwj:=wr1 (i:=j) (by omega)
   have hjr : j < row.length:=by omega
   have hvj:=hv _ (List.getElem_mem hjl)
   obtain ⟨v,hve⟩ : ∃ v : Nat,vs[j] = (v : Int):=⟨vs[j].toNat,by omega⟩
   have hv5' : v < 5:=by omega
   have hix:=(idxL_mem (List.getElem_mem hjl)).1
   obtain ⟨p,hp⟩ : ∃ p : Nat,idxL vs (v : Int) = (p : Int):=by
    rw [<- hve]
    have:=idxL_ge vs vs[j]
    have h2 : vs.contains vs[j] = true:=by simp
    rw [h2] at this
    exact ⟨(idxL vs vs[j]).toNat,by have:=of_decide_eq_true this; omega⟩
   have hpr : p < row.length:=by rw [hve,hp] at hix; omega
   have hf:=fitJ_succ vs row j
   have hvs:=valJ_succ (vs:=vs) (row:=row) hjl hjr
   have hvl:=valJ_len vs row j
   rw [getD_el _ hjl,getD_el _ hjr,lookV,hve,hp,Int.toNat_natCast,getD_el _ hpr] at hf
   rw [hve,Int.toNat_natCast] at hvs
   simp [hjl,hve,s107_16,]
   refine call_f (w_impl_indexOf vs v) (by simp) rfl fun hs5 hh5=>?_
   simp at hh5
   rw [hp]
   cases hfj : fitJ vs row j
   ·rw [hfj] at hf
    simp [hwj,hjr,hpr,hv5',hvl,-List.map_set,s107_16,]
    exact back (j + 1) (by omega) (by omega) rfl (by simp <;> omega) (by simp [hf]) (by rw [hvs]; simp)
   ·rw [hfj] at hf
    simp [hwj,hjr,hpr,hv5',hvl,-List.map_set,s107_16,]
    exact back (j + 1) (by omega) (by omega) rfl (by simp <;> omega) (by simp [hf]) (by rw [hvs]; simp)
  ·have hn : j = vs.length:=by omega
   subst hn
   have hvl5:=valJ_len vs row vs.length
   rw [valJ_all hrvl] at hvl5
   rw [fitJ_all hrvl,valJ_all hrvl]
   cases hfr : fitR vs row
   ·simp [hwi,s107_16,]
    refine back2 (i + 1) (by omega) (by omega) rfl (by simp <;> omega) ?_ ?_
    ·rw [hst,hfr]; simp
    ·rw [hst,hfr]; simp
   ·simp [hwi,s107_16,]
    refine call_p (p_impl_pick (valL vs row) AV (by omega) (fun c hc=>by rw [hvl5]; exact hAVm c hc)) (by simp [List.take_of_length_le,hvl5]) fun hs5 hh5 hl5=>?_
    simp at hh5
    simp [hwi,hL,List.take_of_length_le,s107_16,]
    refine back2 (i + 1) (by omega) (by omega) rfl (by simp <;> omega) ?_ ?_
    ·rw [hst,hfr]; simp [hAV]
    ·rw [hst,hfr]; simp [hAV]
 ·have hn : i = rl.length:=by omega
  subst hn
  simp [s107_16,]
  refine call_p (w_impl_sorted (abL vs rl) (by have:=abL_len vs rl; omega) (fun r hr=>by have:=abL_el r hr; omega)) (by simp [List.take_of_length_le]) fun hs5 hh5 hl5=>?_
  simp at hh5
  simp [s107_16,]
end
end Go.Proofs.YtglilmkmkdkedaaGreatDoor
namespace Go.Proofs.YtglilmkmkdkedaaGreatDoor
open Go.Vs Go.Proofs Go
set_option maxRecDepth 100000
set_option maxHeartbeats 1000000
section
attribute [local simp] plI_id plStr_id map_plI map_plStr pS cP cI
theorem e_impl_unite (a b : List Int) (hl : a.length + b.length <= 1000) : VC Tryz.prog 103 [.d (pS cI a),.d (pS cI b)] (fun n r=>∃ y : Ints,r = .d (dSl cI y) /\ y.xs = uniL a b /\ okS okI y /\ Good (cS cI y) (whS whI y) n):=by
 refine VC.untrack (t_impl_unite ⟨none,none,[]⟩ ⟨none,none,[]⟩ (by simp)) (by simp [pnVL,V.pn,D.pn]) fun As h1 h2 h3=>?_
 obtain ⟨x,y,rfl,⟨hx,tx,_⟩,hy,ty,_⟩:=rp_args2 h1 h2 h3
 obtain ⟨s,rfl,e1⟩:=rp_sl tk_I hx tx
 obtain ⟨t,rfl,e2⟩:=rp_sl tk_I hy ty
 simp [plS] at e1 e2
 have:=t_impl_unite s t (by rw [e1,e2]; exact hl)
 rw [e1,e2] at this
 exact this
theorem p_impl_unite (a b : List Int) (hl : a.length + b.length <= 1000) : VC Tryz.prog 103 [.d (pS cI a),.d (pS cI b)] (fun _ r=>r = .d (pS cI (uniL a b))):=by
 refine VC.plain (e_impl_unite a b hl) (fun n r h=>?_) (by rw [pS]; rfl)
 obtain ⟨y,rfl,e1,_,_⟩:=h
 have e:=er_cS (c:=cI) (e:=cI) (pl:=plI) er_cI y
 simp [plS,e1,cS,erL] at e
 simp only [rp,e,pS]
theorem w_impl_AtomRelation (d : PDb) (a : PAtom) (hlk : lkB d a.rel = true) (har : (lkR d a.rel).ar = a.vars.length) (hv5 : a.vars.length <= 5) (hv : ∀ v ∈ a.vars,0 <= v /\ v < 5) :
  VC Tryz.prog 57 [.agg ((eDb d).map V.d),.agg ((eAtom a).map V.d)] (fun _ r=>r = .agg ((eVRel ⟨aVars a.vars,⟨(aVars a.vars).length,abR d a⟩⟩).map V.d)):=by
 obtain ⟨dl,hdl⟩ : ∃ dl,dl = d.tabs:=⟨_,rfl⟩
 have hde : (eDb d).map V.d = [V.d (.pl (dl.map eTab))]:=by rw [hdl]; simp [eDb]
 obtain ⟨nm,vs⟩:=a
 refine VC.ofL EP s57 (by kernel_rfl) Tryz.func57 (by rfl) (by kernel_rfl) (by simp [Tryz.f57]) (by simp [Tryz.f57]) s57_ok fun B hl=>?_
 simp [Tryz.f57,s57_1,eAtom,cStr,hde]
 refine call_p (w_impl_AtomVariablesA ⟨nm,vs⟩) (by simp [eAtom,cStr]) fun hs1 hh1 hl1=>?_
 simp at hh1
 simp [s57_1,]
 refine call_p (w_impl_AtomBindings d ⟨nm,vs⟩ hlk har hv5 hv) (by simp [eAtom,cStr,hde]) fun hs2 hh2 hl2=>?_
 simp at hh2
 simp [eReln,eVRel,s57_1,]
theorem w_impl_IsQueryFor (d : PDb) (q : PQuery) : VC Tryz.prog 52 [.agg ((eDb d).map V.d),.agg ((eQuery q).map V.d)] (fun _ r=>r = .d (.bool (qryFor d q))):=by
 obtain ⟨dl,hdl⟩ : ∃ dl,dl = d.tabs:=⟨_,rfl⟩
 have hde : (eDb d).map V.d = [V.d (.pl (dl.map eTab))]:=by rw [hdl]; simp [eDb]
 have hqe : (eQuery q).map V.d = [V.d (.int .i64 q.n),V.d (.pl (q.atoms.map eAtom)),V.d (.pl (q.out.map cI))]:=by simp [eQuery]
 refine VC.ofL EP s52 (by kernel_rfl) Tryz.func52 (by rfl) (by kernel_rfl) (by simp [Tryz.f52]) (by simp [Tryz.f52]) s52_ok fun B hl=>?_
 simp [Tryz.f52,hde,hqe]
 refine call_f (w_impl_IsValidQuery q) (by simp [hqe]) rfl fun hs1 hh1=>?_
 simp at hh1
 cases hq : queryOk q
 ·simp [qryFor,hq,]
 simp []
 refine call_f (w_impl_IsValidDatabase d) (by simp [hde]) rfl fun hs2 hh2=>?_
 simp at hh2
 cases hd : dbOk d
 ·simp [qryFor,hq,hd,]
 simp []
 have hb : ∀ b,qryFor d q = b ↔ (q.atoms.all fun a=>lkB d a.rel && decide ((lkR d a.rel).ar = a.vars.length)) = b:=fun b=>by simp only [qryFor,hq,hd,Bool.true_and]
 refine loop_rule (X:=Nat) (fun i=>i <= q.atoms.length /\ AllTo (fun a=>lkB d a.rel && decide ((lkR d a.rel).ar = a.vars.length)) q.atoms i) (fun i=>[(2,.ptr 2 0 0),(3,.ptr 3 0 0),(18,.d (.pl (q.atoms.map eAtom))),(19,.d (.int .i64 q.atoms.length)),(20,.d (.int .i64 i))])
  (fun i=>[(2,some (.box [.d (.pl (dl.map eTab))])),(3,some (.box [.d (.int .i64 q.n),.d (.pl (q.atoms.map eAtom)),.d (.pl (q.out.map cI))]))]) (fun i=>q.atoms.length - i) 0 ⟨by simp,allTo_zero⟩ (by simp) (by simp) ?_
 rintro i hs t m ⟨hi,hat⟩ hh
 have hal : q.atoms.length <= 4:=queryOk_a4 hq
 by_cases hlt : i < q.atoms.length
 ·have hwi:=wr1 (i:=i) (by omega)
  obtain ⟨⟨nm,vs⟩,ha⟩ : ∃ a,a = q.atoms[i]:=⟨_,rfl⟩
  have hnot:=fun h=>all_bad (l:=q.atoms) (p:=fun a=>lkB d a.rel && decide ((lkR d a.rel).ar = a.vars.length)) hlt h
  have hst:=allTo_step hat hlt
  rw [<- ha] at hnot hst
  simp [hlt,<- ha,eAtom,cStr]
  refine call_p (w_impl_LookupRelation d nm) (by simp [hde]) fun hs3 hh3 hl3=>?_
  simp at hh3
  cases hlk : lkB d nm
  ·have:=hnot (by simp [hlk])
   simp [this,hb,eReln,]
  by_cases har : (lkR d nm).ar = vs.length
  ·simp [hwi,har,eReln,]
   exact back (i + 1) ⟨by omega,hst (by simp [hlk,har])⟩ (by omega) rfl (by simp <;> omega) (by simp) (by simp)
  ·have:=hnot (by simp [hlk,har])
   simp [this,har,hb,eReln,]
 ·have:=allTo_done hat (by omega)
  simp [hlt,this,hb,]
end
end Go.Proofs.YtglilmkmkdkedaaGreatDoor
namespace Go.Proofs.YtglilmkmkdkedaaGreatDoor
open Go.Vs Go.Proofs Go
set_option maxRecDepth 100000
set_option maxHeartbeats 1000000
section
attribute [local simp] plI_id plStr_id map_plI map_plStr pS cP cI
theorem w_spec_IsQueryFor (d : PDb) (q : PQuery) (hst : ∀ t ∈ d.tabs,t.name.length <= maxLen) (hsq : ∀ a ∈ q.atoms,a.rel.length <= maxLen) : VC Tryz.prog 43 [.agg ((eDb d).map V.d),.agg ((eQuery q).map V.d)] (fun _ r=>r = .d (.bool (qryFor d q))):=by
 obtain ⟨dl,hdl⟩ : ∃ dl,dl = d.tabs:=⟨_,rfl⟩
 have hde : (eDb d).map V.d = [V.d (.pl (dl.map eTab))]:=by rw [hdl]; simp [eDb]
 have hqe : (eQuery q).map V.d = [V.d (.int .i64 q.n),V.d (.pl (q.atoms.map eAtom)),V.d (.pl (q.out.map cI))]:=by simp [eQuery]
 refine VC.ofL EP s43 (by kernel_rfl) Tryz.func43 (by rfl) (by kernel_rfl) (by simp [Tryz.f43]) (by simp [Tryz.f43]) s43_ok fun B hl=>?_
 simp [hde,hqe,lnVL,V.ln,D.ln,maxLen] at hl
 simp [Tryz.f43,s43_4,s43_5,hde,hqe]
 refine loop_rule (X:=Nat) (fun i=>i <= q.atoms.length /\ AllTo (fun a=>lkB d a.rel && decide ((lkR d a.rel).ar = a.vars.length)) q.atoms i) (fun i=>[(2,.ptr 2 0 0),(3,.ptr 3 0 0),(5,.d (.int .i64 i))])
  (fun i=>[(2,some (.box [.d (.pl (dl.map eTab))])),(3,some (.box [.d (.int .i64 q.n),.d (.pl (q.atoms.map eAtom)),.d (.pl (q.out.map cI))]))]) (fun i=>q.atoms.length - i) 0 ⟨by simp,allTo_zero⟩ (by simp) (by simp) ?_
 rintro i hs t m ⟨hi,hat⟩ hh
 by_cases hlt : i < q.atoms.length
 ·have hwi:=wr1 (i:=i) (by omega)
  obtain ⟨⟨nm,vs⟩,ha⟩ : ∃ a,a = q.atoms[i]:=⟨_,rfl⟩
  have hnot:=fun h=>all_bad (l:=q.atoms) (p:=fun a=>lkB d a.rel && decide ((lkR d a.rel).ar = a.vars.length)) hlt h
  have hst':=allTo_step hat hlt
  have hb : (q.atoms.all fun a=>lkB d a.rel && decide ((lkR d a.rel).ar = a.vars.length)) = false -> qryFor d q = false:=fun h=>by simp only [qryFor,h,Bool.and_false]
  rw [<- ha] at hnot hst'
  simp [hlt,<- ha,s43_5,eAtom,cStr]
  refine cutT (X:=Unit) (fun _ _=>True) (fun _=>[(2,.ptr 2 0 0),(3,.ptr 3 0 0),(5,.d (.int .i64 i)),(6,.ptr 6 0 0),(7,.d (.bool (lkB d nm)))])
   (fun _=>[(2,some (.box [.d (.pl (dl.map eTab))])),(3,some (.box [.d (.int .i64 q.n),.d (.pl (q.atoms.map eAtom)),.d (.pl (q.out.map cI))])),(6,some (.box ((eReln (lkR d nm)).map V.d)))]) ?_ ?_
  ·intro K hK
   simp [hlt,<- ha,eAtom,cStr,s43_4,]
   repeat' apply And.intro
   all_goals
    refine call_p (w_spec_LookupRelation d nm hst) (by simp [hde]) fun hs3 hh3 hl3=>?_
    simp at hh3
    simp [eReln,s43_4,]
    exact hK () _ trivial rfl rfl (by simp <;> omega) (by simp) (by simp [eReln])
  rintro ⟨⟩ hs3 t m - hh3
  cases hlk : lkB d nm
  ·have:=hb (hnot (by simp [hlk]))
   simp [this,eReln,s43_4,s43_5,]
  by_cases har : (lkR d nm).ar = vs.length
  ·simp [hwi,har,hlt,<- ha,eAtom,cStr,eReln,s43_4,s43_5,]
   exact back (i + 1) ⟨by omega,hst' (by simp [hlk,har])⟩ (by omega) rfl (by simp <;> omega) (by simp) (by simp)
  ·have:=hb (hnot (by simp [hlk,har]))
   simp [this,har,hlt,<- ha,eAtom,cStr,eReln,s43_4,s43_5,]
 ·have:=allTo_done hat (by omega)
  simp [hlt,s43_4,s43_5,]
  refine call_f (w_spec_IsValidQuery q hsq) (by simp [hqe]) rfl fun hs1 hh1=>?_
  simp at hh1
  cases hq : queryOk q
  ·simp [qryFor,hq,s43_4,s43_5,]
  simp [s43_4,s43_5,]
  refine call_f (w_spec_IsValidDatabase d hst) (by simp [hde]) rfl fun hs2 hh2=>?_
  simp at hh2
  simp [qryFor,hq,this,s43_4,s43_5,]
end
end Go.Proofs.YtglilmkmkdkedaaGreatDoor
namespace Go.Proofs.YtglilmkmkdkedaaGreatDoor
open Go.Vs Go.Proofs Go
set_option maxRecDepth 100000
set_option maxHeartbeats 1000000
section
attribute [local simp] plI_id plStr_id map_plI map_plStr pS cP cI cStr
theorem w_spec_AtomVariables (a : PAtom) (hst : a.rel.length <= maxLen) : VC Tryz.prog 83 [.agg ((eAtom a).map V.d)] (fun _ r=>r = .d (pS cI (aVars a.vars))):=by
 obtain ⟨nm,vs⟩:=a
 refine VC.ofL EP s83 (by kernel_rfl) Tryz.func83 (by rfl) (by kernel_rfl) (by simp [Tryz.f83]) (by simp [Tryz.f83]) s83_ok fun B hl=>?_
 simp [Tryz.f83,eAtom,cStr]
 refine loop_rule (X:=Nat) (fun i=>i <= 5) (fun i=>[(1,.ptr 1 0 0),(3,.own 5 0 (avI vs i).length),(4,.d (.int .i64 i))]) (fun i=>[(1,some (.box [.d (.str nm),.d (.pl (vs.map cI))])),(5,some (.row 3 1 ((avI vs i).map cI)))]) (fun i=>5 - i) 0 (by omega) (by simp [avI_zero]) (by simp [avI_zero]) ?_
 intro i hs t m hi hh
 by_cases hlt : i < 5
 ·have hwi:=wr1 (i:=i) (by omega)
  have hlz : (i : Int) < 5:=by omega
  have hlen : (avI vs i).length <= i:=by
   have:=List.length_filter_le (fun v=>vs.contains v) (rangeI i)
   rw [rangeI_len] at this
   exact this
  have hL : LenOk 8 ((avI vs i).length + 1):=⟨by omega,by simp only [maxLen]; omega⟩
  have hs' : avI vs (i + 1) = avI vs i ++ if vs.contains (i : Int) then [(i : Int)] else []:=by
   rw [avI,avI,rangeI_succ,List.filter_append]
   cases h : vs.contains (i : Int) <;> simp only [List.filter_cons,List.filter_nil,h] <;> rfl
  obtain ⟨L,hLd⟩ : ∃ L,L = avI vs i:=⟨_,rfl⟩
  rw [<- hLd] at hL hs' hlen ⊢
  refine anyQ fun Q=>?_
  simp [hlz,]
  refine call_f (w_spec_ContainsVariable ⟨nm,vs⟩ i) (by simp [eAtom,cStr]) rfl fun hs1 hh1=>?_
  simp at hh1
  cases hc : vs.contains (i : Int)
  ·rw [hc] at hs'
   simp only [Bool.false_eq_true,if_false,List.append_nil] at hs'
   simp [hwi,]
   refine back (i + 1) (by omega) (by omega) rfl (by simp <;> omega) ?_ ?_
   ·rw [hs']; simp
   ·rw [hs']; simp
  ·rw [hc] at hs'
   simp only [if_true] at hs'
   simp [hwi,hL,List.take_of_length_le,]
   refine back (i + 1) (by omega) (by omega) rfl (by simp <;> omega) ?_ ?_
   ·rw [hs']; simp
   ·rw [hs']; simp
 ·have hn : i = 5:=by omega
  subst hn
  have e : avI vs 5 = aVars vs:=rfl
  rw [e]
  simp [List.take_of_length_le,]
theorem w_spec_AtomBindings (d : PDb) (a : PAtom) (hst : ∀ t ∈ d.tabs,t.name.length <= maxLen) (hsa : a.rel.length <= maxLen) (hlk : lkB d a.rel = true) (har : (lkR d a.rel).ar = a.vars.length) (hv5 : a.vars.length <= 5) (hv : ∀ v ∈ a.vars,0 <= v /\ v < 5) :
  VC Tryz.prog 84 [.agg ((eDb d).map V.d),.agg ((eAtom a).map V.d)] (fun _ r=>r = .agg ((eReln ⟨(aVars a.vars).length,abR d a⟩).map V.d)):=by
 have hr:=lk_ok hlk
 have hr16:=lk_rows hlk
 obtain ⟨dl,hdl⟩ : ∃ dl,dl = d.tabs:=⟨_,rfl⟩
 have hde : (eDb d).map V.d = [V.d (.pl (dl.map eTab))]:=by rw [hdl]; simp [eDb]
 obtain ⟨nm,vs⟩:=a
 simp only at hlk har hv5 hv hr hr16 hsa
 have hav : (aVars vs).length <= 5:=aVars_len5 vs
 obtain ⟨hnB,hnR⟩:=ab_new hlk har hv5 hv
 have hrl:=fun (t : List Int) (ht : t ∈ (lkR d nm).rows)=>(rowsOk_mem hr ht).1
 have hAm : ∀ v ∈ vs,v ∈ aVars vs:=fun v h=>aVars_mem.2 ⟨h,hv v h⟩
 have hAs : ∀ v ∈ aVars vs,v ∈ vs:=fun v h=>(aVars_mem.1 h).1
 refine VC.ofL EP s84 (by kernel_rfl) Tryz.func84 (by rfl) (by kernel_rfl) (by simp [Tryz.f84]) (by simp [Tryz.f84]) s84_ok fun B hl=>?_
 simp [Tryz.f84,s84_14,s84_20,s84_14,s84_20,eAtom,cStr,hde]
 refine call_p (w_spec_AtomVariables ⟨nm,vs⟩ hsa) (by simp [eAtom,cStr]) fun hs1 hh1 hl1=>?_
 simp at hh1
 obtain ⟨AV,hAV⟩ : ∃ AV,AV = aVars vs:=⟨_,rfl⟩
 have hF : ∀ row,abF vs row = AV.map (lookV vs row):=fun row=>by rw [hAV]; rfl
 have hFa : ∀ row v,v ∈ AV -> (abF vs row).getD (idxL AV v).toNat 0 = lookV vs row v:=fun row v h=>by rw [hAV] at h ⊢; exact abF_at h
 rw [<- hAV] at hl1 hav hAm hAs hnB hnR ⊢
 simp [s84_14,s84_20,]
 refine call_p (w_spec_LookupRelation d nm hst) (by simp [hde]) fun hs2 hh2 hl2=>?_
 simp at hh2
 obtain ⟨R,hR⟩ : ∃ R,R = lkR d nm:=⟨_,rfl⟩
 rw [<- hR] at hl2 har hr16 hrl hnB hnR ⊢
 rw [hlk]
 obtain ⟨ra,rl⟩:=R
 simp only at har hr16 hrl hnB hnR
 subst har
 have hzl : ∀ i,(abZ vs (rl.take i)).length <= i:=fun i=>by
  have:=abZ_len vs (rl.take i); rw [List.length_take] at this; omega
 simp [eReln,s84_14,s84_20,]
 refine loop_rule (X:=Nat) (fun i=>i <= rl.length) (fun i=>[(3,.ptr 3 0 0),(4,.ptr 4 0 0),(5,.d (.pl (AV.map cI))),(6,.ptr 6 0 0),(9,.own 41 0 (abZ vs (rl.take i)).length),(10,.d (.int .i64 i))])
  (fun i=>[(3,some (.box [.d (.str nm),.d (.pl (vs.map cI))])),(4,some (.box [.d (.int .i64 0),.d (.sl none none [])])),(6,some (.box [.d (.int .i64 vs.length),.d (.pl (rl.map (cP cI)))])),(41,some (.row 26 1 ((abZ vs (rl.take i)).map (cP cI))))]) (fun i=>rl.length - i) 0 (by omega) (by simp [abZ]) (by simp [abZ]) ?_
 intro i hs t m hi hh
 by_cases hlt : i < rl.length
 ·have hwi:=wr1 (i:=i) (by omega)
  have hst:=abZ_succ (vs:=vs) hlt
  have hal:=hzl i
  obtain ⟨row,hrow⟩ : ∃ row,row = rl[i]:=⟨_,rfl⟩
  have hrvl : row.length = vs.length:=by
   have:=hrl _ (List.getElem_mem hlt)
   rw [<- hrow] at this; omega
  rw [<- hrow] at hst
  obtain ⟨AL,hAL⟩ : ∃ AL,AL = abZ vs (rl.take i):=⟨_,rfl⟩
  rw [<- hAL] at hst hal ⊢
  have hL : LenOk 24 (AL.length + 1):=⟨by omega,by simp only [maxLen]; omega⟩
  have hFr:=hF row
  have hFar:=hFa row
  obtain ⟨F,hFd⟩ : ∃ F,F = abF vs row:=⟨_,rfl⟩
  rw [<- hFd] at hFr hFar hst
  have hFl : F.length = AV.length:=by rw [hFr]; simp
  refine anyQ fun Q=>?_
  simp [hlt,s84_14,s84_20,]
  refine loop_rule (X:=Nat) (fun j=>j <= AV.length) (fun j=>[(3,.ptr 3 0 0),(4,.ptr 4 0 0),(5,.d (.pl (AV.map cI))),(6,.ptr 6 0 0),(9,.own 41 0 AL.length),(10,.d (.int .i64 i)),(11,.own 49 0 j),(12,.d (.int .i64 j))])
   (fun j=>[(3,some (.box [.d (.str nm),.d (.pl (vs.map cI))])),(4,some (.box [.d (.int .i64 0),.d (.sl none none [])])),(6,some (.box [.d (.int .i64 vs.length),.d (.pl (rl.map (cP cI)))])),(41,some (.row 26 1 (AL.map (cP cI)))),(49,some (.row 3 1 ((F.take j).map cI)))]) (fun j=>AV.length - j) 0 (by omega) (by simp) (by simp) ?_
  intro j hs4 t m hj hh4
  have hh4' : hs <= hs4:=hh4
  by_cases hjl : j < AV.length
  ·have hwj:=wr1 (i:=j) (by omega)
   have hvm:=hAs _ (List.getElem_mem hjl)
   have hix:=(idxL_mem hvm).1
   obtain ⟨p,hp⟩ : ∃ p : Nat,idxL vs AV[j] = (p : Int):=by
    have:=idxL_ge vs AV[j]
    have h2 : vs.contains AV[j] = true:=List.contains_iff_mem.2 hvm
    rw [h2] at this
    exact ⟨(idxL vs AV[j]).toNat,by have:=of_decide_eq_true this; omega⟩
   have hpr : p < row.length:=by rw [hp] at hix; omega
   have hjF : j < F.length:=by omega
   have hFj : F[j] = row[p]:=by
    have : F[j] = lookV vs row AV[j]:=by simp only [hFr,List.getElem_map]
    rw [this,lookV,hp,Int.toNat_natCast,getD_el _ hpr]
   have htk:=List.take_succ_eq_append_getElem hjF
   rw [hFj] at htk
   have htk' : (F.map cI).take (j + 1) = (F.map cI).take j ++ [[D.int .i64 row[p]]]:=by rw [<- List.map_take,htk,List.map_append,List.map_take]; simp
   have hrp : p < rl[i].length:=by rw [<- hrow]; exact hpr
   have hmin : min j F.length = j:=by omega
   have L8 : LenOk 8 (j + 1):=⟨by omega,by simp only [maxLen]; omega⟩
   simp [hlt,hjl,<- hrow,s84_14,s84_20,]
   repeat' apply And.intro
   all_goals
    refine call_f (w_spec_l7Find vs AV[j]) (by simp) rfl fun hs5 hh5=>?_
    simp at hh5
    rw [hp]
    simp [hlt,hjl,<- hrow,hpr,hwj,L8,hmin,List.take_of_length_le,s84_14,s84_20,]
    exact back (j + 1) (by omega) (by omega) rfl (by simp <;> omega) (by simp) (by simp [htk'])
  have hn : j = AV.length:=by omega
  subst hn
  have hFt : F.take AV.length = F:=List.take_of_length_le (by omega)
  rw [hFt]
  simp [hFl,s84_14,s84_20,]
  refine loop_rule (X:=Nat) (fun j=>j <= vs.length) (fun j=>[(3,.ptr 3 0 0),(4,.ptr 4 0 0),(5,.d (.pl (AV.map cI))),(6,.ptr 6 0 0),(9,.own 41 0 AL.length),(10,.d (.int .i64 i)),(11,.own 49 0 AV.length),(13,.d (.bool (fitJ vs row j))),(14,.d (.int .i64 j))])
   (fun j=>[(3,some (.box [.d (.str nm),.d (.pl (vs.map cI))])),(4,some (.box [.d (.int .i64 0),.d (.sl none none [])])),(6,some (.box [.d (.int .i64 vs.length),.d (.pl (rl.map (cP cI)))])),(41,some (.row 26 1 (AL.map (cP cI)))),(49,some (.row 3 1 (F.map cI)))]) (fun j=>vs.length - j) 0 (by omega) (by simp [fitJ_zero]) (by simp) ?_
  intro j hs6 t m hj2 hh6
  have hh6' : hs4 <= hs6:=hh6
  by_cases hjl2 : j < vs.length
  ·have hwj:=wr1 (i:=j) (by omega)
   have hvm:=hAm _ (List.getElem_mem hjl2)
   have hix:=(idxL_mem hvm).1
   obtain ⟨p,hp⟩ : ∃ p : Nat,idxL AV vs[j] = (p : Int):=by
    have:=idxL_ge AV vs[j]
    have h2 : AV.contains vs[j] = true:=List.contains_iff_mem.2 hvm
    rw [h2] at this
    exact ⟨(idxL AV vs[j]).toNat,by have:=of_decide_eq_true this; omega⟩
   have hpl : p < AV.length:=by rw [hp] at hix; omega
   have hpF : p < F.length:=by omega
   have hjr : j < row.length:=by omega
   have hFp:=hFar vs[j] hvm
   rw [hp,Int.toNat_natCast,getD_el _ hpF] at hFp
   have hf:=fitJ_succ vs row j
   rw [getD_el _ hjl2,getD_el _ hjr,<- hFp] at hf
   simp [hFl,hlt,hjl2,<- hrow,s84_14,s84_20,]
   refine call_f (w_spec_l7Find AV vs[j]) (by simp) rfl fun hs7 hh7=>?_
   simp at hh7
   rw [hp]
   cases hfj : fitJ vs row j
   ·rw [hfj] at hf
    simp [hFl,hwj,s84_14,s84_20,]
    try (repeat' apply And.intro)
    all_goals exact back (j + 1) (by omega) (by omega) rfl (by simp <;> omega) (by simp [hf]) (by simp)
   ·rw [hfj] at hf
    simp [hFl,hlt,<- hrow,hwj,hjr,hpl,hpF,s84_14,s84_20,]
    try (repeat' apply And.intro)
    all_goals exact back (j + 1) (by omega) (by omega) rfl (by simp <;> omega) (by simp [hf]) (by simp)
  have hn2 : j = vs.length:=by omega
  subst hn2
  rw [fitJ_all hrvl]
  cases hfr : fitR vs row
  ·simp [hFl,hwi,s84_14,s84_20,]
   refine back (i + 1) (by omega) (by omega) rfl (by simp <;> omega) ?_ ?_
   ·rw [hst,hfr]; simp
   ·rw [hst,hfr]; simp
  ·simp [hwi,hL,List.take_of_length_le,hFl,s84_14,s84_20,]
   refine back (i + 1) (by omega) (by omega) rfl (by simp <;> omega) ?_ ?_
   ·rw [hst,hfr]; simp
   ·rw [hst,hfr]; simp [List.take_of_length_le,hFl]
 ·have hn : i = rl.length:=by omega
  subst hn
  have hzz:=hzl rl.length
  rw [List.take_length] at hzz ⊢
  simp [s84_14,s84_20,]
  refine call_p (w_spec_NewRelation AV.length (abZ vs rl) (by omega) (fun x hx=>by
   rw [abZ,List.mem_map] at hx; obtain ⟨r,_,rfl⟩:=hx; rw [abF_len,<- hAV]; omega)) (by simp [List.take_of_length_le]) fun hs5 hh5 hl5=>?_
  simp at hh5
  rw [hnB,hnR]
  simp [eReln,s84_14,s84_20,]
theorem w_spec_AtomRelation (d : PDb) (a : PAtom) (hst : ∀ t ∈ d.tabs,t.name.length <= maxLen) (hsa : a.rel.length <= maxLen) (hlk : lkB d a.rel = true) (har : (lkR d a.rel).ar = a.vars.length) (hv5 : a.vars.length <= 5) (hv : ∀ v ∈ a.vars,0 <= v /\ v < 5) :
  VC Tryz.prog 45 [.agg ((eDb d).map V.d),.agg ((eAtom a).map V.d)] (fun _ r=>r = .agg ((eVRel (abV d a)).map V.d)):=by
 obtain ⟨dl,hdl⟩ : ∃ dl,dl = d.tabs:=⟨_,rfl⟩
 have hde : (eDb d).map V.d = [V.d (.pl (dl.map eTab))]:=by rw [hdl]; simp [eDb]
 have hab:=w_spec_AtomBindings d a hst hsa hlk har hv5 hv
 have hav:=w_spec_AtomVariables a hsa
 obtain ⟨nm,vs⟩:=a
 obtain ⟨X,hX⟩ : ∃ X,X = abR d ⟨nm,vs⟩:=⟨_,rfl⟩
 rw [abV,<- hX]
 rw [<- hX] at hab
 refine VC.ofL EP s45 (by kernel_rfl) Tryz.func45 (by rfl) (by kernel_rfl) (by simp [Tryz.f45]) (by simp [Tryz.f45]) s45_ok fun B hl=>?_
 simp [Tryz.f45,s45_1,s45_1,eAtom,cStr,hde]
 refine call_p hav (by simp [eAtom,cStr]) fun hs1 hh1 hl1=>?_
 simp at hh1
 simp [s45_1,]
 refine call_p hab (by simp [eAtom,cStr,hde]) fun hs2 hh2 hl2=>?_
 simp at hh2
 simp [eReln,eVRel,s45_1,]
end
end Go.Proofs.YtglilmkmkdkedaaGreatDoor
namespace Go.Proofs.YtglilmkmkdkedaaGreatDoor
open Go.Vs Go.Proofs Go
set_option maxRecDepth 100000
set_option maxHeartbeats 1000000
section
attribute [local simp] plI_id plStr_id map_plI map_plStr pS cP cI cStr
theorem w_spec_IsValidVarRelation (b : PVRel) : VC Tryz.prog 88 [.agg ((eVRel b).map V.d)] (fun _ r=>r = .d (.bool (vrOk b))):=by
 refine VC.ofL EP s88 (by kernel_rfl) Tryz.func88 (by rfl) (by kernel_rfl) (by simp [Tryz.f88]) (by simp [Tryz.f88]) s88_ok fun B hl=>?_
 obtain ⟨vs,⟨ar,rl⟩⟩:=b
 simp [pS,maxLen,eVRel,eReln] at hl
 have hR:=w_spec_IsValidRelation ⟨ar,rl⟩
 simp [Tryz.f88,s88_4,s88_4,eVRel,eReln]
 refine loop_rule (X:=Nat) (VI vs) (fun i=>[(1,.ptr 1 0 0),(3,.d (.int .i64 i))]) (fun _=>[(1,some (.box [.d (.pl (vs.map cI)),.d (.int .i64 ar),.d (.pl (rl.map (cP cI)))]))]) (fun i=>vs.length - i) 0 .zero (by simp) (by simp) ?_
 intro i hs t m hi hh
 have hle:=hi.le
 by_cases hlt : i < vs.length
 ·have hwi:=wr1 (i:=i) (by omega)
  have h4 : IntKind.i64.wrap (5 - 1) = 4:=by decide
  simp [hlt,s88_4,]
  repeat' apply And.intro
  all_goals
   refine call_f (w_spec_l1In vs[i] 0 4) (by simp) rfl fun hs1 hh1=>?_
   simp at hh1
   cases h1 : inR vs[i] 0 4
   ·have hb : vrOk ⟨vs,⟨ar,rl⟩⟩ = false:=vr_bad hlt (by show bagAt 5 vs i = false; rw [bagAt,getD_el _ hlt,h4,h1,Bool.false_and])
    simp [hb,s88_4,]
   by_cases h0 : i = 0
   ·subst h0
    have hwi0 : IntKind.i64.wrap 1 = 1:=by simpa using hwi
    have hok : bagAt 5 vs 0 = true:=by rw [bagAt,getD_el _ hlt,h4,h1,Bool.true_and]; simp [ascAt]
    simp [hwi0,s88_4,]
    exact back 1 (hi.step hlt hok) (by omega) rfl (by simp <;> omega) (by simp) (by simp)
   ·have h0' : 0 < i:=by omega
    have hw : IntKind.i64.wrap ((i : Int) - 1) = ((i - 1 : Nat) : Int):=by rw [wrap64_of (by omega) (by omega)]; omega
    have hl1 : i - 1 < vs.length:=by omega
    have hat:=ascAt_eq (b:=vs) (by omega) hlt
    by_cases he : vs[i - 1] < vs[i]
    ·have hok : bagAt 5 vs i = true:=by rw [bagAt,getD_el _ hlt,h4,h1,Bool.true_and,hat]; simpa using he
     simp [h0',hlt,hw,hl1,show ¬ vs[i] <= vs[i - 1] by omega,hwi,s88_4,]
     exact back (i + 1) (hi.step hlt hok) (by omega) rfl (by simp <;> omega) (by simp) (by simp)
    ·have hb : vrOk ⟨vs,⟨ar,rl⟩⟩ = false:=vr_bad hlt (by show bagAt 5 vs i = false; rw [bagAt,getD_el _ hlt,h4,h1,Bool.true_and,hat]; simpa using he)
     simp [h0',hlt,hw,hl1,show vs[i] <= vs[i - 1] by omega,hb,s88_4,]
 ·have hd : vrOk ⟨vs,⟨ar,rl⟩⟩ = (rowsOk ar rl && decide (ar = vs.length)):=VI.done (b:=⟨vs,⟨ar,rl⟩⟩) hi (by show vs.length <= i; omega)
  simp [hlt,eReln,s88_4,]
  refine call_f hR (by simp [eReln]) rfl fun hs1 hh1=>?_
  simp at hh1
  rw [hd]
  cases rowsOk ar rl <;> simp [s88_4,]
theorem w_impl_IsValidVarRelation (b : PVRel) : VC Tryz.prog 102 [.agg ((eVRel b).map V.d)] (fun _ r=>r = .d (.bool (vrOk b))):=by
 refine VC.ofL EP s102 (by kernel_rfl) Tryz.func102 (by rfl) (by kernel_rfl) (by simp [Tryz.f102]) (by simp [Tryz.f102]) s102_ok fun B hl=>?_
 obtain ⟨vs,⟨ar,rl⟩⟩:=b
 simp [pS,maxLen,eVRel,eReln] at hl
 have hR:=w_impl_IsValidRelation ⟨ar,rl⟩
 simp [Tryz.f102,eVRel,eReln]
 refine loop_rule (X:=Nat) (VI vs) (fun i=>[(1,.ptr 1 0 0),(6,.d (.pl (vs.map cI))),(7,.d (.int .i64 vs.length)),(8,.d (.int .i64 i))]) (fun _=>[(1,some (.box [.d (.pl (vs.map cI)),.d (.int .i64 ar),.d (.pl (rl.map (cP cI)))]))]) (fun i=>vs.length - i) 0 .zero (by simp) (by simp) ?_
 intro i hs t m hi hh
 have hle:=hi.le
 by_cases hlt : i < vs.length
 ·have hwi:=wr1 (i:=i) (by omega)
  have h4 : IntKind.i64.wrap (5 - 1) = 4:=by decide
  simp [hlt,]
  repeat' apply And.intro
  all_goals
   refine call_f (w_impl_within vs[i] 0 4) (by simp) rfl fun hs1 hh1=>?_
   simp at hh1
   cases h1 : inR vs[i] 0 4
   ·have hb : vrOk ⟨vs,⟨ar,rl⟩⟩ = false:=vr_bad hlt (by show bagAt 5 vs i = false; rw [bagAt,getD_el _ hlt,h4,h1,Bool.false_and])
    simp [hb,]
   by_cases h0 : i = 0
   ·subst h0
    have hwi0 : IntKind.i64.wrap 1 = 1:=by simpa using hwi
    have hok : bagAt 5 vs 0 = true:=by rw [bagAt,getD_el _ hlt,h4,h1,Bool.true_and]; simp [ascAt]
    simp [hwi0,]
    exact back 1 (hi.step hlt hok) (by omega) rfl (by simp <;> omega) (by simp) (by simp)
   ·have h0' : 0 < i:=by omega
    have hw : IntKind.i64.wrap ((i : Int) - 1) = ((i - 1 : Nat) : Int):=by rw [wrap64_of (by omega) (by omega)]; omega
    have hl1 : i - 1 < vs.length:=by omega
    have hat:=ascAt_eq (b:=vs) (by omega) hlt
    by_cases he : vs[i - 1] < vs[i]
    ·have hok : bagAt 5 vs i = true:=by rw [bagAt,getD_el _ hlt,h4,h1,Bool.true_and,hat]; simpa using he
     simp [h0',hlt,hw,hl1,show ¬ vs[i] <= vs[i - 1] by omega,hwi,]
     exact back (i + 1) (hi.step hlt hok) (by omega) rfl (by simp <;> omega) (by simp) (by simp)
    ·have hb : vrOk ⟨vs,⟨ar,rl⟩⟩ = false:=vr_bad hlt (by show bagAt 5 vs i = false; rw [bagAt,getD_el _ hlt,h4,h1,Bool.true_and,hat]; simpa using he)
     simp [h0',hlt,hw,hl1,show vs[i] <= vs[i - 1] by omega,hb,]
 ·have hd : vrOk ⟨vs,⟨ar,rl⟩⟩ = (rowsOk ar rl && decide (ar = vs.length)):=VI.done (b:=⟨vs,⟨ar,rl⟩⟩) hi (by show vs.length <= i; omega)
  simp [hlt,eReln,]
  refine call_f hR (by simp [eReln]) rfl fun hs1 hh1=>?_
  simp at hh1
  rw [hd]
  cases rowsOk ar rl <;> simp []
end
end Go.Proofs.YtglilmkmkdkedaaGreatDoor
namespace Go.Proofs.YtglilmkmkdkedaaGreatDoor
open Go.Vs Go.Proofs Go
set_option maxRecDepth 100000
set_option maxHeartbeats 1000000
section
attribute [local simp] plI_id plStr_id map_plI map_plStr pS cP cI cStr
theorem w_spec_Project (r : PReln) (cols : List Int) (hb : cols.length <= 4294967296) : VC Tryz.prog 47 [.agg ((eReln r).map V.d),.d (pS cI cols)] (fun _ v=>v = .tup [.agg ((eReln (prP r cols)).map V.d),.d (.bool (prB r cols))]):=by
 obtain ⟨ar,rl⟩:=r
 have hre : (eReln ⟨ar,rl⟩).map V.d = [V.d (.int .i64 ar),V.d (.pl (rl.map (cP cI)))]:=by simp [eReln]
 have hR:=w_spec_IsValidRelation ⟨ar,rl⟩
 refine VC.ofL EP s47 (by kernel_rfl) Tryz.func47 (by rfl) (by kernel_rfl) (by simp [Tryz.f47]) (by simp [Tryz.f47]) s47_ok fun B hl=>?_
 clear hl
 simp [Tryz.f47,s47_4,s47_4,hre]
 refine loop_rule (X:=Nat) (fun i=>i <= cols.length /\ AllTo (fun c=>inR c 0 (IntKind.i64.wrap (ar - 1))) cols i) (fun i=>[(1,.d (.pl (cols.map cI))),(2,.ptr 2 0 0),(4,.ptr 4 0 0),(6,.d (.int .i64 i))])
  (fun _=>[(2,some (.box [.d (.int .i64 ar),.d (.pl (rl.map (cP cI)))])),(4,some (.box [.d (.int .i64 0),.d (.sl none none [])]))]) (fun i=>cols.length - i) 0 ⟨by omega,allTo_zero⟩ (by simp) (by simp) ?_
 intro i hs t m hi hh
 obtain ⟨hle,hal⟩:=hi
 by_cases hlt : i < cols.length
 ·have hwi:=wr1 (i:=i) (by omega)
  simp [hlt,s47_4,]
  repeat' apply And.intro
  all_goals
   refine call_f (w_spec_l1In cols[i] 0 (IntKind.i64.wrap (ar - 1))) (by simp) rfl fun hs1 hh1=>?_
   simp at hh1
   cases h1 : inR cols[i] 0 (IntKind.i64.wrap (ar - 1))
   ·have hG : prG ⟨ar,rl⟩ cols = false:=by
     have : (cols.all fun c=>inR c 0 (IntKind.i64.wrap (ar - 1))) = false:=all_bad hlt h1
     simp [prG,colsOk,this]
    simp [prP,prB,hG,eReln,s47_4,]
   ·simp [hwi,s47_4,]
    exact back (i + 1) ⟨by omega,allTo_step hal hlt h1⟩ (by omega) rfl (by simp <;> omega) (by simp) (by simp)
 have hn : i = cols.length:=by omega
 subst hn
 have hall : (cols.all fun c=>inR c 0 (IntKind.i64.wrap (ar - 1))) = true:=allTo_done hal (by omega)
 simp [s47_4,]
 refine call_f hR (by simp [hre]) rfl fun hs1 hh1=>?_
 simp at hh1
 cases hok : rowsOk ar rl
 ·have hG : prG ⟨ar,rl⟩ cols = false:=by simp [prG,hok]
  simp [prP,prB,hG,eReln,s47_4,]
 by_cases h5 : (5 : Int) < cols.length
 ·have hG : prG ⟨ar,rl⟩ cols = false:=by simp [prG,colsOk,show ¬ cols.length <= 5 by omega]
  simp [h5,prP,prB,hG,eReln,s47_4,]
 have hG : prG ⟨ar,rl⟩ cols = true:=by simp [prG,colsOk,hok,hall]; omega
 have hn4 : rl.length <= 4000:=by
  simp only [rowsOk,Bool.and_eq_true,decide_eq_true_eq] at hok; exact hok.1.2
 have hrng : ∀ row ∈ rl,∀ c ∈ cols,0 <= c /\ c < row.length:=fun row hrow c hc=>by
  have h1:=List.all_eq_true.1 hall c hc
  have h2:=(rowsOk_mem hok hrow).1
  have h3 : inR ar 0 5 = true:=by simp only [rowsOk,Bool.and_eq_true] at hok; exact hok.1.1
  simp only [inR,Bool.and_eq_true,decide_eq_true_eq] at h1 h3
  rw [wrap64_of (by omega) (by omega)] at h1
  omega
 simp [h5,s47_4,]
 obtain ⟨PR,hPR⟩ : ∃ PR,PR = rl.map (pickR cols):=⟨_,rfl⟩
 have hPl : PR.length = rl.length:=by rw [hPR]; simp
 refine loop_rule (X:=Nat) (fun i=>i <= rl.length) (fun i=>[(1,.d (.pl (cols.map cI))),(2,.ptr 2 0 0),(4,.ptr 4 0 0),(7,.own 36 0 i),(8,.d (.int .i64 i))])
  (fun i=>[(2,some (.box [.d (.int .i64 ar),.d (.pl (rl.map (cP cI)))])),(4,some (.box [.d (.int .i64 0),.d (.sl none none [])])),(36,some (.row 26 1 ((PR.take i).map (cP cI))))]) (fun i=>rl.length - i) 0 (by omega) (by simp) (by simp) ?_
 intro i hs t m hi hh
 by_cases hlt : i < rl.length
 ·have hwi:=wr1 (i:=i) (by omega)
  have L : LenOk 24 (i + 1):=⟨by omega,by simp only [maxLen]; omega⟩
  have hip : i < PR.length:=by omega
  have hmin : min i PR.length = i:=by omega
  have hPi : PR[i] = pickR cols rl[i]:=by simp only [hPR,List.getElem_map]
  have htk' : (PR.map (cP cI)).take (i + 1) = (PR.map (cP cI)).take i ++ [[D.pl ((pickR cols rl[i]).map cI)]]:=by
   rw [<- List.map_take,List.take_succ_eq_append_getElem hip,List.map_append,List.map_take,hPi]; simp
  simp [hlt,s47_4,]
  try (repeat' apply And.intro)
  all_goals
   refine call_p (w_spec_l5Cols rl[i] cols hb (hrng _ (List.getElem_mem hlt))) (by simp) fun hs3 hh3 hl3=>?_
   simp at hh3
   simp [hwi,L,hmin,List.take_of_length_le,s47_4,]
   exact back (i + 1) (by omega) (by omega) rfl (by simp <;> omega) (by simp) (by simp [htk'])
 have hn : i = rl.length:=by omega
 subst hn
 have hPt : PR.take rl.length = PR:=List.take_of_length_le (by omega)
 rw [hPt]
 simp [s47_4,]
 refine call_p (w_spec_NewRelation cols.length PR (by omega) (fun x hx=>by
  rw [hPR] at hx; obtain ⟨row,_,rfl⟩:=List.mem_map.1 hx; rw [pickR_len]; omega)) (by simp [List.take_of_length_le,hPl]) fun hs3 hh3 hl3=>?_
 simp at hh3
 simp [prP,prB,prL,hG,<- hPR,eReln,s47_4,]
theorem e_impl_Project (r : PReln) (cols : List Int) (hb : cols.length <= 4294967296) : VC Tryz.prog 75 [.agg ((eReln r).map V.d),.d (pS cI cols)]
  (fun n v=>∃ y : Reln,v = .tup [.agg ((cReln y).map V.d),.d (.bool (prB r cols))] /\ plReln y = prP r cols /\ okReln y /\ Good (cReln y) (whReln y) n):=by
 obtain ⟨ar,rl⟩:=r
 have hre : (eReln ⟨ar,rl⟩).map V.d = [V.d (.int .i64 ar),V.d (.pl (rl.map (cP cI)))]:=by simp [eReln]
 have hR:=w_impl_IsValidRelation ⟨ar,rl⟩
 refine VC.of E s75 (by kernel_rfl) Tryz.func75 (by rfl) (by kernel_rfl) (by simp [Tryz.f75]) (by simp [Tryz.f75]) s75_ok fun B=>?_
 have hno : prG ⟨ar,rl⟩ cols = false -> ∃ y : Reln,V.tup [.agg ((cReln ⟨0,nilS⟩).map V.d),.d (.bool false)] = .tup [.agg ((cReln y).map V.d),.d (.bool (prB ⟨ar,rl⟩ cols))] /\ plReln y = prP ⟨ar,rl⟩ cols /\ okReln y /\ Good (cReln y) (whReln y) B:=fun h=>
  ⟨⟨0,nilS⟩,by rw [prB,h]; rfl,by simp [prP,h,plReln,nilS,plS],⟨trivial,ok_nilS⟩,good_Reln0 B⟩
 simp only [cReln,cS,cI,nilS,dSl] at hno
 simp at hno
 simp [Tryz.f75,hre]
 refine call_f hR (by simp [hre]) rfl fun hs1 hh1=>?_
 simp at hh1
 cases hok : rowsOk ar rl
 ·have hG : prG ⟨ar,rl⟩ cols = false:=by simp [prG,hok]
  simp []
  simpa [cReln,cS,cI,dSl] using hno hG
 simp []
 refine call_f (w_impl_columnsFit ar cols) (by simp) rfl fun hs2 hh2=>?_
 simp at hh2
 cases hco : colsOk ar cols
 ·have hG : prG ⟨ar,rl⟩ cols = false:=by simp [prG,hco]
  simp []
  simpa [cReln,cS,cI,dSl] using hno hG
 have hG : prG ⟨ar,rl⟩ cols = true:=by simp [prG,hok,hco]
 have hn4 : rl.length <= 4000:=by
  simp only [rowsOk,Bool.and_eq_true,decide_eq_true_eq] at hok; exact hok.1.2
 have hrng : ∀ row ∈ rl,∀ c ∈ cols,0 <= c /\ c < row.length:=fun row hrow c hc=>by
  simp only [colsOk,Bool.and_eq_true] at hco
  have h1:=List.all_eq_true.1 hco.2 c hc
  have h2:=(rowsOk_mem hok hrow).1
  have h3 : inR ar 0 5 = true:=by simp only [rowsOk,Bool.and_eq_true] at hok; exact hok.1.1
  simp only [inR,Bool.and_eq_true,decide_eq_true_eq] at h1 h3
  rw [wrap64_of (by omega) (by omega)] at h1
  omega
 simp []
 obtain ⟨PR,hPR⟩ : ∃ PR,PR = rl.map (pickR cols):=⟨_,rfl⟩
 have hPl : PR.length = rl.length:=by rw [hPR]; simp
 refine loop_ruleL (X:=Nat) (fun i _=>i <= rl.length) (fun i=>[(1,.d (.pl (cols.map cI))),(2,.ptr 2 0 0),(4,.ptr 4 0 0),(6,.own 90 0 i),(21,.d (.pl (rl.map (cP cI)))),(22,.d (.int .i64 rl.length)),(23,.d (.int .i64 i))])
  (fun i=>[(2,some (.box [.d (.int .i64 ar),.d (.pl (rl.map (cP cI)))])),(4,some (.box [.d (.int .i64 0),.d (.sl none none [])])),(90,some (.row 26 1 ((PR.take i).map (cP cI))))]) (fun i=>rl.length - i) ?_ ?_
 ·refine (lead_slot 6 90 26 1 (by omega) (by omega) (by simp)).bind ?_
  rintro _ rfl
  exact Lead.of ⟨0,by omega,rfl,rfl,Nat.le_refl _,by simp,by simp⟩
 intro i hs t m hi hh
 by_cases hlt : i < rl.length
 ·have hwi:=wr1 (i:=i) (by omega)
  have L : LenOk 24 (i + 1):=⟨by omega,by simp only [maxLen]; omega⟩
  have hip : i < PR.length:=by omega
  have hmin : min i PR.length = i:=by omega
  have hPi : PR[i] = pickR cols rl[i]:=by simp only [hPR,List.getElem_map]
  have htk' : (PR.map (cP cI)).take (i + 1) = (PR.map (cP cI)).take i ++ [[D.pl ((pickR cols rl[i]).map cI)]]:=by
   rw [<- List.map_take,List.take_succ_eq_append_getElem hip,List.map_append,List.map_take,hPi]; simp
  refine anyQ2 fun Q=>?_
  simp [hlt,]
  refine call_p (p_impl_pick rl[i] cols hb (hrng _ (List.getElem_mem hlt))) (by simp) fun hs3 hh3 hl3=>?_
  simp at hh3
  simp [hwi,L,hmin,List.take_of_length_le,]
  exact back2 (i + 1) (by omega) (by omega) rfl (by simp <;> omega) (by simp) (by simp [htk'])
 have hn : i = rl.length:=by omega
 subst hn
 have hPt : PR.take rl.length = PR:=List.take_of_length_le (by omega)
 rw [hPt]
 simp []
 refine call_pq (e_impl_NewRelation cols.length PR (by omega) (fun x hx=>by
  rw [hPR] at hx; obtain ⟨row,_,rfl⟩:=List.mem_map.1 hx; rw [pickR_len]; omega)) (by simp [List.take_of_length_le,hPl]) fun n3 hs3 r3 hn3 hm3 hp3 hl3=>?_
 obtain ⟨⟨ya,⟨yid,yT,ys⟩⟩,rfl,py,ky,Gy⟩:=hp3
 simp at hn3
 simp [cReln,cS,]
 exact ⟨⟨ya,⟨yid,yT,ys⟩⟩,by simp [cReln,cS,prB,prL,hG,<- hPR],by rw [py,prP,hG,prL,<- hPR]; rfl,ky,Gy.le (by omega)⟩
end
end Go.Proofs.YtglilmkmkdkedaaGreatDoor
namespace Go.Proofs.YtglilmkmkdkedaaGreatDoor
open Go.Vs Go.Proofs Go
set_option maxRecDepth 100000
set_option maxHeartbeats 1000000
section
attribute [local simp] plI_id plStr_id map_plI map_plStr pS cP cI cStr
theorem w_spec_l11Both (a b : PVRel) (hn : a.vars.Nodup) (h5 : a.vars.length <= 1000) : VC Tryz.prog 89 [.agg ((eVRel a).map V.d),.agg ((eVRel b).map V.d)] (fun _ r=>r = .tup [.d (pS cI (comC a.vars b.vars)),.d (pS cI ((comL a.vars b.vars).map (idxL b.vars)))]):=by
 obtain ⟨A,⟨ra,R⟩⟩:=a
 obtain ⟨Bv,⟨rb,L⟩⟩:=b
 have hae : (eVRel ⟨A,⟨ra,R⟩⟩).map V.d = [V.d (.pl (A.map cI)),V.d (.int .i64 ra),V.d (.pl (R.map (cP cI)))]:=by simp [eVRel,eReln]
 have hbe : (eVRel ⟨Bv,⟨rb,L⟩⟩).map V.d = [V.d (.pl (Bv.map cI)),V.d (.int .i64 rb),V.d (.pl (L.map (cP cI)))]:=by simp [eVRel,eReln]
 simp only at hn h5
 refine VC.ofL EP s89 (by kernel_rfl) Tryz.func89 (by rfl) (by kernel_rfl) (by simp [Tryz.f89]) (by simp [Tryz.f89]) s89_ok fun B hl=>?_
 clear hl
 simp [Tryz.f89,s89_6,s89_6,hae,hbe]
 refine loop_rule (X:=Nat) (fun i=>i <= A.length) (fun i=>[(2,.ptr 2 0 0),(3,.ptr 3 0 0),(6,.own 10 0 (comL (A.take i) Bv).length),(7,.own 11 0 (comL (A.take i) Bv).length),(8,.d (.int .i64 i))])
  (fun i=>[(2,some (.box [.d (.pl (A.map cI)),.d (.int .i64 ra),.d (.pl (R.map (cP cI)))])),(3,some (.box [.d (.pl (Bv.map cI)),.d (.int .i64 rb),.d (.pl (L.map (cP cI)))])),(10,some (.row 3 1 (((comL (A.take i) Bv).map (idxL A)).map cI))),(11,some (.row 3 1 (((comL (A.take i) Bv).map (idxL Bv)).map cI)))]) (fun i=>A.length - i) 0 (by omega) (by simp [comL_nil]) (by simp [comL_nil]) ?_
 intro i hs t m hi hh
 by_cases hlt : i < A.length
 ·have hwi:=wr1 (i:=i) (by omega)
  have hst:=comL_succ (b:=Bv) hlt
  have hln:=comL_len (A.take i) Bv
  rw [List.length_take] at hln
  obtain ⟨C,hC⟩ : ∃ C,C = comL (A.take i) Bv:=⟨_,rfl⟩
  rw [<- hC] at hst hln ⊢
  have hL : LenOk 8 (C.length + 1):=⟨by omega,by simp only [maxLen]; omega⟩
  have hge:=idxL_ge Bv A[i]
  have hix:=idxL_get hn hlt
  simp [hlt,s89_6,]
  repeat' apply And.intro
  all_goals
   refine call_f (w_spec_l7Find Bv A[i]) (by simp) rfl fun hs1 hh1=>?_
   simp at hh1
   cases hc : Bv.contains A[i]
   ·have h8 : ¬ 0 <= idxL Bv A[i]:=by rw [hc] at hge; exact of_decide_eq_false hge
    rw [hc] at hst
    simp only [Bool.false_eq_true,if_false,List.append_nil] at hst
    simp [h8,hwi,s89_6,]
    exact back (i + 1) (by omega) (by omega) rfl (by simp <;> omega) (by rw [hst]; simp) (by rw [hst]; simp)
   ·have h8 : 0 <= idxL Bv A[i]:=by rw [hc] at hge; exact of_decide_eq_true hge
    rw [hc] at hst
    simp only [if_true] at hst
    simp [h8,hwi,hL,List.take_of_length_le,s89_6,]
    exact back (i + 1) (by omega) (by omega) rfl (by simp <;> omega) (by rw [hst]; simp) (by rw [hst]; simp [hix])
 ·have hnn : i = A.length:=by omega
  subst hnn
  rw [List.take_length]
  obtain ⟨X,hX⟩ : ∃ X,X = (comL A Bv).map (idxL A):=⟨_,rfl⟩
  obtain ⟨Y,hY⟩ : ∃ Y,Y = (comL A Bv).map (idxL Bv):=⟨_,rfl⟩
  have hXl : (comL A Bv).length = X.length:=by rw [hX]; simp
  have hYl : (comL A Bv).length = Y.length:=by rw [hY]; simp
  have hcc : comC A Bv = X:=hX.symm
  have hYX : Y.length = X.length:=by omega
  rw [<- hX,<- hY,hcc]
  simp only [hXl]
  simp [hYX,List.take_of_length_le,s89_6,]
  rw [hY,List.map_map]
theorem w_spec_l11Vars (a b : List Int) : VC Tryz.prog 90 [.d (pS cI a),.d (pS cI b)] (fun _ r=>r = .d (pS cI (lvI a b 5))):=by
 refine VC.ofL EP s90 (by kernel_rfl) Tryz.func90 (by rfl) (by kernel_rfl) (by simp [Tryz.f90]) (by simp [Tryz.f90]) s90_ok fun B hl=>?_
 clear hl
 simp [Tryz.f90,]
 refine loop_rule (X:=Nat) (fun i=>i <= 5) (fun i=>[(0,.d (.pl (a.map cI))),(1,.d (.pl (b.map cI))),(5,.own 7 0 (lvI a b i).length),(6,.d (.int .i64 i))]) (fun i=>[(7,some (.row 3 1 ((lvI a b i).map cI)))]) (fun i=>5 - i) 0 (by omega) (by simp [lvI,rangeI_zero]) (by simp [lvI,rangeI_zero]) ?_
 intro i hs t m hi hh
 by_cases hlt : i < 5
 ·have hwi:=wr1 (i:=i) (by omega)
  have hlz : (i : Int) < 5:=by omega
  have hst:=lvI_succ a b i
  have hln:=lvI_len a b i
  obtain ⟨C,hC⟩ : ∃ C,C = lvI a b i:=⟨_,rfl⟩
  rw [<- hC] at hst hln ⊢
  have hL : LenOk 8 (C.length + 1):=⟨by omega,by simp only [maxLen]; omega⟩
  have hg1:=idxL_ge a i
  have hg2:=idxL_ge b i
  simp [hlz,]
  refine call_f (w_spec_l7Find a i) (by simp) rfl fun hs1 hh1=>?_
  simp at hh1
  cases h1 : a.contains (i : Int)
  ·have h8 : ¬ 0 <= idxL a i:=by rw [h1] at hg1; exact of_decide_eq_false hg1
   simp [h8,]
   refine call_f (w_spec_l7Find b i) (by simp) rfl fun hs2 hh2=>?_
   simp at hh2
   cases h2 : b.contains (i : Int)
   ·have h9 : ¬ 0 <= idxL b i:=by rw [h2] at hg2; exact of_decide_eq_false hg2
    rw [h1,h2] at hst
    simp at hst
    simp [h9,hwi,]
    exact back (i + 1) (by omega) (by omega) rfl (by simp <;> omega) (by rw [hst]; simp) (by rw [hst]; simp)
   ·have h9 : 0 <= idxL b i:=by rw [h2] at hg2; exact of_decide_eq_true hg2
    rw [h1,h2] at hst
    simp at hst
    simp [h9,hwi,hL,List.take_of_length_le,]
    exact back (i + 1) (by omega) (by omega) rfl (by simp <;> omega) (by rw [hst]; simp) (by rw [hst]; simp)
  ·have h8 : 0 <= idxL a i:=by rw [h1] at hg1; exact of_decide_eq_true hg1
   rw [h1] at hst
   simp at hst
   simp [h8,hwi,hL,List.take_of_length_le,]
   exact back (i + 1) (by omega) (by omega) rfl (by simp <;> omega) (by rw [hst]; simp) (by rw [hst]; simp)
 ·have hn : i = 5:=by omega
  subst hn
  simp [List.take_of_length_le,]
theorem w_spec_NaturalJoin (a b : PVRel) : VC Tryz.prog 48 [.agg ((eVRel a).map V.d),.agg ((eVRel b).map V.d)] (fun _ r=>r = .tup [.agg ((eVRel (njP a b)).map V.d),.d (.bool (njB a b))]):=by
 have hVa:=w_spec_IsValidVarRelation a
 have hVb:=w_spec_IsValidVarRelation b
 have hae : (eVRel a).map V.d = [V.d (.pl (a.vars.map cI)),V.d (.int .i64 a.rel.ar),V.d (.pl (a.rel.rows.map (cP cI)))]:=by simp [eVRel,eReln]
 have hbe : (eVRel b).map V.d = [V.d (.pl (b.vars.map cI)),V.d (.int .i64 b.rel.ar),V.d (.pl (b.rel.rows.map (cP cI)))]:=by simp [eVRel,eReln]
 refine VC.ofL EP s48 (by kernel_rfl) Tryz.func48 (by rfl) (by kernel_rfl) (by simp [Tryz.f48]) (by simp [Tryz.f48]) s48_ok fun B hl=>?_
 clear hl
 simp [Tryz.f48,s48_12,s48_17,s48_20,s48_12,s48_17,s48_20,hae,hbe]
 refine call_f hVa (by simp [hae]) rfl fun hs1 hh1=>?_
 simp at hh1
 cases ha : vrOk a
 ·have hB : njB a b = false:=by simp [njB,ha]
  simp [njP,hB,eVRel,eReln,s48_12,s48_17,s48_20,]
 simp [s48_12,s48_17,s48_20,]
 refine call_f hVb (by simp [hbe]) rfl fun hs2 hh2=>?_
 simp at hh2
 cases hb : vrOk b
 ·have hB : njB a b = false:=by simp [njB,hb]
  simp [njP,hB,eVRel,eReln,s48_12,s48_17,s48_20,]
 have fa:=vrF_of ha
 have fb:=vrF_of hb
 have hu:=uni_mem (b:=b) fa
 have hu5:=uni_len5 fa fb
 have na:=pw_nodup fa.pw
 obtain ⟨hj1,hj2⟩:=njP_spec ha hb
 have hnr:=fun x hx=>(nj_row fa fb x hx).1
 have h1:=w_spec_l11Both a b na (by have:=fa.len; omega)
 have h2:=w_spec_l11Vars a.vars b.vars
 rw [show lvI a.vars b.vars 5 = uniL a.vars b.vars from uni_flt fa.pw fa.rng fb.rng] at h2
 have hcg:=fun r s=>com_gl (r:=r) (s:=s) hu
 have far:=fa.rl
 have fbr:=fb.rl
 have ra4:=fa.nr
 have rb4:=fb.nr
 have hxr : ∀ r ∈ a.rel.rows,∀ c ∈ comC a.vars b.vars,0 <= c /\ c < r.length:=fun r hr c hc=>by
  obtain ⟨v,hv,rfl⟩:=List.mem_map.1 hc
  have hva:=(List.mem_filter.1 hv).1
  have:=(idxL_mem hva).1
  have h3:=idxL_ge a.vars v
  rw [List.contains_iff_mem.2 hva] at h3
  have:=of_decide_eq_true h3
  have:=(far r hr).1
  omega
 have hyr : ∀ s ∈ b.rel.rows,∀ c ∈ (comL a.vars b.vars).map (idxL b.vars),0 <= c /\ c < s.length:=fun r hr c hc=>by
  obtain ⟨v,hv,rfl⟩:=List.mem_map.1 hc
  have hva:=List.contains_iff_mem.1 (List.mem_filter.1 hv).2
  have:=(idxL_mem hva).1
  have h3:=idxL_ge b.vars v
  rw [List.contains_iff_mem.2 hva] at h3
  have:=of_decide_eq_true h3
  have:=(fbr r hr).1
  omega
 have hxl : (comC a.vars b.vars).length <= 5:=by have:=comL_len a.vars b.vars; have:=fa.len; simp [comC]; omega
 have hyl : ((comL a.vars b.vars).map (idxL b.vars)).length <= 5:=by have:=comL_len a.vars b.vars; have:=fa.len; simp; omega
 rw [hj1,hj2]
 rw [njL] at *
 obtain ⟨X,hX⟩ : ∃ X,X = comC a.vars b.vars:=⟨_,rfl⟩
 obtain ⟨Y,hY⟩ : ∃ Y,Y = (comL a.vars b.vars).map (idxL b.vars):=⟨_,rfl⟩
 obtain ⟨U,hU⟩ : ∃ U,U = uniL a.vars b.vars:=⟨_,rfl⟩
 rw [<- hX,<- hY] at h1
 rw [<- hX] at hxr hxl
 rw [<- hY] at hyr hyl
 rw [<- hU] at h2 hu5 hnr ⊢
 simp only [<- hX,<- hY,<- hU] at hcg hu
 obtain ⟨A,⟨ra,R⟩⟩:=a
 obtain ⟨Bv,⟨rb,L⟩⟩:=b
 simp only at *
 simp [s48_12,s48_17,s48_20,]
 refine call_p h1 (by simpa using by simp [hae,hbe]) fun hs3 hh3 hl3=>?_
 simp at hh3
 simp [s48_12,s48_17,s48_20,]
 refine call_p h2 (by simp) fun hs4 hh4 hl4=>?_
 simp at hh4
 simp [s48_12,s48_17,s48_20,]
 refine loop_rule (X:=Nat) (fun k=>k <= R.length) (fun k=>[(2,.ptr 2 0 0),(3,.ptr 3 0 0),(4,.ptr 4 0 0),(6,.d (.pl (X.map cI))),(7,.d (.pl (Y.map cI))),(8,.d (.pl (U.map cI))),(9,.own 37 0 (joinL U A (R.take k) Bv L).length),(10,.d (.int .i64 k))])
  (fun k=>[(2,some (.box [.d (.pl (A.map cI)),.d (.int .i64 ra),.d (.pl (R.map (cP cI)))])),(3,some (.box [.d (.pl (Bv.map cI)),.d (.int .i64 rb),.d (.pl (L.map (cP cI)))])),(4,some (.box [.d (.sl none none []),.d (.int .i64 0),.d (.sl none none [])])),(37,some (.row 26 1 ((joinL U A (R.take k) Bv L).map (cP cI))))]) (fun k=>R.length - k) 0 (by omega) (by simp [joinL_nil]) (by simp [joinL_nil]) ?_
 intro k hs5 t m hk hh5
 by_cases hkl : k < R.length
 ·have hwk:=wr1 (i:=k) (by omega)
  have hrk:=(far _ (List.getElem_mem hkl)).1
  have hxk:=hxr _ (List.getElem_mem hkl)
  obtain ⟨r,hr⟩ : ∃ r,r = R[k]:=⟨_,rfl⟩
  have hgd : R.getD k [] = r:=by rw [hr,List.getD_eq_getElem?_getD,List.getElem?_eq_getElem hkl]; rfl
  have hz:=jnI_zero U A R Bv L k
  have hA:=jnI_all (u:=U) (a:=A) (b:=Bv) (list:=L) hkl
  rw [<- hr] at hrk hxk
  refine anyQ fun Q=>?_
  simp [hkl,s48_12,s48_17,s48_20,]
  refine loop_rule (X:=Nat) (fun j=>j <= L.length) (fun j=>[(2,.ptr 2 0 0),(3,.ptr 3 0 0),(4,.ptr 4 0 0),(6,.d (.pl (X.map cI))),(7,.d (.pl (Y.map cI))),(8,.d (.pl (U.map cI))),(9,.own 37 0 (jnI U A R Bv L k j).length),(10,.d (.int .i64 k)),(11,.d (.int .i64 j))])
   (fun j=>[(2,some (.box [.d (.pl (A.map cI)),.d (.int .i64 ra),.d (.pl (R.map (cP cI)))])),(3,some (.box [.d (.pl (Bv.map cI)),.d (.int .i64 rb),.d (.pl (L.map (cP cI)))])),(4,some (.box [.d (.sl none none []),.d (.int .i64 0),.d (.sl none none [])])),(37,some (.row 26 1 ((jnI U A R Bv L k j).map (cP cI))))]) (fun j=>L.length - j) 0 (by omega) (by simp [hz]) (by simp [hz]) ?_
  intro j hs6 t m hj hh6
  have hh6' : hs5 <= hs6:=hh6
  by_cases hjl : j < L.length
  ·have hwj:=wr1 (i:=j) (by omega)
   have hsl:=(fbr _ (List.getElem_mem hjl)).1
   have hyj:=hyr _ (List.getElem_mem hjl)
   obtain ⟨s,hs'⟩ : ∃ s,s = L[j]:=⟨_,rfl⟩
   have hsu:=jnI_succ (u:=U) (a:=A) (rows:=R) (b:=Bv) (k:=k) hjl
   have hjle:=jnI_le (u:=U) (a:=A) (rows:=R) (b:=Bv) (list:=L) (k:=k) (j:=j) (by omega) (by omega) rb4
   rw [<- hs'] at hsl hsu hyj
   rw [hgd] at hsu
   obtain ⟨J,hJ⟩ : ∃ x,x = jnI U A R Bv L k j:=⟨_,rfl⟩
   rw [<- hJ] at hsu hjle ⊢
   have hLo : LenOk 24 (J.length + 1):=⟨by omega,by simp only [maxLen]; omega⟩
   have hcz:=cmpL_zero (pickR X r) (pickR Y s)
   rw [hcg r s] at hcz
   refine anyQ fun Q2=>?_
   simp [hkl,hjl,<- hr,<- hs',s48_12,s48_17,s48_20,]
   repeat' apply And.intro
   all_goals
    refine call_p (w_spec_l5Cols r X (by omega) hxk) (by simp) fun hs7 hh7 hl7=>?_
    simp at hh7
    simp [hkl,hjl,<- hr,<- hs',s48_12,s48_17,s48_20,]
    try (repeat' apply And.intro)
    all_goals
     refine call_p (w_spec_l5Cols s Y (by omega) hyj) (by simp) fun hs8 hh8 hl8=>?_
     simp at hh8
     simp [hkl,hjl,<- hr,<- hs',s48_12,s48_17,s48_20,]
     try (repeat' apply And.intro)
     all_goals
      refine call_f (w_spec_CompareRows (pickR X r) (pickR Y s)) (by simp) rfl fun hs9 hh9=>?_
      simp at hh9
      cases hg : glB U A r Bv s
      ·have hc0 : ¬ cmpL (pickR X r) (pickR Y s) = 0:=fun e=>by have:=hcz.1 e; rw [hg] at this; cases this
       rw [hg] at hsu
       simp at hsu
       simp [hc0,hwj,s48_12,s48_17,s48_20,]
       exact back (j + 1) (by omega) (by omega) rfl (by simp <;> omega) (by simp [hsu]) (by simp [hsu])
      ·have hc0 : cmpL (pickR X r) (pickR Y s) = 0:=hcz.2 hg
       rw [hg] at hsu
       simp only [if_true] at hsu
       obtain ⟨G,hG⟩ : ∃ G,G = glR U A r Bv s:=⟨_,rfl⟩
       have hGl : G.length = U.length:=by rw [hG]; simp [glR]
       rw [<- hG] at hsu
       simp [hc0,s48_12,s48_17,s48_20,]
       refine loop_rule (X:=Nat) (fun v=>v <= U.length) (fun v=>[(2,.ptr 2 0 0),(3,.ptr 3 0 0),(4,.ptr 4 0 0),(6,.d (.pl (X.map cI))),(7,.d (.pl (Y.map cI))),(8,.d (.pl (U.map cI))),(9,.own 37 0 J.length),(10,.d (.int .i64 k)),(11,.d (.int .i64 j)),(12,.own 72 0 v),(13,.d (.int .i64 v))])
        (fun v=>[(2,some (.box [.d (.pl (A.map cI)),.d (.int .i64 ra),.d (.pl (R.map (cP cI)))])),(3,some (.box [.d (.pl (Bv.map cI)),.d (.int .i64 rb),.d (.pl (L.map (cP cI)))])),(4,some (.box [.d (.sl none none []),.d (.int .i64 0),.d (.sl none none [])])),(37,some (.row 26 1 (J.map (cP cI)))),(72,some (.row 3 1 ((G.take v).map cI)))]) (fun v=>U.length - v) 0 (by omega) (by simp) (by simp) ?_
       intro v hs10 t m hv hh10
       have hh10' : hs9 <= hs10:=hh10
       by_cases hvl : v < U.length
       ·have hwv:=wr1 (i:=v) (by omega)
        have hvG : v < G.length:=by omega
        have hmin : min v G.length = v:=by omega
        have L8 : LenOk 8 (v + 1):=⟨by omega,by simp only [maxLen]; omega⟩
        have hGv : G[v] = if A.contains U[v] then lookV A r U[v] else lookV Bv s U[v]:=by simp only [hG]; exact glR_get hvl
        have htk' : (G.map cI).take (v + 1) = (G.map cI).take v ++ [[D.int .i64 G[v]]]:=by rw [<- List.map_take,List.take_succ_eq_append_getElem hvG,List.map_append,List.map_take]; simp
        have hge:=idxL_ge A U[v]
        have hge2:=idxL_ge Bv U[v]
        simp [hkl,hjl,hvl,<- hr,<- hs',s48_12,s48_17,s48_20,]
        try (repeat' apply And.intro)
        all_goals
         refine call_f (w_spec_l7Find A U[v]) (by simp) rfl fun hs11 hh11=>?_
         simp at hh11
         cases hc : A.contains U[v]
         ·have h8 : ¬ 0 <= idxL A U[v]:=by rw [hc] at hge; exact of_decide_eq_false hge
          have hbm : U[v] ∈ Bv:=((hu _).1 (List.getElem_mem hvl)).resolve_left (fun h=>by rw [List.contains_iff_mem.2 h] at hc; cases hc)
          have hix:=(idxL_mem hbm).1
          obtain ⟨p,hp⟩ : ∃ p : Nat,idxL Bv U[v] = (p : Int):=by
           rw [List.contains_iff_mem.2 hbm] at hge2
           exact ⟨(idxL Bv U[v]).toNat,by have:=of_decide_eq_true hge2; omega⟩
          have hps : p < s.length:=by rw [hp] at hix; omega
          rw [hc] at hGv
          simp only [Bool.false_eq_true,if_false,lookV,hp,Int.toNat_natCast,getD_el _ hps] at hGv
          simp [h8,hkl,hjl,hvl,<- hr,<- hs',s48_12,s48_17,s48_20,]
          try (repeat' apply And.intro)
          all_goals
           refine call_f (w_spec_l7Find Bv U[v]) (by simp) rfl fun hs12 hh12=>?_
           simp at hh12
           rw [hp]
           simp [hkl,hjl,hvl,<- hr,<- hs',hps,hmin,hwv,L8,List.take_of_length_le,s48_12,s48_17,s48_20,]
           exact back (v + 1) (by omega) (by omega) rfl (by simp <;> omega) (by simp) (by simp [htk',hGv])
         ·have h8 : 0 <= idxL A U[v]:=by rw [hc] at hge; exact of_decide_eq_true hge
          have ham:=List.contains_iff_mem.1 hc
          have hix:=(idxL_mem ham).1
          obtain ⟨p,hp⟩ : ∃ p : Nat,idxL A U[v] = (p : Int):=⟨(idxL A U[v]).toNat,by omega⟩
          have hps : p < r.length:=by rw [hp] at hix; omega
          rw [hc] at hGv
          simp only [if_true,lookV,hp,Int.toNat_natCast,getD_el _ hps] at hGv
          rw [hp]
          simp [hkl,hjl,hvl,<- hr,<- hs',hps,hmin,hwv,L8,List.take_of_length_le,s48_12,s48_17,s48_20,]
          exact back (v + 1) (by omega) (by omega) rfl (by simp <;> omega) (by simp) (by simp [htk',hGv])
       ·have hn : v = U.length:=by omega
        subst hn
        have hGt : G.take U.length = G:=List.take_of_length_le (by omega)
        rw [hGt]
        simp [hwj,hLo,hGl,List.take_of_length_le,s48_12,s48_17,s48_20,]
        exact back (j + 1) (by omega) (by omega) rfl (by simp <;> omega) (by simp [hsu]) (by simp [hsu])
  ·have hn : j = L.length:=by omega
   subst hn
   simp [hwk,s48_12,s48_17,s48_20,]
   exact back (k + 1) (by omega) (by omega) rfl (by simp <;> omega) (by simp [hA]) (by simp [hA])
 ·have hn : k = R.length:=by omega
  subst hn
  rw [List.take_length]
  simp [s48_12,s48_17,s48_20,]
  refine call_p (w_spec_NewRelation U.length (joinL U A R Bv L) (by have:=join_le (u:=U) (a:=A) (b:=Bv) ra4 rb4; omega) (fun x hx=>by have:=hnr x hx; omega)) (by simp [List.take_of_length_le]) fun hs7 hh7 hl7=>?_
  simp at hh7
  cases hnb : newB U.length (joinL U A R Bv L)
  ·simp [eVRel,eReln,s48_12,s48_17,s48_20,]
  ·simp [eVRel,eReln,s48_12,s48_17,s48_20,]
end
end Go.Proofs.YtglilmkmkdkedaaGreatDoor
namespace Go.Proofs.YtglilmkmkdkedaaGreatDoor
open Go.Vs Go.Proofs Go
set_option maxRecDepth 100000
set_option maxHeartbeats 1000000
section
attribute [local simp] plI_id plStr_id map_plI map_plStr pS cP cI cStr dSl
theorem good_VRel0 (B : Nat) : Good (cVRel ⟨nilS,⟨0,nilS⟩⟩) (whVRel ⟨nilS,⟨0,nilS⟩⟩) B:=by
 have:=Good.app (good_nilS (c:=cI) (wh:=whI) B) (good_Reln0 B) (fun g h h'=>by simp [cS,nilS,idsL,D.ids,dSl,idsLL] at h)
 exact ⟨this.nd,this.lo,this.wh⟩
theorem e_impl_NaturalJoin (a b : PVRel) : VC Tryz.prog 55 [.agg ((eVRel a).map V.d),.agg ((eVRel b).map V.d)]
  (fun n r=>∃ y : VRel,r = .tup [.agg ((cVRel y).map V.d),.d (.bool (njB a b))] /\ plVRel y = njP a b /\ okVRel y /\ Good (cVRel y) (whVRel y) n):=by
 have hVa:=w_impl_IsValidVarRelation a
 have hVb:=w_impl_IsValidVarRelation b
 have hae : (eVRel a).map V.d = [V.d (.pl (a.vars.map cI)),V.d (.int .i64 a.rel.ar),V.d (.pl (a.rel.rows.map (cP cI)))]:=by simp [eVRel,eReln]
 have hbe : (eVRel b).map V.d = [V.d (.pl (b.vars.map cI)),V.d (.int .i64 b.rel.ar),V.d (.pl (b.rel.rows.map (cP cI)))]:=by simp [eVRel,eReln]
 refine VC.of E s55 (by kernel_rfl) Tryz.func55 (by rfl) (by kernel_rfl) (by simp [Tryz.f55]) (by simp [Tryz.f55]) s55_ok fun B=>?_
 have hno : njB a b = false -> ∃ y : VRel,V.tup [.agg ((cVRel ⟨nilS,⟨0,nilS⟩⟩).map V.d),.d (.bool false)] = .tup [.agg ((cVRel y).map V.d),.d (.bool (njB a b))] /\ plVRel y = njP a b /\ okVRel y /\ Good (cVRel y) (whVRel y) B:=fun h=>
  ⟨⟨nilS,⟨0,nilS⟩⟩,by rw [h],by simp [njP,h,plVRel,plReln,nilS,plS],⟨ok_nilS,trivial,ok_nilS⟩,good_VRel0 B⟩
 simp only [cVRel,cReln,cS,cI,nilS,dSl] at hno
 simp at hno
 simp [Tryz.f55,hae,hbe]
 refine call_f hVa (by simp [hae]) rfl fun hs1 hh1=>?_
 simp at hh1
 cases ha : vrOk a
 ·have hB : njB a b = false:=by simp [njB,ha]
  simp []
  simpa [hB,cVRel,cReln,cS,cI,dSl] using hno hB
 simp []
 refine call_f hVb (by simp [hbe]) rfl fun hs2 hh2=>?_
 simp at hh2
 cases hb : vrOk b
 ·have hB : njB a b = false:=by simp [njB,hb]
  simp []
  simpa [hB,cVRel,cReln,cS,cI,dSl] using hno hB
 have fa:=vrF_of ha
 have fb:=vrF_of hb
 have hu:=uni_mem (b:=b) fa
 have hu5:=uni_len5 fa fb
 have hnr:=fun x hx=>(nj_row fa fb x hx).1
 have far:=fa.rl
 have fbr:=fb.rl
 have ra4:=fa.nr
 have rb4:=fb.nr
 have ha5:=fa.len
 have hb5:=fb.len
 have hB4 : njB a b = decide ((njL a b).length <= 4000):=by rw [njB,ha,hb]; rfl
 have hP4 : (njL a b).length <= 4000 -> njP a b = ⟨uniL a.vars b.vars,⟨(uniL a.vars b.vars).length,srtU (njL a b)⟩⟩:=fun h=>by rw [njP,hB4,if_pos (decide_eq_true h)]
 rw [njL] at *
 obtain ⟨U,hU⟩ : ∃ U,U = uniL a.vars b.vars:=⟨_,rfl⟩
 rw [<- hU] at hu5 hnr hB4 hP4
 simp only [<- hU] at hu
 have h1:=e_impl_unite a.vars b.vars (by omega)
 simp only [<- hU] at h1
 obtain ⟨A,⟨ra,R⟩⟩:=a
 obtain ⟨Bv,⟨rb,L⟩⟩:=b
 simp only at *
 simp []
 refine call_some h1 (by simp) (by simp) fun n3 hs3 r3 hn3 hm3 hp3 hr3=>?_
 obtain ⟨⟨uid,uT,ux⟩,rfl,rfl,ku,Gu⟩:=hp3
 simp at hn3
 have uu : ∀ g ∈ idsL (cS cI ⟨uid,uT,ux⟩),g < hs3:=fun g hg=>hr3 g (by rw [idsL_cS] at hg; simpa [V.ids] using hg)
 clear hr3
 simp only at hu5 hnr hB4 hP4 hu
 have her : erLL (ux.map cI) = ux.map cI:=by rw [erLL_map er_cI,map_plI]
 simp []
 refine loop_ruleL (X:=Nat) (fun k _=>k <= R.length /\ (joinL ux A (R.take k) Bv L).length <= 4000) (fun k=>[(2,.ptr 2 0 0),(3,.ptr 3 0 0),(4,.ptr 4 0 0),(6,.d (.sl uid uT (ux.map cI))),(7,.own 90 0 (joinL ux A (R.take k) Bv L).length),(30,.d (.pl (R.map (cP cI)))),(31,.d (.int .i64 R.length)),(32,.d (.int .i64 k))])
  (fun k=>[(2,some (.box [.d (.pl (A.map cI)),.d (.int .i64 ra),.d (.pl (R.map (cP cI)))])),(3,some (.box [.d (.pl (Bv.map cI)),.d (.int .i64 rb),.d (.pl (L.map (cP cI)))])),(4,some (.box [.d (.sl none none []),.d (.int .i64 0),.d (.sl none none [])])),(90,some (.row 26 1 ((joinL ux A (R.take k) Bv L).map (cP cI))))]) (fun k=>R.length - k) ?_ ?_
 ·refine (lead_slot 7 90 26 1 (by omega) (by omega) (by simp)).bind ?_
  rintro _ rfl
  exact Lead.of ⟨0,⟨by omega,by simp [joinL_nil]⟩,rfl,rfl,Nat.le_refl _,by simp [joinL_nil],by simp [joinL_nil]⟩
 rintro k hs4 t m ⟨hk,hk4⟩ hh4
 have hh4' : hs3 <= hs4:=hh4
 by_cases hkl : k < R.length
 ·have hwk:=wr1 (i:=k) (by omega)
  have hrk:=(far _ (List.getElem_mem hkl)).1
  obtain ⟨r,hr⟩ : ∃ r,r = R[k]:=⟨_,rfl⟩
  have hgd : R.getD k [] = r:=by rw [hr,List.getD_eq_getElem?_getD,List.getElem?_eq_getElem hkl]; rfl
  have hz:=jnI_zero ux A R Bv L k
  have hA:=jnI_all (u:=ux) (a:=A) (b:=Bv) (list:=L) hkl
  rw [<- hr] at hrk
  simp [hkl,<- hr,]
  refine loop_rule (X:=Nat) (fun j=>j <= L.length) (fun j=>[(2,.ptr 2 0 0),(3,.ptr 3 0 0),(4,.ptr 4 0 0),(6,.d (.sl uid uT (ux.map cI))),(7,.own 90 0 (jnI ux A R Bv L k j).length),(9,.d (.pl (r.map cI))),(30,.d (.pl (R.map (cP cI)))),(31,.d (.int .i64 R.length)),(32,.d (.int .i64 k)),(38,.d (.pl (L.map (cP cI)))),(39,.d (.int .i64 L.length)),(40,.d (.int .i64 j))])
   (fun j=>[(2,some (.box [.d (.pl (A.map cI)),.d (.int .i64 ra),.d (.pl (R.map (cP cI)))])),(3,some (.box [.d (.pl (Bv.map cI)),.d (.int .i64 rb),.d (.pl (L.map (cP cI)))])),(4,some (.box [.d (.sl none none []),.d (.int .i64 0),.d (.sl none none [])])),(90,some (.row 26 1 ((jnI ux A R Bv L k j).map (cP cI))))]) (fun j=>L.length - j) 0 (by omega) (by simp [hz]) (by simp [hz]) ?_
  intro j hs5 t m hj hh5
  have hh5' : hs4 <= hs5:=hh5
  by_cases hjl : j < L.length
  ·have hwj:=wr1 (i:=j) (by omega)
   have hsl:=(fbr _ (List.getElem_mem hjl)).1
   obtain ⟨s,hs'⟩ : ∃ s,s = L[j]:=⟨_,rfl⟩
   have hsu:=jnI_succ (u:=ux) (a:=A) (rows:=R) (b:=Bv) (k:=k) hjl
   have hjle:=jnI_le (u:=ux) (a:=A) (rows:=R) (b:=Bv) (list:=L) (k:=k) (j:=j) (by omega) (by omega) rb4
   rw [<- hs'] at hsl hsu
   rw [hgd] at hsu
   obtain ⟨J,hJ⟩ : ∃ x,x = jnI ux A R Bv L k j:=⟨_,rfl⟩
   rw [<- hJ] at hsu hjle ⊢
   have hLo : LenOk 24 (J.length + 1):=⟨by omega,by simp only [maxLen]; omega⟩
   refine anyQ fun Q2=>?_
   simp [hjl,<- hs',]
   refine call_p (w_impl_glue ux A r Bv s (by omega) (fun v hv=>(hu v).1 hv) hrk hsl) (by simp [her]) fun hs6 hh6 hl6=>?_
   simp at hh6
   cases hg : glB ux A r Bv s
   ·rw [hg] at hsu
    simp at hsu
    simp [hwj,]
    exact back (j + 1) (by omega) (by omega) rfl (by simp <;> omega) (by simp [hsu]) (by simp [hsu])
   ·rw [hg] at hsu
    simp only [if_true] at hsu
    simp [hwj,hLo,List.take_of_length_le,]
    exact back (j + 1) (by omega) (by omega) rfl (by simp <;> omega) (by simp [hsu]) (by simp [hsu])
  ·have hn : j = L.length:=by omega
   subst hn
   rw [hA]
   obtain ⟨J,hJ⟩ : ∃ x,x = joinL ux A (R.take (k + 1)) Bv L:=⟨_,rfl⟩
   rw [<- hJ]
   by_cases h4 : (4000 : Int) < J.length
   ·have hB : decide ((joinL ux A R Bv L).length <= 4000) = false:=decide_eq_false (by
     have:=join_mono (u:=ux) (a:=A) (b:=Bv) (rows:=R) (list:=L) (k + 1); rw [<- hJ] at this; omega)
    rw [<- hB4] at hB
    simp [h4,]
    simpa [hB,cVRel,cReln,cS,cI,dSl] using hno hB
   ·simp [h4,hwk,]
    exact back2 (k + 1) ⟨by omega,by rw [<- hJ]; omega⟩ (by omega) rfl (by simp <;> omega) (by simp [<- hJ]) (by simp [<- hJ])
 ·have hn : k = R.length:=by omega
  subst hn
  rw [List.take_length] at hk4 ⊢
  have hPj:=hP4 hk4
  have hBj : njB ⟨A,⟨ra,R⟩⟩ ⟨Bv,⟨rb,L⟩⟩ = true:=by rw [hB4]; exact decide_eq_true hk4
  simp []
  refine call_pq (e_impl_sorted _ (joinL ux A R Bv L) (Nat.le_refl _) (by omega) (fun x hx=>by have:=hnr x hx; omega)) (by simp [List.take_of_length_le]) fun n7 hs7 r7 hn7 hm7 hp7 hl7=>?_
  obtain ⟨y,rfl,p7,k7,G7⟩:=hp7
  simp at hn7
  simp []
  have G:=Good.app (Gu.le (show B <= n3 by omega)) (good_Reln (ar:=ux.length) G7 (show B <= n7 by omega)) (fun g h h'=>by
   have h2:=uu g h
   rw [cReln,idsL_app] at h'
   rcases List.mem_append.1 h' with h3 | h3
   ·simp [cI,idsL,D.ids] at h3
   ·have:=G7.lo g h3
    omega)
  exact ⟨⟨⟨uid,uT,ux⟩,⟨ux.length,y⟩⟩,⟨by simp [cVRel,cReln,cS],hBj⟩,by rw [hPj]; simp only [plVRel,plReln,plI]; rw [p7]; simp [plS],⟨ku,trivial,k7⟩,⟨G.nd,G.lo,G.wh⟩⟩
end
end Go.Proofs.YtglilmkmkdkedaaGreatDoor
namespace Go.Proofs.YtglilmkmkdkedaaGreatDoor
open Go.Vs Go.Proofs Go
set_option maxRecDepth 100000
set_option maxHeartbeats 1000000
section
theorem w_impl_gcd (a b : Nat) (ha : a <= 4000000000000000000) (hb : b <= 4000000000000000000) : VC Tryz.prog 156 [.d (.int .i64 a),.d (.int .i64 b)] (fun _ r=>r = .d (.int .i64 (Nat.gcd a b : Nat))):=by
 refine VC.ofL EP s156 (by kernel_rfl) Tryz.func156 (by rfl) (by kernel_rfl) (by simp [Tryz.f156]) (by simp [Tryz.f156]) s156_ok fun B hl=>?_
 simp [Tryz.f156,s156_2,s156_2,]
 refine loop_rule (X:=Nat × Nat) (fun p=>p.1 <= 4000000000000000000 /\ p.2 <= 4000000000000000000 /\ Nat.gcd p.1 p.2 = Nat.gcd a b) (fun p=>[(0,.d (.int .i64 p.1)),(1,.d (.int .i64 p.2))]) (fun _=>[]) (fun p=>p.2) (a,b) ⟨ha,hb,rfl⟩ (by simp) (by simp) ?_
 rintro ⟨x,y⟩ hs t m ⟨h1,h2,h3⟩ hh
 simp only at h1 h2 h3
 by_cases hy : y = 0
 ·subst hy
  rw [Nat.gcd_zero_right] at h3
  simp [s156_2,h3]
 ·have hm:=Nat.mod_lt x (show 0 < y by omega)
  have h4 : Nat.gcd y (x % y) = Nat.gcd a b:=by rw [<- h3,Nat.gcd_comm x y,Nat.gcd_rec y x,Nat.gcd_comm]
  simp [s156_2,hy,tmod_nat]
  exact back (y,x % y) ⟨h2,by simp only; omega,h4⟩ (by simp only; omega) rfl (by simp <;> omega) (by simp) (by simp)
theorem w_impl_abs (n : Int) (h : n.natAbs <= 4000000000000000000) : VC Tryz.prog 157 [.d (.int .i64 n)] (fun _ r=>r = .d (.int .i64 (n.natAbs : Nat))):=by
 refine VC.ofL EP s157 (by kernel_rfl) Tryz.func157 (by rfl) (by kernel_rfl) (by simp [Tryz.f157]) (by simp [Tryz.f157]) s157_ok fun B hl=>?_
 have hw : IntKind.i64.wrap (-n) = -n:=wrap64_of (by omega) (by omega)
 by_cases h0 : n < -n
 ·simp [Tryz.f157,hw,h0]
  omega
 ·simp [Tryz.f157,hw,h0]
  omega
theorem w_impl_IsValidRational (q : _root_.Rat) (h : smQ q) : VC Tryz.prog 147 [.agg [.d (.int .i64 q.num),.d (.int .i64 (q.den : Int))]] (fun _ r=>r = .d (.bool true)):=by
 obtain ⟨i1,i2,i3,i4⟩:=sm_i h
 have e1 : inR (q.den : Int) 1 1000000000 = true:=by simp [inR]; omega
 have e2 : inR q.num (-1000000000) 1000000000 = true:=by simp [inR]; omega
 have e3:=sm_gcd q
 refine VC.ofL EP s147 (by kernel_rfl) Tryz.func147 (by rfl) (by kernel_rfl) (by simp [Tryz.f147]) (by simp [Tryz.f147]) s147_ok fun B hl=>?_
 simp [Tryz.f147,s147_1,s147_1,]
 refine call_f (w_impl_within q.den 1 1000000000) (by simp) rfl fun hs0 hh0=>?_
 simp [e1]
 refine call_f (w_impl_within q.num (-1000000000) 1000000000) (by simp) rfl fun hs1 hh1=>?_
 simp [e2]
 refine call_f (w_impl_abs q.num (by omega)) (by simp) rfl fun hs2 hh2=>?_
 simp
 refine call_f (w_impl_gcd q.num.natAbs q.den (by omega) (by omega)) (by simp) rfl fun hs3 hh3=>?_
 simp [e3]
theorem w_impl_NewRational (n d : Int) (q : _root_.Rat) (hq : q = _root_.Rat.divInt n d) (hd : d ≠ 0) (hn4 : n.natAbs <= 4000000000000000000) (hd4 : d.natAbs <= 4000000000000000000) (h : smQ q) :
  VC Tryz.prog 161 [.d (.int .i64 n),.d (.int .i64 d)] (fun _ r=>r = .tup [.agg [.d (.int .i64 q.num),.d (.int .i64 (q.den : Int))],.d (.bool true)]):=by
 have e1 : inR n (-4000000000000000000) 4000000000000000000 = true:=by simp [inR]; omega
 have e2 : inR d (-4000000000000000000) 4000000000000000000 = true:=by simp [inR]; omega
 have wn : IntKind.i64.wrap (-n) = -n:=wrap64_of (by omega) (by omega)
 have wd : IntKind.i64.wrap (-d) = -d:=wrap64_of (by omega) (by omega)
 obtain ⟨i1,i2,i3,i4⟩:=sm_i h
 have wq : IntKind.i64.wrap q.num = q.num:=wrap64_of (by omega) (by omega)
 have wr : IntKind.i64.wrap (q.den : Int) = q.den:=wrap64_of (by omega) (by omega)
 refine VC.ofL EP s161 (by kernel_rfl) Tryz.func161 (by rfl) (by kernel_rfl) (by simp [Tryz.f161]) (by simp [Tryz.f161]) s161_ok fun B hl=>?_
 simp [Tryz.f161,s161_6,s161_6,hd]
 refine call_f (w_impl_within n (-4000000000000000000) 4000000000000000000) (by simp) rfl fun hs0 hh0=>?_
 simp [e1]
 refine call_f (w_impl_within d (-4000000000000000000) 4000000000000000000) (by simp) rfl fun hs1 hh1=>?_
 simp [e2]
 by_cases h0 : d < 0
 ·have hp : 0 < -d:=by omega
  obtain ⟨a1,a2⟩:=norm_num (n:=-n) (d:=-d) (q:=q) (by rw [hq,q_flip]) hp
  obtain ⟨b1,b2⟩:=gcd_le (n:=-n) hp
  have b3 : Nat.gcd (-n).natAbs (-d).natAbs ≠ 0:=by omega
  have hdn : ((-d).natAbs : Int) = -d:=by omega
  simp [h0,wn,wd]
  refine call_f (w_impl_abs (-n) (by omega)) (by simp) rfl fun hs2 hh2=>?_
  simp [-Int.natAbs_neg]
  refine call_f (w_impl_gcd (-n).natAbs (-d).natAbs (by omega) (by omega)) (by simp [-Int.natAbs_neg,hdn]) rfl fun hs3 hh3=>?_
  simp [-Int.natAbs_neg,b3,a1,a2,wq,wr,s161_6,]
  refine call_f (w_impl_IsValidRational q h) (by simp) rfl fun hs4 hh4=>?_
  simp
 ·have hp : 0 < d:=by omega
  obtain ⟨a1,a2⟩:=norm_num (n:=n) (d:=d) (q:=q) hq hp
  obtain ⟨b1,b2⟩:=gcd_le (n:=n) hp
  have b3 : Nat.gcd n.natAbs d.natAbs ≠ 0:=by omega
  have hdn : (d.natAbs : Int) = d:=by omega
  simp [h0]
  refine call_f (w_impl_abs n (by omega)) (by simp) rfl fun hs2 hh2=>?_
  simp
  refine call_f (w_impl_gcd n.natAbs d.natAbs (by omega) (by omega)) (by simp [hdn]) rfl fun hs3 hh3=>?_
  simp [b3,a1,a2,wq,wr,s161_6,]
  refine call_f (w_impl_IsValidRational q h) (by simp) rfl fun hs4 hh4=>?_
  simp
theorem w_impl_bothValid (a b : _root_.Rat) (ha : smQ a) (hb : smQ b) : VC Tryz.prog 155 [.agg [.d (.int .i64 a.num),.d (.int .i64 (a.den : Int))],.agg [.d (.int .i64 b.num),.d (.int .i64 (b.den : Int))]] (fun _ r=>r = .d (.bool true)):=by
 refine VC.ofL EP s155 (by kernel_rfl) Tryz.func155 (by rfl) (by kernel_rfl) (by simp [Tryz.f155]) (by simp [Tryz.f155]) s155_ok fun B hl=>?_
 simp [Tryz.f155,]
 refine call_f (w_impl_IsValidRational a ha) (by simp) rfl fun hs0 hh0=>?_
 simp
 refine call_f (w_impl_IsValidRational b hb) (by simp) rfl fun hs1 hh1=>?_
 simp
theorem w_impl_AddRational (a b : _root_.Rat) (ha : smQ a) (hb : smQ b) (h : smQ (a + b)) : VC Tryz.prog 154 [.agg [.d (.int .i64 a.num),.d (.int .i64 (a.den : Int))],.agg [.d (.int .i64 b.num),.d (.int .i64 (b.den : Int))]]
  (fun _ r=>r = .tup [.agg [.d (.int .i64 (a + b).num),.d (.int .i64 ((a + b).den : Int))],.d (.bool true)]):=by
 obtain ⟨m1,m2,m3,m4,m5⟩:=sm_mul ha hb
 have w1 : IntKind.i64.wrap (a.num * b.den) = a.num * b.den:=wrap64_of (by omega) (by omega)
 have w2 : IntKind.i64.wrap (b.num * a.den) = b.num * a.den:=wrap64_of (by omega) (by omega)
 have w3 : IntKind.i64.wrap (a.num * b.den + b.num * a.den) = a.num * b.den + b.num * a.den:=wrap64_of (by omega) (by omega)
 have w4 : IntKind.i64.wrap ((a.den : Int) * b.den) = (a.den : Int) * b.den:=wrap64_of (by omega) (by omega)
 have hp : (0 : Int) < (a.den : Int) * b.den:=den_mul
 refine VC.ofL EP s154 (by kernel_rfl) Tryz.func154 (by rfl) (by kernel_rfl) (by simp [Tryz.f154]) (by simp [Tryz.f154]) s154_ok fun B hl=>?_
 simp [Tryz.f154,]
 refine call_f (w_impl_bothValid a b ha hb) (by simp) rfl fun hs0 hh0=>?_
 simp [w1,w2,w3,w4]
 refine call_f (w_impl_NewRational (a.num * b.den + b.num * a.den) ((a.den : Int) * b.den) (a + b) (q_add a b) (by omega) (by omega) (by omega) h) (by simp) rfl fun hs1 hh1=>?_
 simp
theorem w_impl_SubRational (a b : _root_.Rat) (ha : smQ a) (hb : smQ b) (h : smQ (a - b)) : VC Tryz.prog 162 [.agg [.d (.int .i64 a.num),.d (.int .i64 (a.den : Int))],.agg [.d (.int .i64 b.num),.d (.int .i64 (b.den : Int))]]
  (fun _ r=>r = .tup [.agg [.d (.int .i64 (a - b).num),.d (.int .i64 ((a - b).den : Int))],.d (.bool true)]):=by
 obtain ⟨i1,i2,i3,i4⟩:=sm_i hb
 have w1 : IntKind.i64.wrap (-b.num) = (-b).num:=by rw [(q_neg b).1]; exact wrap64_of (by omega) (by omega)
 have e2 : (b.den : Int) = ((-b).den : Int):=by rw [(q_neg b).2]
 have e3 : a - b = a + -b:=q_sub a b
 rw [e3] at h ⊢
 refine VC.ofL EP s162 (by kernel_rfl) Tryz.func162 (by rfl) (by kernel_rfl) (by simp [Tryz.f162]) (by simp [Tryz.f162]) s162_ok fun B hl=>?_
 simp [Tryz.f162,w1]
 refine call_f (w_impl_AddRational a (-b) ha (sm_neg hb) h) (by simp [(q_neg b).2]) rfl fun hs0 hh0=>?_
 simp
theorem w_impl_MulRational (a b : _root_.Rat) (ha : smQ a) (hb : smQ b) (h : smQ (a * b)) : VC Tryz.prog 153 [.agg [.d (.int .i64 a.num),.d (.int .i64 (a.den : Int))],.agg [.d (.int .i64 b.num),.d (.int .i64 (b.den : Int))]]
  (fun _ r=>r = .tup [.agg [.d (.int .i64 (a * b).num),.d (.int .i64 ((a * b).den : Int))],.d (.bool true)]):=by
 obtain ⟨m1,m2,m3,m4,m5⟩:=sm_mul ha hb
 have w3 : IntKind.i64.wrap (a.num * b.num) = a.num * b.num:=wrap64_of (by omega) (by omega)
 have w4 : IntKind.i64.wrap ((a.den : Int) * b.den) = (a.den : Int) * b.den:=wrap64_of (by omega) (by omega)
 have hp : (0 : Int) < (a.den : Int) * b.den:=den_mul
 refine VC.ofL EP s153 (by kernel_rfl) Tryz.func153 (by rfl) (by kernel_rfl) (by simp [Tryz.f153]) (by simp [Tryz.f153]) s153_ok fun B hl=>?_
 simp [Tryz.f153,]
 refine call_f (w_impl_bothValid a b ha hb) (by simp) rfl fun hs0 hh0=>?_
 simp [w3,w4]
 refine call_f (w_impl_NewRational (a.num * b.num) ((a.den : Int) * b.den) (a * b) (q_mul a b) (by omega) (by omega) (by omega) h) (by simp) rfl fun hs1 hh1=>?_
 simp
theorem w_impl_DivRational (a b : _root_.Rat) (ha : smQ a) (hb : smQ b) (hne : b ≠ 0) (h : smQ (a / b)) : VC Tryz.prog 159 [.agg [.d (.int .i64 a.num),.d (.int .i64 (a.den : Int))],.agg [.d (.int .i64 b.num),.d (.int .i64 (b.den : Int))]]
  (fun _ r=>r = .tup [.agg [.d (.int .i64 (a / b).num),.d (.int .i64 ((a / b).den : Int))],.d (.bool true)]):=by
 obtain ⟨m1,m2,m3,m4,m5⟩:=sm_mul ha hb
 have hbn:=num_ne hne
 have w3 : IntKind.i64.wrap (a.num * b.den) = a.num * b.den:=wrap64_of (by omega) (by omega)
 have w4 : IntKind.i64.wrap ((a.den : Int) * b.num) = (a.den : Int) * b.num:=wrap64_of (by omega) (by omega)
 have hp : (a.den : Int) * b.num ≠ 0:=Int.mul_ne_zero (by have:=sm_pos (q:=a); omega) hbn
 refine VC.ofL EP s159 (by kernel_rfl) Tryz.func159 (by rfl) (by kernel_rfl) (by simp [Tryz.f159]) (by simp [Tryz.f159]) s159_ok fun B hl=>?_
 simp [Tryz.f159,]
 refine call_f (w_impl_bothValid a b ha hb) (by simp) rfl fun hs0 hh0=>?_
 simp [w3,w4,hbn]
 refine call_f (w_impl_NewRational (a.num * b.den) ((a.den : Int) * b.num) (a / b) (q_div a b) hp (by omega) (by omega) h) (by simp) rfl fun hs1 hh1=>?_
 simp
theorem w_impl_CompareRationals (a b : _root_.Rat) (ha : smQ a) (hb : smQ b) : VC Tryz.prog 145 [.agg [.d (.int .i64 a.num),.d (.int .i64 (a.den : Int))],.agg [.d (.int .i64 b.num),.d (.int .i64 (b.den : Int))]]
  (fun _ r=>r = .d (.int .i64 (cmpQ a b))):=by
 obtain ⟨m1,m2,m3,m4,m5⟩:=sm_mul ha hb
 have w1 : IntKind.i64.wrap (a.num * b.den) = a.num * b.den:=wrap64_of (by omega) (by omega)
 have w2 : IntKind.i64.wrap (b.num * a.den) = b.num * a.den:=wrap64_of (by omega) (by omega)
 refine VC.ofL EP s145 (by kernel_rfl) Tryz.func145 (by rfl) (by kernel_rfl) (by simp [Tryz.f145]) (by simp [Tryz.f145]) s145_ok fun B hl=>?_
 simp [Tryz.f145,]
 refine call_f (w_impl_bothValid a b ha hb) (by simp) rfl fun hs0 hh0=>?_
 simp [w1,w2]
 refine call_f (w_impl_compareInts (a.num * b.den) (b.num * a.den)) (by simp) rfl fun hs1 hh1=>?_
 simp [cmpQ_eq]
end
section
end
end Go.Proofs.YtglilmkmkdkedaaGreatDoor
namespace Go.Proofs.YtglilmkmkdkedaaGreatDoor
open Go.Vs Go.Proofs Go
set_option maxRecDepth 100000
set_option maxHeartbeats 1000000
section
attribute [local simp] pS cP eQ_def
theorem w_impl_allValid (l : List _root_.Rat) (h : ∀ q ∈ l,smQ q) : VC Tryz.prog 142 [.d (pS eQ l)] (fun _ r=>r = .d (.bool true)):=by
 refine VC.ofL EP s142 (by kernel_rfl) Tryz.func142 (by rfl) (by kernel_rfl) (by simp [Tryz.f142]) (by simp [Tryz.f142]) s142_ok fun B hl=>?_
 simp [maxLen] at hl
 simp [Tryz.f142,]
 refine loop_rule (X:=Nat) (fun i=>i <= l.length) (fun i=>[(5,.d (.pl (l.map eQ))),(6,.d (.int .i64 l.length)),(7,.d (.int .i64 i))]) (fun _=>[]) (fun i=>l.length - i) 0 (by simp) (by simp) (by simp) ?_
 intro i hs t m hi hh
 by_cases hlt : i < l.length
 ·have hwi:=wr1 (i:=i) (by omega)
  simp [hlt,]
  refine call_f (w_impl_IsValidRational l[i] (h _ (List.getElem_mem hlt))) (by simp) rfl fun hs1 hh1=>?_
  try simp at hh1
  simp [hwi]
  exact back (i + 1) (by omega) (by omega) rfl (by simp <;> omega) (by simp) (by simp)
 ·simp [hlt]
theorem e_impl_copyRationals (l : List _root_.Rat) (hb : l.length <= 4294967296) :
  VC Tryz.prog 148 [.d (pS eQ l)] (fun n r=>∃ g : Option Nat,r = .d (.sl g (some (87,2)) (l.map eQ)) /\ (∀ k,g = some k -> n <= k) /\ (g = none -> l = [])):=by
 refine VC.of E s148 (by kernel_rfl) Tryz.func148 (by rfl) (by kernel_rfl) (by simp [Tryz.f148]) (by simp [Tryz.f148]) s148_ok fun B=>?_
 have hL : LenOk 16 l.length:=⟨by omega,by simp only [maxLen]; omega⟩
 have hp : hpLL (l.map eQ) = false:=hp_eQs l
 simp [Tryz.f148,hL,hp,List.take_of_length_le]
 intro γ hs' h1 hg
 obtain ⟨q1,q2⟩:=gam_at hg (k:=3) (T:=87) (sz:=2) (es:=l.map eQ) (by simp)
 clear hg
 refine ⟨fun k hk=>(q1 k hk).1,fun h=>?_⟩
 exact Classical.byContradiction fun hl=>q2 (by simpa using hl) h
theorem w_impl_DotProduct (u v : List _root_.Rat) (hlen : u.length = v.length) (h : DotS u.length (fnL u) (fnL v)) :
  VC Tryz.prog 144 [.d (pS eQ u),.d (pS eQ v)] (fun _ r=>r = .tup [.agg [.d (.int .i64 (dotF u.length (fnL u) (fnL v)).num),.d (.int .i64 ((dotF u.length (fnL u) (fnL v)).den : Int))],.d (.bool true)]):=by
 refine VC.ofL EP s144 (by kernel_rfl) Tryz.func144 (by rfl) (by kernel_rfl) (by simp [Tryz.f144]) (by simp [Tryz.f144]) s144_ok fun B hl=>?_
 simp [maxLen] at hl
 simp [Tryz.f144,s144_7,s144_7,hlen]
 refine loop_rule (X:=Nat) (fun i=>i <= v.length) (fun i=>[(0,.d (.pl (u.map eQ))),(1,.d (.pl (v.map eQ))),(4,.ptr 4 0 0),(6,.ptr 6 0 0),(20,.d (.int .i64 v.length)),(21,.d (.int .i64 i))]) (fun i=>[(4,some (.box [.d (.int .i64 0),.d (.int .i64 0)])),(6,some (.box [.d (.int .i64 (dotF i (fnL u) (fnL v)).num),.d (.int .i64 ((dotF i (fnL u) (fnL v)).den : Int))]))]) (fun i=>v.length - i) 0 (by simp) (by simp) (by simp [dotF]) ?_
 intro i hs t m hi hh
 by_cases hlt : i < v.length
 ·have hwi:=wr1 (i:=i) (by omega)
  have hlu : i < u.length:=by omega
  have a1:=h.sa i hlu
  have a2:=h.sx i hlu
  have a3:=h.sm i hlu
  have a4:=h.ss i (by omega)
  have a5:=h.ss (i + 1) (by omega)
  have e : dotF (i + 1) (fnL u) (fnL v) = dotF i (fnL u) (fnL v) + u[i] * v[i]:=by rw [dotF,fnL_at hlu,fnL_at hlt]
  rw [fnL_at hlu] at a1 a3
  rw [fnL_at hlt] at a2 a3
  rw [e] at a5
  simp [hlt,hlu,s144_7,]
  refine ⟨?_,?_⟩
  all_goals
   refine call_f (w_impl_MulRational u[i] v[i] a1 a2 a3) (by simp) rfl fun hs1 hh1=>?_
   try simp at hh1
   simp [s144_7,]
   refine call_f (w_impl_AddRational (dotF i (fnL u) (fnL v)) (u[i] * v[i]) a4 a3 a5) (by simp) rfl fun hs2 hh2=>?_
   try simp at hh2
   simp [hwi,s144_7,]
   exact back (i + 1) (by omega) (by omega) rfl (by simp <;> omega) (by simp) (by simp [e])
 ·have hn : i = v.length:=by omega
  simp [hlt,hn,s144_7,]
theorem w_impl_MatrixVectorProduct (A : List (List _root_.Rat)) (x : List _root_.Rat) (hb : A.length <= 4294967296) (hr : ∀ r ∈ A,r.length = x.length) (h : ∀ r ∈ A,DotS x.length (fnL r) (fnL x)) :
  VC Tryz.prog 160 [.d (pS (cP eQ) A),.d (pS eQ x)] (fun _ r=>r = .tup [.d (pS eQ (A.map fun r=>dotF x.length (fnL r) (fnL x))),.d (.bool true)]):=by
 refine VC.ofL EP s160 (by kernel_rfl) Tryz.func160 (by rfl) (by kernel_rfl) (by simp [Tryz.f160]) (by simp [Tryz.f160]) s160_ok fun B hl=>?_
 clear hl
 simp [Tryz.f160,]
 obtain ⟨F,hF⟩ : ∃ F : List _root_.Rat -> _root_.Rat,F = fun r=>dotF x.length (fnL r) (fnL x):=⟨_,rfl⟩
 refine loop_ruleL (X:=Nat) (fun i _=>i <= A.length) (fun i=>[(1,.d (.pl (x.map eQ))),(6,.own 900 0 i),(11,.d (.pl (A.map (cP eQ)))),(12,.d (.int .i64 A.length)),(13,.d (.int .i64 i))]) (fun i=>[(900,some (.row 87 2 (((A.take i).map F).map eQ)))]) (fun i=>A.length - i) ?_ ?_
 ·refine (lead_slot 6 900 87 2 (by omega) (by omega) (by simp)).bind ?_
  rintro _ rfl
  exact Lead.of ⟨0,by omega,rfl,rfl,Nat.le_refl _,by simp,by simp⟩
 intro i hs t m hi hh
 by_cases hlt : i < A.length
 ·have hwi:=wr1 (i:=i) (by omega)
  have hL : LenOk 16 (i + 1):=⟨by omega,by simp only [maxLen]; omega⟩
  have hm:=List.getElem_mem hlt
  have hd:=h _ hm
  have hrl:=hr _ hm
  have hst : (A.map (eQ ∘ F)).take (i + 1) = (A.map (eQ ∘ F)).take i ++ [eQ (F A[i])]:=by rw [List.take_succ_eq_append_getElem (by simpa using hlt)]; simp
  have hFi : F A[i] = dotF A[i].length (fnL A[i]) (fnL x):=by rw [hF,hrl]
  simp [hlt,]
  refine call_f (w_impl_DotProduct A[i] x hrl (by rw [hrl]; exact hd)) (by simp) rfl fun hs1 hh1=>?_
  try simp at hh1
  rw [<- hFi]
  have hmin : min i A.length = i:=by omega
  simp [hwi,hL,hmin,]
  exact back (i + 1) (by omega) (by omega) rfl (by simp <;> omega) (by simp) (by simp [hst])
 ·have hn : i = A.length:=by omega
  subst hn
  simp [List.take_of_length_le,hF]
theorem w_impl_IsValidLinearProgram (A : List (List _root_.Rat)) (n : Nat) (h : LPok A n) :
  VC Tryz.prog 133 [.agg [.d (pS (cP eQ) A),.d (pS eQ (List.replicate A.length 1)),.d (pS eQ (List.replicate n 1))]] (fun _ r=>r = .d (.bool true)):=by
 have h1:=h.n1
 have h2:=h.n4
 have h3:=h.m1
 have h4:=h.m5
 have e1 : inR (n : Int) 1 5 = true:=by simp [inR]; omega
 have e2 : inR (A.length : Int) 1 5 = true:=by simp [inR]; omega
 refine VC.ofL EP s133 (by kernel_rfl) Tryz.func133 (by rfl) (by kernel_rfl) (by simp [Tryz.f133]) (by simp [Tryz.f133]) s133_ok fun B hl=>?_
 clear hl
 simp [Tryz.f133,]
 refine call_f (w_impl_within n 1 5) (by simp) rfl fun hs0 hh0=>?_
 simp [e1]
 refine call_f (w_impl_within A.length 1 5) (by simp) rfl fun hs1 hh1=>?_
 simp [e2]
 refine call_f (w_impl_allValid (List.replicate A.length 1) rep_sm) (by simp) rfl fun hs2 hh2=>?_
 simp
 refine call_f (w_impl_allValid (List.replicate n 1) rep_sm) (by simp) rfl fun hs3 hh3=>?_
 simp
 refine loop_rule (X:=Nat) (fun i=>i <= A.length) (fun i=>[(3,.d (.int .i64 n)),(41,.d (.pl (A.map (cP eQ)))),(42,.d (.int .i64 A.length)),(43,.d (.int .i64 i))]) (fun _=>[]) (fun i=>A.length - i) 0 (by simp) (by simp) (by simp) ?_
 intro i hs t m hi hh
 by_cases hlt : i < A.length
 ·have hwi:=wr1 (i:=i) (by omega)
  have hm:=List.getElem_mem hlt
  have hrl:=h.m01.len _ hm
  simp [hlt,hrl,]
  refine call_f (w_impl_allValid A[i] (h.sm hm)) (by simp) rfl fun hs1 hh1=>?_
  try simp at hh1
  simp [hwi]
  exact back (i + 1) (by omega) (by omega) rfl (by simp <;> omega) (by simp) (by simp)
 ·simp [hlt]
theorem w_impl_EqualRationals (a b : List _root_.Rat) : VC Tryz.prog 152 [.d (pS eQ a),.d (pS eQ b)] (fun _ r=>r = .d (.bool (decide (a = b)))):=by
 refine VC.ofL EP s152 (by kernel_rfl) Tryz.func152 (by rfl) (by kernel_rfl) (by simp [Tryz.f152]) (by simp [Tryz.f152]) s152_ok fun B hl=>?_
 simp [maxLen] at hl
 by_cases hlen : a.length = b.length
 case neg=>
  have : a ≠ b:=fun e=>hlen (by rw [e])
  simp [Tryz.f152,s152_6,s152_6,hlen,this]
 simp [Tryz.f152,s152_6,s152_6,hlen]
 refine loop_rule (X:=Nat) (fun i=>i <= b.length /\ a.take i = b.take i) (fun i=>[(0,.d (.pl (a.map eQ))),(1,.d (.pl (b.map eQ))),(12,.d (.int .i64 b.length)),(13,.d (.int .i64 i))]) (fun _=>[]) (fun i=>b.length - i) 0 (by simp) (by simp) (by simp) ?_
 intro i hs t m hi hh
 by_cases hlt : i < b.length
 ·have hwi:=wr1 (i:=i) (by omega)
  have hla : i < a.length:=by omega
  have hst:=eq_step hla hlt hi.2
  have hq : a[i] = b[i] ↔ (a[i].num = b[i].num /\ (a[i].den : Int) = b[i].den):=by
   rw [<- qR_inj,PRat.eq_iff]; rfl
  by_cases he : a[i] = b[i]
  ·simp [hlt,hla,he,hwi,s152_6,]
   exact back (i + 1) ⟨by omega,hst.1 he⟩ (by omega) rfl (by simp <;> omega) (by simp) (by simp)
  ·have hab : a ≠ b:=fun e=>he (by subst e; rfl)
   rw [hq] at he
   by_cases h1 : a[i].num = b[i].num
   ·have h2 : ¬ a[i].den = b[i].den:=fun e=>he ⟨h1,by rw [e]⟩
    simp [hlt,hla,h1,h2,hab,s152_6,]
   ·simp [hlt,hla,h1,hab,s152_6,]
 ·have hab : a = b:=eq_all (by omega) hlen hi.2
  simp [hlt,hab,s152_6,]
theorem w_impl_feasible (A : List (List _root_.Rat)) (n : Nat) (x : List _root_.Rat) (h : LPok A n) (hx : SolB n x) :
  VC Tryz.prog 151 [.agg [.d (pS (cP eQ) A),.d (pS eQ (List.replicate A.length 1)),.d (pS eQ (List.replicate n 1))],.d (pS eQ x),.d (.int .i64 1)] (fun _ r=>r = .d (.bool (feasQ A x))):=by
 have hxl:=hx.len
 have hn4:=h.n4
 have hm5:=h.m5
 refine VC.ofL EP s151 (by kernel_rfl) Tryz.func151 (by rfl) (by kernel_rfl) (by simp [Tryz.f151]) (by simp [Tryz.f151]) s151_ok fun B hl=>?_
 clear hl
 simp [Tryz.f151,s151_15,s151_15,]
 refine call_f (w_impl_IsValidLinearProgram A n h) (by simp) rfl fun hs0 hh0=>?_
 simp [hxl]
 refine call_f (w_impl_allValid x (sol_sm hx h.n4)) (by simp) rfl fun hs1 hh1=>?_
 try simp at hh1
 simp
 refine loop_rule (X:=Nat) (fun i=>i <= x.length /\ ∀ q ∈ x.take i,0 <= q) (fun i=>[(1,.d (.pl (x.map eQ))),(2,.d (.int .i64 1)),(3,.ptr 3 0 0),(29,.d (.pl (x.map eQ))),(30,.d (.int .i64 x.length)),(31,.d (.int .i64 i))])
  (fun _=>[(3,some (.box [.d (.pl (A.map (cP eQ))),.d (.pl ((List.replicate A.length (1 : _root_.Rat)).map eQ)),.d (.pl ((List.replicate n (1 : _root_.Rat)).map eQ))]))]) (fun i=>x.length - i) 0 (by simp) (by simp [hxl]) (by simp) ?_
 intro i hs t m hi hh
 by_cases hlt : i < x.length
 ·have hwi:=wr1 (i:=i) (by omega)
  by_cases hneg : x[i].num < 0
  ·have hf : feasQ A x = false:=by
    have : ¬ 0 <= x[i]:=by rw [nneg_num]; omega
    rw [feasQ,Bool.and_eq_false_iff]
    left
    rw [List.all_eq_false]
    exact ⟨x[i],List.getElem_mem hlt,by simp [this]⟩
   simp [hlt,hneg,hf,s151_15,]
  ·have h0 : 0 <= x[i]:=by rw [nneg_num]; omega
   simp [hlt,hneg,hwi,s151_15,]
   refine back (i + 1) ⟨by omega,fun q hq=>?_⟩ (by omega) rfl (by simp <;> omega) (by simp) (by simp)
   rw [List.take_succ_eq_append_getElem hlt] at hq
   rcases List.mem_append.1 hq with hq | hq
   ·exact hi.2 q hq
   ·rw [List.mem_singleton.1 hq]; exact h0
 have hin : i = x.length:=by omega
 obtain ⟨F,hF⟩ : ∃ F : List _root_.Rat -> _root_.Rat,F = fun r=>dotF x.length (fnL r) (fnL x):=⟨_,rfl⟩
 have hall : x.all (fun q=>decide (0 <= q)) = true:=by
  rw [List.all_eq_true]; intro q hq
  exact decide_eq_true (hi.2 q (by rw [hin,List.take_of_length_le (Nat.le_refl _)]; exact hq))
 simp [hlt,s151_15,]
 refine call_pq (post:=fun _ r=>r = .tup [.d (pS eQ (A.map F)),.d (.bool true)]) (by rw [hF]; exact w_impl_MatrixVectorProduct A x (by omega) (fun r hr=>by rw [h.m01.len r hr,hxl]) (fun r hr=>by rw [hxl]; exact h.dots hx hr)) (by simp) fun r2 n2 hs2 hn2 hm2 hp2 hl2=>?_
 subst hp2
 try simp at hn2
 simp [s151_15,]
 refine loop_rule (X:=Nat) (fun j=>j <= A.length /\ ∀ r ∈ A.take j,1 <= F r) (fun j=>[(2,.d (.int .i64 1)),(3,.ptr 3 0 0),(48,.d (.pl ((A.map F).map eQ))),(49,.d (.int .i64 A.length)),(50,.d (.int .i64 j))])
  (fun _=>[(3,some (.box [.d (.pl (A.map (cP eQ))),.d (.pl ((List.replicate A.length (1 : _root_.Rat)).map eQ)),.d (.pl ((List.replicate n (1 : _root_.Rat)).map eQ))]))]) (fun j=>A.length - j) 0 (by simp) (by simp) (by simp) ?_
 intro j hs3 t3 m3 hj hh3
 by_cases hlj : j < A.length
 ·have hwj:=wr1 (i:=j) (by omega)
  have hm:=List.getElem_mem hlj
  have hs:=(h.dots hx hm).ss n (Nat.le_refl _)
  have hFj : smQ (F A[j]):=by rw [hF]; simp only [hxl]; exact hs
  have hw1 : ∀ z : Int,-1 <= z -> z <= 1 -> IntKind.i64.wrap z = z:=fun z h1 h2=>wrap64_of (by omega) (by omega)
  have hcb : -1 <= cmpQ (F A[j]) 1 /\ cmpQ (F A[j]) 1 <= 1:=by unfold cmpQ; split <;> (try split) <;> omega
  simp [hlj,s151_15,]
  refine call_f (w_impl_CompareRationals (F A[j]) 1 hFj sm_one) (by simp) rfl fun hs4 hh4=>?_
  try simp at hh4
  simp [hw1 _ hcb.1 hcb.2,hwj]
  by_cases hlt1 : F A[j] < 1
  ·have hf : feasQ A x = false:=by
    rw [feasQ,Bool.and_eq_false_iff]
    right
    rw [List.all_eq_false]
    refine ⟨A[j],hm,?_⟩
    have : ¬ 1 <= dotF x.length (fnL A[j]) (fnL x):=by rw [hF] at hlt1; simp only at hlt1; grind
    simp [this]
   simp [cmpQ_lt.2 hlt1,hf]
  ·have h0 : 1 <= F A[j]:=by grind
   have hc : ¬ cmpQ (F A[j]) 1 < 0:=fun e=>hlt1 (cmpQ_lt.1 e)
   simp [hc]
   refine back (j + 1) ⟨by omega,fun q hq=>?_⟩ (by omega) rfl (by simp <;> omega) (by simp) (by simp)
   rw [List.take_succ_eq_append_getElem hlj] at hq
   rcases List.mem_append.1 hq with hq | hq
   ·exact hj.2 q hq
   ·rw [List.mem_singleton.1 hq]; exact h0
 ·have hf : feasQ A x = true:=by
   rw [feasQ,hall,Bool.true_and,List.all_eq_true]
   intro r hr
   have:=hj.2 r (by rw [List.take_of_length_le (by omega)]; exact hr)
   rw [hF] at this
   exact decide_eq_true this
  simp [hlj,hf]
theorem w_impl_bit (b : Bool) : VC Tryz.prog 135 [.d (.bool b)] (fun _ r=>r = .d (.int .i64 (if b then 1 else 0))):=by
 refine VC.ofL EP s135 (by kernel_rfl) Tryz.func135 (by rfl) (by kernel_rfl) (by simp [Tryz.f135]) (by simp [Tryz.f135]) s135_ok fun B hl=>?_
 cases b <;> simp [Tryz.f135,]
end
end Go.Proofs.YtglilmkmkdkedaaGreatDoor
namespace Go.Proofs.YtglilmkmkdkedaaGreatDoor
open Go.Vs Go.Proofs Go
set_option maxRecDepth 100000
set_option maxHeartbeats 1000000
section
attribute [local simp] pS cP eQ_def
end
end Go.Proofs.YtglilmkmkdkedaaGreatDoor
namespace Go.Proofs.YtglilmkmkdkedaaGreatDoor
open Go.Vs Go.Proofs Go
set_option maxRecDepth 100000
set_option maxHeartbeats 1000000
@[simp] theorem startX3 (a b c : V) (W : List Nat) (B : Nat) : St.startX [a, b, c] W none B = ⟨B, B, W, upd (upd (upd (fun _ => .tup []) 2 c) 1 b) 0 a, fun _ => none⟩ := by
  simp only [St.startX,St.mk.injEq,true_and]
  refine ⟨?_,startX_m W⟩
  funext i; match i with | 0=>rfl | 1=>rfl | 2=>rfl | _ + 3=>rfl
section
attribute [local simp] pS cP eQ_def
theorem x_impl_eliminate (g gp : Nat) (T : TypeId × Nat) (Tp : Option (TypeId × Nat)) (p n : Nat) (v r : List _root_.Rat) (h : ElimS n p v r) (hn : n <= 4) (hg : gp ≠ g) :
  VX Tryz.prog 158 [g] [.d (.sl (some g) (some T) (r.map eQ)),.d (.sl (some gp) Tp (v.map eQ)),.d (.int .i64 p)] none (fun _ res _ ws=>res = .d (.bool true) /\ ws = [.sl (some g) (some T) ((elimR p v r).map eQ)]):=by
 refine VX.of E s158 (by kernel_rfl) Tryz.func158 (by rfl) (by kernel_rfl) (by simp [Tryz.f158]) (by simp [Tryz.f158]) s158_ok ?_ ?_ fun B hB=>?_
 ·exact fun q hq=>.inl (by simp [idsVL,V.ids,D.ids]; simp at hq; exact .inl hq)
 ·exact fun cs h=>nomatch h
 have hlr:=h.lr
 have hlv:=h.lv
 have hp:=h.hp
 have ep : fnL r p = r[p]'(by omega):=fnL_at (by omega)
 have ev : fnL v p = v[p]'(by omega):=fnL_at (by omega)
 have hf:=h.f
 have hr1:=h.r p hp
 have hv1:=h.v p hp
 have hne:=h.ne
 obtain ⟨f,hfd⟩ : ∃ f,f = fnL r p / fnL v p:=⟨_,rfl⟩
 rw [<- hfd] at hf
 have hdiv:=w_impl_DivRational (fnL r p) (fnL v p) hr1 hv1 hne (by rw [<- hfd]; exact hf)
 rw [<- hfd,ep,ev] at hdiv
 have hpv : ∀ d,reV (one g d) (.d (.sl (some gp) Tp (v.map eQ))) = .d (.sl (some gp) Tp (v.map eQ)):=fun d=>by
  have : one g d gp = none:=one_out hg
  simp [reV,reD,this]
 simp [Tryz.f158,s158_1,s158_7,s158_8,s158_1,s158_7,s158_8,show p < r.length by omega,show p < v.length by omega]
 refine ⟨?_,?_⟩
 all_goals
  refine call_pure hdiv rfl (by simp) rfl fun hs0 hh0=>?_
  try simp at hh0
  simp [s158_1,s158_7,s158_8,]
  refine loop_rule (X:=Nat) (fun k=>p <= k /\ k <= n + 1) (fun k=>[(0,.d (.sl (some g) (some T) ((elimT p k v r).map eQ))),(1,.d (.sl (some gp) Tp (v.map eQ))),(7,.ptr 7 0 0),(9,.d (.int .i64 k))]) (fun k=>[(7,some (.box [.d (.int .i64 f.num),.d (.int .i64 (f.den : Int))]))]) (fun k=>n + 1 - k) p (by omega) (by simp [elimT_zero]) (by simp) ?_
  intro k hs t m hk hh
  by_cases hlt : k < n + 1
  ·have hwk:=wr1 (i:=k) (by omega)
   have hkr : k < r.length:=by omega
   have hkv : k < v.length:=by omega
   have hqk:=h.q k (by omega)
   have hdk:=h.d k (by omega)
   have hrk:=h.r k (by omega)
   have hvk:=h.v k (by omega)
   have est:=elimT_succ (piv:=v) hk.1 hkr
   rw [<- hfd,fnL_at hkv] at hqk
   rw [fnL_at hkv] at hvk
   rw [fnL_at hkr] at hrk
   rw [<- hfd,fnL_at hkv,fnL_at hkr] at hdk
   rw [<- hfd,fnL_at hkv] at est
   have hat:=elimT_at (p:=p) (piv:=v) hkr
   obtain ⟨y,hy⟩ : ∃ y,y = r[k] - f * v[k]:=⟨_,rfl⟩
   have hmul:=w_impl_MulRational f v[k] hf hvk hqk
   have hsub:=w_impl_SubRational r[k] (f * v[k]) hrk hqk hdk
   rw [<- hy] at hsub est
   obtain ⟨L,hL⟩ : ∃ L,L = elimT p k v r:=⟨_,rfl⟩
   have hLl : L.length = n + 1:=by rw [hL]; simp [hlr]
   have hLk : k < L.length:=by omega
   have hat' : L[k] = r[k]:=by subst hL; exact hat
   rw [<- hL] at est ⊢
   have est2 : (L.map eQ).set k [.int .i64 y.num,.int .i64 (y.den : Int)] = (elimT p (k + 1) v r).map eQ:=by
    rw [est,<- set_map]; rfl
   have hLl2 : (elimT p (k + 1) v r).length = L.length:=by rw [est]; simp
   have hself:=re_self (g:=g) (T:=T) hLl2
   simp [hLk,hkv,s158_1,s158_7,s158_8,]
   refine ⟨?_,?_⟩
   all_goals
    refine call_pure hmul rfl (by simp) rfl fun hs1 hh1=>?_
    try simp at hh1
    simp [hLk,hat',s158_1,s158_7,s158_8,]
    refine ⟨?_,?_⟩
    all_goals
     refine call_pure hsub rfl (by simp) rfl fun hs2 hh2=>?_
     try simp at hh2
     simp [hLk,est2,hpv,hself,hwk,s158_1,s158_7,s158_8,]
     refine back (k + 1) (by omega) (by omega) rfl (by simp <;> omega) (by simp) (by simp)
  ·have hkn : k = n + 1:=by omega
   subst hkn
   simp [hlr,vendX,s158_1,s158_7,s158_8,]
   refine ⟨[0],fun γ hs' h1 h2=>?_⟩
   simp [elimT_all (show r.length <= n + 1 by omega)]
end
end Go.Proofs.YtglilmkmkdkedaaGreatDoor
namespace Go.Proofs.YtglilmkmkdkedaaGreatDoor
open Go.Vs Go.Proofs Go
set_option maxRecDepth 100000
set_option maxHeartbeats 1000000
theorem w_condI {P : Program} {E : Md} {sch : Nat -> Tr} {Q : Exit -> St -> Prop} {σ : St} (c : Operand) (x y : Code) : vwp P E sch (.cond c x y) Q σ = (isBool (σ.ev c) = true /\ if getB (σ.ev c) = true then vwp P E sch x Q σ else vwp P E sch y Q σ):=by
 rw [w_cond]
 cases getB (σ.ev c) <;> simp
section
attribute [local simp] pS cP eQ_def
end
end Go.Proofs.YtglilmkmkdkedaaGreatDoor
namespace Go.Proofs.YtglilmkmkdkedaaGreatDoor
open Go.Vs Go.Proofs Go
set_option maxRecDepth 100000
set_option maxHeartbeats 1000000
section
attribute [local simp] pS cP eQ_def
theorem e_impl_copyRationals1 (l : List _root_.Rat) (hb : l.length <= 4294967296) (hne : l ≠ []) :
  VC Tryz.prog 148 [.d (pS eQ l)] (fun n r=>∃ g : Nat,r = .d (.sl (some g) (some (87,2)) (l.map eQ)) /\ n <= g):=
 (e_impl_copyRationals l hb).weak fun n r ⟨g,h1,h2,h3⟩=>by
  cases g with
  | none=>exact absurd (h3 rfl) hne
  | some g=>exact ⟨g,h1,h2 g rfl⟩
structure RowI (R : List (List _root_.Rat)) (B i : Nat) (rows : List (Nat × List _root_.Rat)) (hs : Nat) : Prop where
 le : i <= R.length
 snd : rows.map (·.2) = R.take i
 nd : (rows.map (·.1)).Nodup
 lo : ∀ g ∈ rows.map (·.1),B <= g
 hi : ∀ g ∈ rows.map (·.1),g < hs
theorem RowI.len {R : List (List _root_.Rat)} {B i hs : Nat} {rows : List (Nat × List _root_.Rat)} (h : RowI R B i rows hs) : rows.length = i:=by
 have h1:=congrArg List.length h.snd
 have h2:=h.le
 simp only [List.length_map,List.length_take] at h1
 omega
theorem RowI.snoc {R : List (List _root_.Rat)} {B i hs hs' : Nat} {rows : List (Nat × List _root_.Rat)} (h : RowI R B i rows hs) (hi : i < R.length) {g : Nat} (h1 : B <= g) (h2 : g < hs') (h3 : g ∉ rows.map (·.1)) (h4 : hs <= hs') : RowI R B (i + 1) (rows ++ [(g,R[i])]) hs':=by
 refine ⟨hi,?_,?_,fun q hq=>?_,fun q hq=>?_⟩
 ·rw [List.map_append,h.snd,List.take_succ_eq_append_getElem hi]; rfl
 ·rw [List.map_append,List.nodup_append]
  refine ⟨h.nd,by simp,fun a ha b hb=>?_⟩
  simp at hb
  rintro rfl
  exact h3 (hb ▸ ha)
 ·rw [List.map_append] at hq
  rcases List.mem_append.1 hq with hq | hq
  ·exact h.lo q hq
  ·simp at hq; rw [hq]; exact h1
 ·rw [List.map_append] at hq
  rcases List.mem_append.1 hq with hq | hq
  ·exact Nat.lt_of_lt_of_le (h.hi q hq) h4
  ·simp at hq; rw [hq]; exact h2
structure MatI (R : List (List _root_.Rat)) (n B p gm : Nat) (rows : List (Nat × List _root_.Rat)) : Prop where
 pn : p <= n
 gj : gj R p = some (rows.map (·.2))
 nd : (rows.map (·.1)).Nodup
 lo : ∀ g ∈ rows.map (·.1),B <= g
 gB : B <= gm
 gN : gm ∉ rows.map (·.1)
theorem MatI.fst {R : List (List _root_.Rat)} {n B p gm : Nat} {rows rows' : List (Nat × List _root_.Rat)} (h : MatI R n B p gm rows) (hp : (rows'.map (·.1)).Perm (rows.map (·.1))) : (rows'.map (·.1)).Nodup /\ (∀ g ∈ rows'.map (·.1),B <= g) /\ gm ∉ rows'.map (·.1):=
 ⟨hp.nodup_iff.2 h.nd,fun g hg=>h.lo g (hp.mem_iff.1 hg),fun hg=>h.gN (hp.mem_iff.1 hg)⟩
theorem e_impl_SolveLinearSystem (n : Nat) (R : List (List _root_.Rat)) (hn1 : 1 <= n) (hn : n <= 4) (hl0 : R.length = n) (hr : ∀ r ∈ R,r.length = n + 1) (h01 : ∀ r ∈ R,∀ q ∈ r,q = 0 \/ q = 1) :
  VC Tryz.prog 150 [.d (pS (cP eQ) (R.map (·.take n))),.d (pS eQ (R.map fun r=>fnL r n))]
   (fun _ r=>match solQ n R with
    | some x=>∃ id T,r = .tup [.d (.sl id T (x.map eQ)),.d (.bool true)]
    | none=>r = .tup [.d (.sl none none []),.d (.bool false)]):=by
 have hb : Bd n 0 R:=bd_01 hl0 h01
 obtain ⟨RB,hRB⟩ : ∃ RB,RB = R.map fun r=>fnL r n:=⟨_,rfl⟩
 obtain ⟨MA,hMA⟩ : ∃ MA,MA = R.map (·.take n):=⟨_,rfl⟩
 have hRBl : RB.length = n:=by rw [hRB]; simpa using hl0
 have hMAl : MA.length = n:=by rw [hMA]; simpa using hl0
 have hRBs : ∀ q ∈ RB,smQ q:=fun q hq=>by
  rw [hRB] at hq
  obtain ⟨r,hr',rfl⟩:=List.mem_map.1 hq
  have:=hr r hr'
  rw [fnL_at (by omega)]
  exact sm_01 (h01 r hr' _ (List.getElem_mem _))
 have hMAi : ∀ i (hi : i < R.length),MA[i]'(by omega) = R[i].take n:=fun i hi=>by subst hMA; simp
 have hRBi : ∀ i (hi : i < R.length),RB[i]'(by omega) = fnL R[i] n:=fun i hi=>by subst hRB; simp
 rw [<- hRB,<- hMA]
 refine VC.of E s150 (by kernel_rfl) Tryz.func150 (by rfl) (by kernel_rfl) (by simp [Tryz.f150]) (by simp [Tryz.f150]) s150_ok fun B=>?_
 simp [-w_condT,w_condI,Tryz.f150,s150_10,s150_20,s150_24,s150_30,s150_10,s150_20,s150_24,s150_30,hRBl,hMAl,show (n : Int) <= 6 by omega,show ¬ (6 : Int) < n by omega]
 refine call_pure (w_impl_allValid RB hRBs) rfl (by simp) rfl fun hs0 hh0=>?_
 try simp at hh0
 simp [-w_condT,w_condI,s150_10,s150_20,s150_24,s150_30,hMAl]
 refine loop_ruleL (X:=Nat × List (Nat × List _root_.Rat)) (fun x hs=>RowI R B x.1 x.2 hs) (fun x=>[(1,.d (.pl (RB.map eQ))),(6,.d (.int .i64 n)),(7,.own 700 0 x.2.length),(32,.d (.pl (MA.map (cP eQ)))),(33,.d (.int .i64 n)),(34,.d (.int .i64 x.1))])
  (fun x=>[(700,some (.row 127 1 (x.2.map (cR (87,2)))))]) (fun x=>n - x.1) ?_ ?_
 ·refine (lead_slot 7 700 127 1 (by omega) (by omega) (by simp)).bind ?_
  rintro _ rfl
  exact Lead.of ⟨(0,[]),⟨by simp,by simp,by simp,by simp,by simp⟩,rfl,rfl,Nat.le_refl _,by simp,by simp⟩
 rintro ⟨i,rows⟩ hs1 t m hI hh1
 simp only
 have hIl : rows.length = i:=hI.len
 have hle : i <= R.length:=hI.le
 by_cases hlt : i < n
 ·have hiR : i < R.length:=by omega
  have hwi:=wr1 (i:=i) (by omega)
  have hrm:=List.getElem_mem hiR
  have hrl:=hr _ hrm
  obtain ⟨a,ha⟩ : ∃ a,a = MA[i]'(by omega):=⟨_,rfl⟩
  have ha2 : a = R[i].take n:=by rw [ha]; exact hMAi i hiR
  have hal : a.length = n:=by rw [ha2]; simp; omega
  have hasm : ∀ q ∈ a,smQ q:=fun q hq=>by rw [ha2] at hq; exact sm_01 (h01 _ hrm q (List.mem_of_mem_take hq))
  obtain ⟨b,hb'⟩ : ∃ b,b = RB[i]'(by omega):=⟨_,rfl⟩
  have hab : a ++ [b] = R[i]:=by rw [ha2,hb',hRBi i hiR]; exact app_last hrl
  refine anyQ2 fun Q=>?_
  simp [-w_condT,w_condI,hlt,hMAl,<- ha,hal,s150_10,s150_20,s150_24,s150_30,]
  refine call_pure (w_impl_allValid a hasm) rfl (by simp) rfl fun hs2 hh2=>?_
  try simp at hh2
  simp [-w_condT,w_condI,hRBl,hlt,<- hb',s150_10,s150_20,s150_24,s150_30,]
  have hane : a ≠ []:=fun e=>by rw [e] at hal; simp at hal; omega
  have hL1 : LenOk 16 (n + 1):=⟨by omega,by simp only [maxLen]; omega⟩
  have hL2 : LenOk 24 (i + 1):=⟨by omega,by simp only [maxLen]; omega⟩
  have htk : (a.map eQ ++ [eQ b]).take (n + 1) = a.map eQ ++ [eQ b]:=List.take_of_length_le (by simp; omega)
  rw [eQ_def b] at htk
  refine ⟨?_,?_⟩
  all_goals
   refine call_o (e_impl_copyRationals1 a (by omega) hane) (by simp) fun r2 n2 hs3 hn2 hm2 hp2=>?_
   obtain ⟨g2,rfl,hg2⟩:=hp2
   refine ⟨87,2,a.map eQ,by omega,.inr ⟨g2,rfl,hg2,by simp⟩,?_⟩
   try simp at hn2
   simp [-w_condT,w_condI,hal,hIl,hRBl,hlt,<- hb',hL1,s150_10,s150_20,s150_24,s150_30,]
   refine bs1 (k':=50) (ks:=[]) (by simp) (by simp) fun γ hs4 h4 hg=>?_
   obtain ⟨q1,q2⟩:=gam_at hg (k:=50) (T:=87) (sz:=2) (es:=(a ++ [b]).map eQ) (by simp)
   have q3:=gam_row2 hg (k:=50) (k2:=700) (T:=87) (sz:=2) (es:=(a ++ [b]).map eQ) (T2:=127) (sz2:=1) (es2:=rows.map (cR (87,2))) (by simp) (by simp)
   clear hg
   obtain ⟨g,hgk⟩:=Option.ne_none_iff_exists'.1 (q2 (by simp))
   obtain ⟨q4,q5⟩:=q1 g hgk
   replace q4 : B <= g:=q4
   have q6:=q3 g hgk
   simp only [ids_cRs] at q6
   simp at h4
   simp [-w_condT,w_condI,hal,hIl,hL2,hgk,hwi,s150_10,s150_20,s150_24,s150_30,]
   refine back2 (i + 1,rows ++ [(g,R[i])]) (hI.snoc (hs':=hs4) hiR q4 q5 q6 (by omega)) (by simp only; omega) rfl (by simp <;> omega) (by simp [hIl]) (by simp [cR,<- hab,htk])
 have hin : i = n:=by omega
 subst hin
 have hrows : rows.map (·.2) = R:=by rw [hI.snd,List.take_of_length_le (by omega)]
 simp [-w_condT,w_condI,s150_10,s150_20,s150_24,s150_30,hIl]
 refine loop_ruleL (X:=Nat × Nat × List (Nat × List _root_.Rat)) (fun x _=>MatI R i B x.1 x.2.1 x.2.2) (fun x=>[(6,.d (.int .i64 i)),(7,.d (.sl (some x.2.1) (some (127,1)) (x.2.2.map (cR (87,2))))),(10,.d (.int .i64 x.1))]) (fun _=>[]) (fun x=>i - x.1) ?_ ?_
 ·refine (lead_frz 700 (T:=127) (sz:=1) (es:=rows.map (cR (87,2))) (by simp)).bind ?_
  rintro _ ⟨γ,hs',g1,hg,rfl⟩
  obtain ⟨q1,q2⟩:=gam_at hg (k:=700) (T:=127) (sz:=1) (es:=rows.map (cR (87,2))) (by simp)
  have q3:=gam_row hg (k:=700) (T:=127) (sz:=1) (es:=rows.map (cR (87,2))) (by simp)
  clear hg
  have hne : rows.map (cR (87,2)) ≠ []:=fun e=>by have:=congrArg List.length e; simp at this; subst this; simp at hIl; omega
  obtain ⟨gm,hgm⟩:=Option.ne_none_iff_exists'.1 (q2 hne)
  have q4 : B <= gm:=(q1 gm hgm).1
  have q5:=q3 gm hgm
  simp only [ids_cRs] at q5
  have htk : (rows.map (cR (87,2))).take i = rows.map (cR (87,2)):=List.take_of_length_le (by simp; omega)
  exact Lead.of ⟨(0,gm,rows),⟨by simp,by rw [hrows]; rfl,hI.nd,hI.lo,q4,q5⟩,rfl,rfl,g1,by simp [hgm,hIl,htk],by simp⟩
 rintro ⟨p,gm,S⟩ hs2 t2 m2 hM hh2
 clear hI hIl hrows
 have hpn : p <= i:=hM.pn
 obtain ⟨TM,hTM⟩ : ∃ TM : TypeId × Nat,TM = (127,1):=⟨_,rfl⟩
 obtain ⟨T,hT⟩ : ∃ T : TypeId × Nat,T = (87,2):=⟨_,rfl⟩
 simp only [<- hTM,<- hT]
 have hgj:=gj_inv hl0 hr hb p hpn _ hM.gj
 have hSl : S.length = i:=by have:=hgj.1.len; simpa using this
 have hSr : ∀ k (hk : k < S.length),S[k].2.length = i + 1:=fun k hk=>hgj.1.row _ (List.mem_map.2 ⟨_,List.getElem_mem hk,rfl⟩)
 have hSq : ∀ k (hk : k < S.length) j,rowQ (S.map (·.2)) k j = fnL S[k].2 j:=fun k hk j=>by rw [rowQ,gd (by simpa using hk)]; simp
 by_cases hlt2 : p < i
 ·have hwp:=wr1 (i:=p) (by omega)
  simp [-w_condT,w_condI,hlt2,s150_10,s150_20,s150_24,s150_30,]
  refine loop_rule (X:=Nat) (fun k=>p <= k /\ k <= i /\ ∀ j,p <= j -> j < k -> rowQ (S.map (·.2)) j p = 0) (fun k=>[(6,.d (.int .i64 i)),(7,.d (.sl (some gm) (some TM) (S.map (cR T)))),(10,.d (.int .i64 p)),(11,.d (.int .i64 k))]) (fun _=>[]) (fun k=>i - k) p ⟨by omega,by omega,fun j h1 h2=>by omega⟩ (by simp) (by simp) ?_
  intro k hs3 t3 m3 hk hh3
  by_cases hki : k < i
  ·have hwk:=wr1 (i:=k) (by omega)
   obtain ⟨gk,r,hSk⟩ : ∃ gk r,S[k]'(by omega) = (gk,r):=⟨_,_,rfl⟩
   have hrl : r.length = i + 1:=by have:=hSr k (by omega); rw [hSk] at this; exact this
   have hpr : p < r.length:=by omega
   have hq : rowQ (S.map (·.2)) k p = r[p]:=by rw [hSq k (by omega),hSk]; exact fnL_at hpr
   obtain ⟨es,hes⟩ : ∃ es,es = S.map (cR T):=⟨_,rfl⟩
   have hesl : es.length = i:=by rw [hes]; simpa using hSl
   have hek : es[k]'(by omega) = [.sl (some gk) (some T) (r.map eQ)]:=by subst hes; simp [hSk,cR]
   rw [<- hes]
   by_cases hz : r[p].num = 0
   ·refine anyQ fun Q=>?_
    simp [-w_condT,w_condI,hki,hesl,hek,hpr,hz,hwk,s150_10,s150_20,s150_24,s150_30,]
    refine back (k + 1) ⟨by omega,by omega,fun j h1 h2=>?_⟩ (by omega) rfl (by simp <;> omega) (by simp [hes]) (by simp)
    by_cases e : j = k
    ·subst e; rw [hq]; exact _root_.Rat.num_eq_zero.1 hz
    ·exact hk.2.2 j h1 (by omega)
   have hpv : pivAt (S.map (·.2)) p = k:=piv_eq hk.1 hk.2.2 (.inr ⟨by simp; omega,by rw [hq]; exact fun e=>hz (by rw [e]; rfl)⟩)
   have hst:=stp_of hn hl0 hr hb hM.gj hlt2 hpv hki
   obtain ⟨gp,v,hSp⟩ : ∃ gp v,S[p]'(by omega) = (gp,v):=⟨_,_,rfl⟩
   have hep : es[p]'(by omega) = [.sl (some gp) (some T) (v.map eQ)]:=by subst hes; simp [hSp,cR]
   have hgk : gk ∈ S.map (·.1):=List.mem_map.2 ⟨_,List.getElem_mem (show k < S.length by omega),by rw [hSk]⟩
   have hgp : gp ∈ S.map (·.1):=List.mem_map.2 ⟨_,List.getElem_mem (show p < S.length by omega),by rw [hSp]⟩
   have hmk : gm ≠ gk:=fun e=>hM.gN (e ▸ hgk)
   have hmp : gm ≠ gp:=fun e=>hM.gN (e ▸ hgp)
   have hpe : p < es.length:=by omega
   have hgB:=hM.gB
   have hn1 : gm ∉ idsLL es:=by rw [hes,ids_cRs]; exact hM.gN
   obtain ⟨es1,hes1⟩ : ∃ es1,es.set p [.sl (some gk) (some T) (r.map eQ)] = es1:=⟨_,rfl⟩
   have hes1l : es1.length = i:=by rw [<- hes1]; simpa using hesl
   have hn2 : gm ∉ idsLL es1:=by rw [<- hes1]; exact nin_set hn1 (by simp [idsL,D.ids,hmk])
   have hek1 : ∃ c,es1[k]'(by omega) = [c]:=by
    subst hes1; rw [List.getElem_set]; split
    ·exact ⟨_,rfl⟩
    ·exact ⟨_,hek⟩
   obtain ⟨c1,hek1⟩:=hek1
   have hre1:=re_mset (gm:=gm) (TM:=TM) (es:=es) (i:=p) (e':=[.sl (some gk) (some T) (r.map eQ)]) hpe (by rw [hep]; rfl)
   rw [hes1] at hre1
   obtain ⟨es2,hes2⟩ : ∃ es2,es1.set k [.sl (some gp) (some T) (v.map eQ)] = es2:=⟨_,rfl⟩
   have hre2:=re_mset (gm:=gm) (TM:=TM) (es:=es1) (i:=k) (e':=[.sl (some gp) (some T) (v.map eQ)]) (by omega) (by rw [hek1]; rfl)
   rw [hes2] at hre2
   have hrk : ∀ d,reV (one gm d) (.d (.sl (some gk) (some T) (r.map eQ))) = .d (.sl (some gk) (some T) (r.map eQ)):=fun d=>re_rowout (one_out (Ne.symm hmk))
   have hrp : ∀ d,reV (one gm d) (.d (.sl (some gp) (some T) (v.map eQ))) = .d (.sl (some gp) (some T) (v.map eQ)):=fun d=>re_rowout (one_out (Ne.symm hmp))
   have hek1' : es1[k]? = some [c1]:=by rw [List.getElem?_eq_getElem (by omega),hek1]
   simp [-w_condT,w_condI,hki,hesl,hek,hep,hpr,hz,hlt2,hgB,hn1,hn2,hmk,hmp,hes1,hre1,hes1l,hek1,hek1',hes2,hre2,hrk,hrp,show ¬ (k : Int) = i by omega,show k ≠ i by omega,s150_10,s150_20,s150_24,s150_30,]
   have hpS : p < S.length:=by omega
   have hkS : k < S.length:=by omega
   obtain ⟨S2,hS2⟩ : ∃ S2,S2 = swapR S p k:=⟨_,rfl⟩
   obtain ⟨M2,hM2⟩ : ∃ M2,M2 = S2.map (·.2):=⟨_,rfl⟩
   have hM2s : M2 = swapM (S.map (·.2)) p k:=by rw [hM2,hS2,swapR_snd]
   have hS2e : es2 = S2.map (cR T):=by
    rw [hS2,swapR_set hpS hkS,<- hes2,<- hes1,hes,<- set_map,<- set_map,hSk,hSp]; rfl
   have hpm : (S2.map (·.1)).Perm (S.map (·.1)):=by rw [hS2]; exact (swapR_perm hpS hkS).map _
   obtain ⟨f1,f2,f3⟩:=hM.fst hpm
   obtain ⟨ids,hids⟩ : ∃ ids,ids = S2.map (·.1):=⟨_,rfl⟩
   rw [<- hids] at f1 f2 f3
   have hsl:=hst.len
   have hsr:=hst.row
   have hse:=hst.safe
   have hsn:=hst.ne
   have hnx:=hst.nxt
   rw [<- hM2s] at hsl hsr hse hsn hnx
   have hidl : ids.length = i:=by rw [hids,hS2]; simp [swapR_len,hSl]
   refine loop_rule (X:=Nat × List (Nat × List _root_.Rat)) (fun x=>x.1 <= i /\ x.2.map (·.1) = ids /\ x.2.map (·.2) = stepQ p x.1 M2) (fun x=>[(6,.d (.int .i64 i)),(7,.d (.sl (some gm) (some TM) (x.2.map (cR T)))),(10,.d (.int .i64 p)),(12,.d (.int .i64 x.1))]) (fun _=>[]) (fun x=>i - x.1) (0,S2) ⟨by omega,hids.symm,by rw [stepQ_zero]; exact hM2.symm⟩ (by simp [hS2e]) (by simp) ?_
   rintro ⟨j,Y⟩ hs4 t4 m4 ⟨h1,h2,h3⟩ hh4
   simp only at h1 h2 h3
   have hYl : Y.length = i:=by have:=congrArg List.length h2; simpa [hidl] using this
   by_cases hji : j < i
   ·have hwj:=wr1 (i:=j) (by omega)
    refine anyQ fun Q=>?_
    by_cases hjp : j = p
    ·subst hjp
     simp [-w_condT,w_condI,hji,hYl,hwj,s150_10,s150_20,s150_24,s150_30,]
     exact back (j + 1,Y) ⟨by simp only; omega,h2,by rw [h3]; exact stepQ_p.symm⟩ (by simp only; omega) rfl (by simp <;> omega) (by simp) (by simp)
    have hjY : j < Y.length:=by omega
    have hpY : p < Y.length:=by omega
    obtain ⟨gj,u,hYj⟩ : ∃ gj u,Y[j] = (gj,u):=⟨_,_,rfl⟩
    obtain ⟨gq,w,hYp⟩ : ∃ gq w,Y[p] = (gq,w):=⟨_,_,rfl⟩
    have eu : u = M2[j]'(by omega):=by
     have a1 : (Y.map (·.2))[j]'(by simpa using hjY) = u:=by simp [hYj]
     have a2 : (stepQ p j M2)[j]'(by simp; omega) = M2[j]'(by omega):=stepQ_at (by omega)
     rw [<- a1,<- a2]; congr 1
    have ew : w = M2[p]'(by omega):=by
     have a1 : (Y.map (·.2))[p]'(by simpa using hpY) = w:=by simp [hYp]
     have a2 : (stepQ p j M2)[p]'(by simp; omega) = M2[p]'(by omega):=stepQ_piv (by omega)
     rw [<- a1,<- a2]; congr 1
    have hE:=hse.elim hsl hsr hlt2 hji hsn
    rw [<- eu,<- ew] at hE
    have gj1 : (Y.map (·.1))[j]? = some gj:=by simp [hjY,hYj]
    have gq1 : (Y.map (·.1))[p]? = some gq:=by simp [hpY,hYp]
    have hYnd : (Y.map (·.1)).Nodup:=by rw [h2]; exact f1
    have hgne : gq ≠ gj:=fun e=>hjp (nd_idx hYnd gj1 (by rw [gq1,e]))
    have hgj : gj ∈ ids:=by rw [<- h2]; exact List.mem_of_getElem? gj1
    have hgjm : gj ≠ gm:=fun e=>f3 (e ▸ hgj)
    have hgjB:=f2 _ hgj
    have hul:=hE.lr
    have hpu : p < u.length:=by omega
    obtain ⟨ys,hys⟩ : ∃ ys,ys = Y.map (cR T):=⟨_,rfl⟩
    have hysl : ys.length = i:=by rw [hys]; simpa using hYl
    have hyj : ys[j]'(by omega) = [.sl (some gj) (some T) (u.map eQ)]:=by subst hys; simp [hYj,cR]
    have hyp : ys[p]'(by omega) = [.sl (some gq) (some T) (w.map eQ)]:=by subst hys; simp [hYp,cR]
    have hst2 : stepQ p (j + 1) M2 = (stepQ p j M2).set j (elimR p w u):=by
     rw [stepQ_succ (by omega) (by omega) hjp,<- eu,<- ew]
    rw [<- hys]
    by_cases hz2 : u[p].num = 0
    ·have hz' : fnL u p = 0:=by rw [fnL_at hpu]; exact _root_.Rat.num_eq_zero.1 hz2
     simp [-w_condT,w_condI,hysl,hji,hjp,hyj,hpu,hz2,hwj,s150_10,s150_20,s150_24,s150_30,]
     refine back (j + 1,Y) ⟨by simp only; omega,h2,?_⟩ (by simp only; omega) rfl (by simp <;> omega) (by simp [hys]) (by simp)
     rw [h3,hst2,elim_zero hz',set_same]
     rw [List.getElem?_eq_getElem (by simp; omega),stepQ_at (by omega),<- eu]
    have hre : reV (one gj (.sl (some gj) (some T) ((elimR p w u).map eQ))) (.d (.sl (some gm) (some TM) ys)) = .d (.sl (some gm) (some TM) ((Y.set j (gj,elimR p w u)).map (cR T))):=by
     rw [hys]
     exact re_rowQ (φ:=one gj (.sl (some gj) (some T) ((elimR p w u).map eQ))) (gm:=gm) (T:=T) (rows:=Y) (i:=j) (g:=gj) (r:=u) (r':=elimR p w u) (by simp [hjY,hYj]) (by simp [elimR]) hYnd (one_out (Ne.symm hgjm)) (by simp [one]) (fun q _ hqg=>one_out hqg)
    simp [-w_condT,w_condI,hysl,hji,hlt2,hjp,hyj,hyp,hpu,hz2,s150_10,s150_20,s150_24,s150_30,]
    refine call_x (E158) (by simp) (by simp) (by simp) (fun q hq=>.inl (by simp at hq; rw [hq]; exact hgjB)) (x_impl_eliminate gj gq T (some T) p i w u hE hn hgne) fun n5 hs5 r5 cs5 ws5 hn5 hm5 hp5 hr5 hw5=>?_
    obtain ⟨rfl,rfl⟩:=hp5
    try simp at hn5
    simp [-w_condT,w_condI,phi_single,hre,hwj,s150_10,s150_20,s150_24,s150_30,]
    refine back (j + 1,Y.set j (gj,elimR p w u)) ⟨by simp only; omega,?_,?_⟩ (by simp only; omega) rfl (by simp <;> omega) (by simp) (by simp)
    ·simp only [List.map_set]; rw [<- h2]; exact set_same gj1
    ·simp only [List.map_set]; rw [h3,hst2]
   ·have hjn : j = i:=by omega
    subst hjn
    rw [stepQ_all (by omega)] at h3
    simp [-w_condT,w_condI,hwp,s150_10,s150_20,s150_24,s150_30,]
    refine back2 (p + 1,gm,Y) ⟨by omega,by rw [h3]; exact hnx,by rw [h2]; exact f1,by rw [h2]; exact f2,hgB,by rw [h2]; exact f3⟩ (by simp only; omega) rfl (by simp <;> omega) (by simp) (by simp)
  ·have hki2 : k = i:=by omega
   have hpv : pivAt (S.map (·.2)) p = k:=piv_eq hk.1 hk.2.2 (.inl (by simp; omega))
   have hno:=sol_none hM.gj (by rw [hpv]; simp; omega) hlt2
   rw [hno]
   simp [-w_condT,w_condI,hki,hki2,s150_10,s150_20,s150_24,s150_30,]
 have hpi : p = i:=by omega
 subst hpi
 obtain ⟨-,e2,e3,e4,e5⟩:=sol_end hn hl0 hr hb hM.gj
 rw [e3]
 obtain ⟨F,hF⟩ : ∃ F : Nat -> _root_.Rat,F = fun j=>rowQ (S.map (·.2)) j p / rowQ (S.map (·.2)) j j:=⟨_,rfl⟩
 have hout : outM p (S.map (·.2)) = (List.range p).map F:=by rw [hF]; rfl
 rw [hout]
 simp [-w_condT,w_condI,s150_10,s150_20,s150_24,s150_30,]
 refine loop_ruleL (X:=Nat) (fun j _=>j <= p) (fun j=>[(6,.d (.int .i64 p)),(7,.d (.sl (some gm) (some TM) (S.map (cR T)))),(13,.own 701 0 j),(14,.d (.int .i64 j))]) (fun j=>[(701,some (.row 87 2 (((List.range j).map F).map eQ)))]) (fun j=>p - j) ?_ ?_
 ·refine (lead_slot 13 701 87 2 (by omega) (by omega) (by simp)).bind ?_
  rintro _ rfl
  exact Lead.of ⟨0,by omega,rfl,rfl,Nat.le_refl _,by simp,by simp⟩
 intro j hs6 t6 m6 hj hh6
 by_cases hjp : j < p
 ·have hwj:=wr1 (i:=j) (by omega)
  have hjS : j < S.length:=by omega
  obtain ⟨g,r,hSj⟩ : ∃ g r,S[j] = (g,r):=⟨_,_,rfl⟩
  have hrl : r.length = p + 1:=by have:=hSr j hjS; rw [hSj] at this; exact this
  have hjr : j < r.length:=by omega
  have hpr : p < r.length:=by omega
  have hj5:=e5 j (by simpa using hjS)
  simp only [List.getElem_map,hSj] at hj5
  obtain ⟨d1,d2,d3,d4⟩:=hj5
  have hFj : F j = fnL r p / fnL r j:=by rw [hF]; simp only [hSq j hjS,hSj]
  have hdiv:=w_impl_DivRational (fnL r p) (fnL r j) d3 d2 d1 d4
  rw [<- hFj,fnL_at hpr,fnL_at hjr] at hdiv
  have hL : LenOk 16 (j + 1):=⟨by omega,by simp only [maxLen]; omega⟩
  obtain ⟨es,hes⟩ : ∃ es,es = S.map (cR T):=⟨_,rfl⟩
  have hesl : es.length = p:=by rw [hes]; simpa using hSl
  have hej : es[j]'(by omega) = [.sl (some g) (some T) (r.map eQ)]:=by subst hes; simp [hSj,cR]
  rw [<- hes]
  refine anyQ2 fun Q=>?_
  simp [-w_condT,w_condI,hjp,hesl,hej,hjr,hpr,s150_10,s150_20,s150_24,s150_30,]
  refine ⟨?_,?_⟩
  all_goals
   refine call_pure hdiv rfl (by simp) rfl fun hs7 hh7=>?_
   try simp at hh7
   simp [-w_condT,w_condI,hL,hwj,s150_10,s150_20,s150_24,s150_30,]
   refine back2 (j + 1) (by omega) (by omega) rfl (by simp <;> omega) (by simp [hes]) (by simp [List.range_succ])
 ·have hjn : j = p:=by omega
  subst hjn
  simp [-w_condT,w_condI,s150_10,s150_20,s150_24,s150_30,]
  intro γ hs' h1 hg
  clear hg
  have htk : (List.map (eQ ∘ F) (List.range j)).take j = List.map (eQ ∘ F) (List.range j):=List.take_of_length_le (by simp)
  have hpp : hpLL (List.map (eQ ∘ F) (List.range j)) = false:=by rw [<- List.map_map]; exact hp_eQs _
  rw [htk]
  simp [hpp]
end
end Go.Proofs.YtglilmkmkdkedaaGreatDoor
namespace Go.Proofs.YtglilmkmkdkedaaGreatDoor
open Go.Vs Go.Proofs Go
set_option maxRecDepth 100000
set_option maxHeartbeats 1000000
section
attribute [local simp] pS cP eQ_def
def solV (n : Nat) (R : List (List _root_.Rat)) : V:=match solQ n R with
 | some x=>.tup [.d (.pl (x.map eQ)),.d (.bool true)]
 | none=>.tup [.d (.pl []),.d (.bool false)]
theorem er_eQ : ∀ l : List _root_.Rat,erLL (l.map eQ) = l.map eQ
 | []=>rfl
 | a :: r=>by simp only [List.map_cons,erLL,er_eQ r]; rfl
theorem w_impl_SolveLinearSystem (n : Nat) (R : List (List _root_.Rat)) (hn1 : 1 <= n) (hn : n <= 4) (hl0 : R.length = n) (hr : ∀ r ∈ R,r.length = n + 1) (h01 : ∀ r ∈ R,∀ q ∈ r,q = 0 \/ q = 1) :
  VC Tryz.prog 150 [.d (pS (cP eQ) (R.map (·.take n))),.d (pS eQ (R.map fun r=>fnL r n))] (fun _ r=>r = solV n R):=by
 refine VC.erase (e_impl_SolveLinearSystem n R hn1 hn hl0 hr h01) fun _ r h=>?_
 unfold solV
 cases e : solQ n R with
 | none=>rw [e] at h; subst h; rfl
 | some x =>
   rw [e] at h
   obtain ⟨id,T,rfl⟩:=h
   simp [rp,rpL,D.er,er_eQ]
end
end Go.Proofs.YtglilmkmkdkedaaGreatDoor
namespace Go.Proofs.YtglilmkmkdkedaaGreatDoor
open Go.Vs Go.Proofs Go
set_option maxRecDepth 100000
set_option maxHeartbeats 1000000
section
attribute [local simp] pS cP eQ_def cI
end
end Go.Proofs.YtglilmkmkdkedaaGreatDoor
namespace Go.Proofs.YtglilmkmkdkedaaGreatDoor
open Go.Vs Go.Proofs Go
set_option maxRecDepth 100000
set_option maxHeartbeats 1000000
section
attribute [local simp] pS cP eQ_def cI
theorem ptStep_some {A : List (List _root_.Rat)} {n : Nat} {out M : List (List _root_.Rat)} {x : List _root_.Rat} (h : solQ n M = some x) (hf : feasQ A x = true) : ptStep A n out M = addPt out x:=by simp [ptStep,h,hf]
theorem ptStep_no {A : List (List _root_.Rat)} {n : Nat} {out M : List (List _root_.Rat)} {x : List _root_.Rat} (h : solQ n M = some x) (hf : feasQ A x = false) : ptStep A n out M = out:=by simp [ptStep,h,hf]
theorem ptStep_none {A : List (List _root_.Rat)} {n : Nat} {out M : List (List _root_.Rat)} (h : solQ n M = none) : ptStep A n out M = out:=by simp [ptStep,h]
end
end Go.Proofs.YtglilmkmkdkedaaGreatDoor
namespace Go.Proofs.YtglilmkmkdkedaaGreatDoor
open Go.Vs Go.Proofs Go
set_option maxRecDepth 100000
set_option maxHeartbeats 1000000
section
attribute [local simp] pS cP eQ_def cI
theorem e_impl_copyIntsO (l : List Int) (hb : l.length <= 4294967296) :
  VC Tryz.prog 117 [.d (.pl (l.map cI))] (fun n r=>∃ g : Option Nat,r = .d (.sl g (some (3,1)) (l.map cI)) /\ (∀ k,g = some k -> n <= k) /\ (g = none -> l = [])):=by
 refine VC.of E s117 (by kernel_rfl) Tryz.func117 (by rfl) (by kernel_rfl) (by simp [Tryz.f117]) (by simp [Tryz.f117]) s117_ok fun B=>?_
 have hL : LenOk 8 l.length:=⟨by omega,by simp only [maxLen]; omega⟩
 have hp : hpLL (l.map cI) = false:=hpLL_mapI l
 simp [-cI,Tryz.f117,hL,hp,List.take_of_length_le]
 refine ⟨fun a _=>rfl,?_⟩
 intro γ hs' h1 hg
 obtain ⟨q1,q2⟩:=gam_at hg (k:=3) (T:=3) (sz:=1) (es:=l.map cI) (by simp)
 clear hg
 refine ⟨fun k hk=>(q1 k hk).1,fun h=>?_⟩
 exact Classical.byContradiction fun hl=>q2 (by simpa using hl) h
theorem startK9 (a b c1 c2 c3 c4 c5 c6 c7 : V) (T sz f : Nat) (es : List (List D)) (B : Nat) : St.startK [a,b] [c1,c2,c3,c4,c5,c6,c7] T sz f es B =
  ⟨B,B,[],upd (upd (upd (upd (upd (upd (upd (upd (upd (fun _=>.tup []) 8 c7) 7 c6) 6 c5) 5 c4) 4 c3) 3 c2) 2 c1) 1 b) 0 a,
   upd (upd (upd (fun _=>none) 1003 (some (.box [.fn f [c1,c2,c3,c4,c5,c6,c7]]))) 1002 (some (.row T sz es))) 1001 (some (.box [.own 1002 0 es.length]))⟩:=by
 simp only [St.startK,St.mk.injEq,true_and]
 constructor
 ·funext i; match i with | 0=>rfl | 1=>rfl | 2=>rfl | 3=>rfl | 4=>rfl | 5=>rfl | 6=>rfl | 7=>rfl | 8=>rfl | _ + 9=>rfl
 ·funext i; simp only [mK,upd]; repeat' split
def capsV (n : Nat) (rows right : List (List D)) (bx : List D) : List V:=
 [.fptr (.pl [[.int .i64 n]]) 0 0,.fptr (.pl [[.pl rows]]) 0 0,.ptr 1003 0 0,.fptr (.pl [[.pl right]]) 0 0,.fptr (.pl [bx]) 0 0,.fptr (.pl [[.int .i64 1]]) 0 0,.ptr 1001 0 0]
theorem caps_wipe (n : Nat) (rows right : List (List D)) (bx : List D) (k : Nat) (h1 : ¬ k = 1001) (h3 : ¬ k = 1003) : wipeL k (capsV n rows right bx) = capsV n rows right bx:=by
 simp [capsV,wipeL,wipe,Ne.symm h1,Ne.symm h3]
theorem caps_frp (n : Nat) (rows right : List (List D)) (bx : List D) (k : Nat) (es : List (List D)) (h1 : ¬ k = 1001) (h3 : ¬ k = 1003) : frpL k es (capsV n rows right bx) = capsV n rows right bx:=by
 simp [capsV,frpL,frp,Ne.symm h1,Ne.symm h3]
theorem k_choose (A : List (List _root_.Rat)) (n : Nat) (h : LPok A n) (rows right : List (List D)) (bx : List D) (hrows : rows = ((augR A n).map (·.take n)).map (cP eQ)) (hright : right = ((augR A n).map fun r=>fnL r n).map eQ)
   (hbx : bx = [.pl (A.map (cP eQ)),.pl ((List.replicate A.length (1 : _root_.Rat)).map eQ),.pl ((List.replicate n (1 : _root_.Rat)).map eQ)]) :
  ∀ (d : Nat) (c : List Nat) (a : Nat) (out : List (List _root_.Rat)),n - c.length = d -> c.length <= n -> a <= A.length + n -> (∀ x ∈ c,x < A.length + n) -> out.length + cntC A n c a <= 1000 ->
   VK Tryz.prog 149 [.d (.int .i64 a),.d (pS cI (intsN c))] (capsV n rows right bx) 127 1 (out.map (cP eQ)) (fun es'=>es' = (foldC A n c a out).map (cP eQ)):=by
 have hn1:=h.n1
 have hn4:=h.n4
 have hm1:=h.m1
 have hm5:=h.m5
 obtain ⟨AR,hAR⟩ : ∃ AR,AR = augR A n:=⟨_,rfl⟩
 have hARl : AR.length = A.length + n:=by rw [hAR,augR_len]
 have hARr : ∀ r ∈ AR,r.length = n + 1:=by rw [hAR]; exact aug_len h.m01
 have hAR01 : ∀ r ∈ AR,∀ q ∈ r,q = 0 \/ q = 1:=by rw [hAR]; exact aug_01 h.m01
 obtain ⟨B1,hB1⟩ : ∃ B1,B1 = List.replicate A.length (1 : _root_.Rat):=⟨_,rfl⟩
 obtain ⟨C1,hC1⟩ : ∃ C1,C1 = List.replicate n (1 : _root_.Rat):=⟨_,rfl⟩
 rw [<- hAR] at hrows hright
 rw [<- hB1,<- hC1] at hbx
 have hrl : rows.length = A.length + n:=by rw [hrows]; simp [hARl]
 have hgl : right.length = A.length + n:=by rw [hright]; simp [hARl]
 intro d
 induction d with
 | zero =>
   intro c a out hd hcn ha hcr hbd
   have hcl : c.length = n:=by omega
   rw [foldC_full hcl,<- hAR]
   rw [cntC_full hcl] at hbd
   obtain ⟨M,hM⟩ : ∃ M,M = rowsA AR c:=⟨_,rfl⟩
   have hMl : M.length = n:=by rw [hM,rowsA_len,hcl]
   have hMm : ∀ r ∈ M,r ∈ AR:=fun r hr=>by rw [hM] at hr; exact rowsA_mem (fun x hx=>by have:=hcr x hx; omega) hr
   have hMr : ∀ r ∈ M,r.length = n + 1:=fun r hr=>hARr r (hMm r hr)
   have hM01 : ∀ r ∈ M,∀ q ∈ r,q = 0 \/ q = 1:=fun r hr=>hAR01 r (hMm r hr)
   rw [<- hM]
   obtain ⟨ci,hci⟩ : ∃ ci,ci = intsN c:=⟨_,rfl⟩
   have hcil : ci.length = n:=by rw [hci]; simpa using hcl
   rw [<- hci]
   obtain ⟨caps,hcaps⟩ : ∃ caps,caps = capsV n rows right bx:=⟨_,rfl⟩
   have hcw:=caps_wipe n rows right bx
   have hcf:=caps_frp n rows right bx
   rw [<- hcaps] at hcw hcf
   refine VK.of EP s149 (by kernel_rfl) Tryz.func149 (by rfl) (by kernel_rfl) (by simp [Tryz.f149,capsV]) (by simp [Tryz.f149]) s149_ok (by rfl) fun B=>?_
   rw [capsV,startK9,<- capsV,<- hcaps]
   simp [Tryz.f149,s149_4,s149_4,hcil]
   have hout : ptStep A n out M = ptStep A n out M:=rfl
   refine loop_ruleL (X:=Nat) (fun k _=>k <= n) (fun k=>[(3,.fptr (.pl [[.pl rows]]) 0 0),(5,.fptr (.pl [[.pl right]]) 0 0),(6,.fptr (.pl [bx]) 0 0),(7,.fptr (.pl [[.int .i64 1]]) 0 0),(8,.ptr 1001 0 0),(12,.own 900 0 k),(13,.own 901 0 k),(40,.d (.pl (ci.map cI))),(41,.d (.int .i64 n)),(42,.d (.int .i64 k))])
    (fun k=>[(1001,some (.box [.own 1002 0 out.length])),(1002,some (.row 127 1 (out.map (cP eQ)))),(1003,some (.box [.fn 149 caps])),(900,some (.row 127 1 (((M.map (·.take n)).take k).map (cP eQ)))),(901,some (.row 87 2 (((M.map fun r=>fnL r n).take k).map eQ)))]) (fun k=>n - k) ?_ ?_
   ·refine (lead_slot 12 900 127 1 (by omega) (by omega) (by simp)).bind ?_
    rintro _ rfl
    refine (lead_slot 13 901 87 2 (by omega) (by omega) (by simp)).bind ?_
    rintro _ rfl
    exact Lead.of ⟨0,by omega,rfl,rfl,Nat.le_refl _,by simp,by simp [hcaps,capsV]⟩
   intro k hs1 t1 m1 hk hh1
   by_cases hkn : k < n
   ·have hwk:=wr1 (i:=k) (by omega)
    obtain ⟨j,hj⟩ : ∃ j,j = c[k]'(by omega):=⟨_,rfl⟩
    have hjr : j < A.length + n:=by rw [hj]; exact hcr _ (List.getElem_mem _)
    have hcik : ci[k]'(by omega) = (j : Int):=by subst hci; rw [intsN_at (by omega),hj]
    have hMk : M[k]'(by omega) = AR[j]'(by omega):=by subst hM; simp [rowsA,<- hj,List.getD,show j < AR.length by omega]
    obtain ⟨MA,hMA⟩ : ∃ MA,MA = M.map (·.take n):=⟨_,rfl⟩
    obtain ⟨MB,hMB⟩ : ∃ MB,MB = M.map fun r=>fnL r n:=⟨_,rfl⟩
    have hMAl : MA.length = n:=by rw [hMA]; simpa using hMl
    have hMBl : MB.length = n:=by rw [hMB]; simpa using hMl
    have hrj : rows[j]'(by omega) = cP eQ (MA[k]'(by omega)):=by subst hMA; simp [hrows,hMk]
    have hgj : right[j]'(by omega) = eQ (MB[k]'(by omega)):=by subst hMB; simp [hright,hMk]
    rw [<- hMA,<- hMB]
    have hL1 : LenOk 24 (k + 1):=⟨by omega,by simp only [maxLen]; omega⟩
    have hL2 : LenOk 16 (k + 1):=⟨by omega,by simp only [maxLen]; omega⟩
    have hmin : min k n = k:=by omega
    have s1 : (MA.map (cP eQ)).take (k + 1) = (MA.map (cP eQ)).take k ++ [cP eQ (MA[k]'(by omega))]:=by rw [List.take_succ_eq_append_getElem (by simp; omega)]; simp
    have s2 : (MB.map eQ).take (k + 1) = (MB.map eQ).take k ++ [eQ (MB[k]'(by omega))]:=by rw [List.take_succ_eq_append_getElem (by simp; omega)]; simp
    refine anyQ2 fun Z=>?_
    simp [hkn,hcil,hcik,hrl,hgl,hjr,hrj,hgj,hMAl,hMBl,hmin,hL1,hL2,hwk,s149_4,]
    exact back2 (k + 1) (by omega) (by omega) rfl (by simp <;> omega) (by simp) (by simp [s1,s2,hcw,hcf])
   have hkn2 : k = n:=by omega
   have hsol:=w_impl_SolveLinearSystem n M hn1 hn4 hMl hMr hM01
   rw [hkn2,List.take_of_length_le (by simp; omega),List.take_of_length_le (by simp; omega)]
   obtain ⟨MA,hMA⟩ : ∃ MA,MA = M.map (·.take n):=⟨_,rfl⟩
   obtain ⟨MB,hMB⟩ : ∃ MB,MB = M.map fun r=>fnL r n:=⟨_,rfl⟩
   have hMAl : MA.length = n:=by rw [hMA]; simpa using hMl
   have hMBl : MB.length = n:=by rw [hMB]; simpa using hMl
   rw [<- hMA,<- hMB] at hsol ⊢
   simp [s149_4,]
   refine call_p hsol (by simp [hMAl,hMBl,List.take_of_length_le]) fun hs4 hh4 _=>?_
   try simp at hh4
   cases hx : solQ n M with
   | none =>
     rw [ptStep_none hx]
     simp [solV,hx,vretK,vendK,hcw,hcf,<- hcaps,s149_4,]
   | some x =>
     have hSB:=sol_bd hn4 hMl hMr (bd_01 hMl hM01) hx
     have hside:=w_impl_feasible A n x h hSB
     rw [<- hB1,<- hC1] at hside
     simp [solV,hx,hbx,s149_4,]
     refine call_f hside (by simp) rfl fun hs5 hh5=>?_
     try simp at hh5
     cases hf : feasQ A x
     ·rw [ptStep_no hx hf]
      simp [vretK,vendK,hcw,hcf,<- hcaps,s149_4,]
     rw [ptStep_some hx hf]
     simp [s149_4,]
     refine loop_rule (X:=Nat) (fun k=>k <= out.length /\ x ∉ out.take k) (fun k=>[(8,.ptr 1001 0 0),(16,.d (.pl (x.map eQ))),(76,.own 1002 0 out.length),(77,.d (.int .i64 out.length)),(78,.d (.int .i64 k))])
      (fun _=>[(1001,some (.box [.own 1002 0 out.length])),(1002,some (.row 127 1 (out.map (cP eQ)))),(1003,some (.box [.fn 149 caps]))]) (fun k=>out.length - k) 0 (by simp) (by simp) (by simp [hcw,hcf]) ?_
     intro k hs6 t6 m6 hk6 hh6
     by_cases hkO : k < out.length
     ·have hwk:=wr1 (i:=k) (by omega)
      simp [hkO,s149_4,]
      refine call_f (w_impl_EqualRationals x out[k]) (by simp) rfl fun hs7 hh7=>?_
      try simp at hh7
      by_cases he : x = out[k]
      ·have ha : addPt out x = out:=by simp [addPt,he]
       rw [ha]
       simp [he,vretK,vendK,hcw,hcf,<- hcaps,s149_4,]
      ·simp [he,hwk,s149_4,]
       refine back (k + 1) ⟨by omega,?_⟩ (by omega) rfl (by simp <;> omega) (by simp) (by simp)
       rw [List.take_succ_eq_append_getElem hkO,List.mem_append,List.mem_singleton]
       exact fun hor=>hor.elim hk6.2 he
     ·have hkO2 : k = out.length:=by omega
      subst hkO2
      have hxO : x ∉ out:=by have:=hk6.2; rwa [List.take_of_length_le (Nat.le_refl _)] at this
      have ha : addPt out x = out ++ [x]:=by simp [addPt,hxO]
      have hL4 : LenOk 24 (out.length + 1):=⟨by omega,by simp only [maxLen]; omega⟩
      rw [ha]
      simp [hL4,vretK,vendK,hcw,hcf,<- hcaps,s149_4,]
 | succ d ih =>
   intro c a out hd hcn ha hcr hbd
   have hcl : c.length < n:=by omega
   obtain ⟨ci,hci⟩ : ∃ ci,ci = intsN c:=⟨_,rfl⟩
   have hcil : ci.length = c.length:=by rw [hci]; simp
   rw [<- hci]
   obtain ⟨caps,hcaps⟩ : ∃ caps,caps = capsV n rows right bx:=⟨_,rfl⟩
   have hcw:=caps_wipe n rows right bx
   have hcf:=caps_frp n rows right bx
   rw [<- hcaps] at hcw hcf ih
   obtain ⟨FO,hFO⟩ : ∃ FO,FO = foldC A n c a out:=⟨_,rfl⟩
   rw [<- hFO]
   have hall : caps.all capOk = true:=by rw [hcaps]; rfl
   have hren : caps.map (renK 1001 1003) = caps:=by rw [hcaps]; rfl
   refine VK.of EP s149 (by kernel_rfl) Tryz.func149 (by rfl) (by kernel_rfl) (by simp [Tryz.f149,capsV]) (by simp [Tryz.f149]) s149_ok (by rfl) fun B=>?_
   rw [capsV,startK9,<- capsV,<- hcaps]
   simp [Tryz.f149,s149_4,s149_4,hcil,hcl]
   refine loop_rule (X:=Nat × List (List _root_.Rat)) (fun x=>a <= x.1 /\ x.1 <= A.length + n /\ foldC A n c x.1 x.2 = FO /\ x.2.length + cntC A n c x.1 <= 1000) (fun x=>[(1,.d (.pl (ci.map cI))),(3,.fptr (.pl [[.pl rows]]) 0 0),(4,.ptr 1003 0 0),(11,.d (.int .i64 x.1))])
    (fun x=>[(1001,some (.box [.own 1002 0 x.2.length])),(1002,some (.row 127 1 (x.2.map (cP eQ)))),(1003,some (.box [.fn 149 caps]))]) (fun x=>A.length + n - x.1) (a,out) ⟨by simp,ha,hFO.symm,hbd⟩ (by simp) (by simp) ?_
   rintro ⟨k,O⟩ hs1 t1 m1 ⟨h1,h2,h3,h4⟩ hh1
   simp only at h1 h2 h3 h4
   by_cases hlt : k < A.length + n
   ·have hwk:=wr1 (i:=k) (by omega)
    have hstep:=foldC_step (out:=O) hcl hlt
    have hcnt:=cntC_step hcl hlt
    have hflen:=foldC_len (A:=A) (n:=n) (c:=c ++ [k]) (a:=k + 1) (out:=O)
    have hih:=ih (c ++ [k]) (k + 1) O (by simp; omega) (by simp; omega) (by omega) (fun x hx=>by
     rcases List.mem_append.1 hx with hx | hx
     ·exact hcr x hx
     ·rw [List.mem_singleton.1 hx]; exact hlt) (by omega)
    have hci2 : intsN (c ++ [k]) = ci ++ [(k : Int)]:=by rw [hci]; simp [intsN]
    rw [hci2] at hih
    have hL1 : LenOk 8 (ci.length + 1):=⟨by omega,by simp only [maxLen]; omega⟩
    have htk : List.take (ci.length + 1) (ci.map cI ++ [[D.int IntKind.i64 (k : Int)]]) = ci.map cI ++ [[D.int IntKind.i64 (k : Int)]]:=List.take_of_length_le (by simp)
    refine anyQ fun Z=>?_
    simp [hrl,show (k : Int) < (A.length : Int) + (n : Int) by omega,hwk,s149_4,]
    have fin : ∀ (es' : List (List D)),es' = (foldC A n (c ++ [k]) (k + 1) O).map (cP eQ) -> es'.length = (foldC A n (c ++ [k]) (k + 1) O).length:=fun es' e=>by rw [e]; simp
    refine ⟨?_,?_⟩
    all_goals
     refine call_oe (e_impl_copyIntsO ci (by omega)) (by simp) fun r2 n2 hs3 hn2 hm2 hp2=>?_
     obtain ⟨g,rfl,hg1,hg2⟩:=hp2
     try simp at hn2
     cases g with
     | some g =>
       refine .inl ⟨g,3,1,ci.map cI,rfl,hg1 g rfl,by simp,?_⟩
       simp [hL1,hwk,hcw,hcf,s149_4,]
       refine vdyn_lead ((lead_frp 35 (T:=3) (sz:=1) (es:=ci.map cI ++ [[D.int .i64 k]]) (by simp)).mono ?_)
       rintro _ rfl
       refine vdynK (f:=149) (ko:=1001) (kr:=1002) (kc:=1003) (T:=127) (sz:=1) (es:=O.map (cP eQ)) (caps:=caps) (by simp) (by simp) (by simp [hren,hcw,hcf]) (by simp [Hk]) (by simp [hren,hcw,hcf]) hall (by simp) (by simpa [htk] using hih) fun es' hs5 g1 g2 g3 g4 g5=>?_
       have ge:=fin es' g2
       subst g2
       try simp at g1
       simp [St.kst,hwk,hcw,hcf,s149_4,]
       refine back (k + 1,foldC A n (c ++ [k]) (k + 1) O) ⟨by simp only; omega,by simp only; omega,by simp only; rw [<- hstep]; exact h3,by simp only; omega⟩ (by simp only; omega) rfl (by simp <;> omega) (by simp) (by simp)
     | none =>
       have hc0:=hg2 rfl
       refine .inr ?_
       have hL2 : LenOk 8 1:=⟨by omega,by simp only [maxLen]; omega⟩
       simp [hc0,hL2,hwk,hcw,hcf,s149_4,]
       rw [hc0] at hih
       refine vdyn_lead ((lead_frp 38 (T:=3) (sz:=1) (es:=[[D.int .i64 k]]) (by simp)).mono ?_)
       rintro _ rfl
       refine vdynK (f:=149) (ko:=1001) (kr:=1002) (kc:=1003) (T:=127) (sz:=1) (es:=O.map (cP eQ)) (caps:=caps) (by simp) (by simp) (by simp [hren,hcw,hcf]) (by simp [Hk]) (by simp [hren,hcw,hcf]) hall (by simp) (by simpa using hih) fun es' hs5 g1 g2 g3 g4 g5=>?_
       have ge:=fin es' g2
       subst g2
       try simp at g1
       simp [St.kst,hwk,hcw,hcf,s149_4,]
       refine back (k + 1,foldC A n (c ++ [k]) (k + 1) O) ⟨by simp only; omega,by simp only; omega,by simp only; rw [<- hstep]; exact h3,by simp only; omega⟩ (by simp only; omega) rfl (by simp <;> omega) (by simp) (by simp)
   ·have hkn : k = A.length + n:=by omega
    rw [foldC_end hcl (by omega)] at h3
    subst h3
    simp [hrl,show ¬ (k : Int) < (A.length : Int) + (n : Int) by omega,vretK,vendK,hcw,hcf,s149_4,]
end
end Go.Proofs.YtglilmkmkdkedaaGreatDoor
namespace Go.Proofs.YtglilmkmkdkedaaGreatDoor
open Go.Vs Go.Proofs Go
set_option maxRecDepth 100000
set_option maxHeartbeats 1000000
section
attribute [local simp] pS cP eQ_def cI
theorem aug_take {A : List (List _root_.Rat)} {n : Nat} (h : ∀ r ∈ A,r.length = n) : (augR A n).map (·.take n) = A ++ (List.range n).map (unitR n):=by
 simp only [augR,List.map_append,List.map_map]
 congr 1
 ·conv=>rhs; rw [<- List.map_id A]
  apply List.map_congr_left
  intro r hr
  simp only [Function.comp,id]
  exact (take_app (h r hr)).1
 ·apply List.map_congr_left
  intro j _
  simp only [Function.comp]
  exact (take_app unitR_len).1
theorem aug_last {A : List (List _root_.Rat)} {n : Nat} (h : ∀ r ∈ A,r.length = n) : (augR A n).map (fun r=>fnL r n) = List.replicate A.length 1 ++ List.replicate n 0:=by
 simp only [augR,List.map_append,List.map_map]
 congr 1
 ·rw [List.eq_replicate_iff]
  refine ⟨by simp,fun q hq=>?_⟩
  obtain ⟨r,hr,rfl⟩:=List.mem_map.1 hq
  exact (take_app (h r hr)).2
 ·rw [List.eq_replicate_iff]
  refine ⟨by simp,fun q hq=>?_⟩
  obtain ⟨j,_,rfl⟩:=List.mem_map.1 hq
  exact (take_app unitR_len).2
theorem unit_take {n i k : Nat} (h : k < n) : (unitR n i).take (k + 1) = (unitR n i).take k ++ [if k = i then 1 else 0]:=by
 rw [List.take_succ_eq_append_getElem (by simpa [unitR] using h)]
 simp [unitR]
theorem VK.nil2 {P : Program} {f : FuncId} {a : V} {caps : List V} {T sz : Nat} {es : List (List D)} {post : List (List D) -> Prop} (h : VK P f [a,.d (.pl [])] caps T sz es post) : VK P f [a,.d (.sl none none [])] caps T sz es post:=by
 refine ⟨h.1,fun w vals go gc ro A hg hin hLR=>h.2 w vals go gc ro A hg hin ?_⟩
 match vals,hLR with
 | v1 :: v2 :: r, hLR =>
   simp only [List.cons_append,LR] at hLR ⊢
   obtain ⟨h1,h2,h3⟩:=hLR
   refine ⟨h1,?_,h3⟩
   simp only [VR] at h2 ⊢
   exact h2.er
theorem w_impl_vertices (A : List (List _root_.Rat)) (n : Nat) (h : LPok A n) :
  VC Tryz.prog 143 [.agg [.d (pS (cP eQ) A),.d (pS eQ (List.replicate A.length 1)),.d (pS eQ (List.replicate n 1))],.d (.int .i64 1)] (fun _ r=>r = .d (pS (cP eQ) (ptsQ A n))):=by
 have hn1:=h.n1
 have hn4:=h.n4
 have hm1:=h.m1
 have hm5:=h.m5
 have hrows:=aug_take h.m01.len
 have hright:=aug_last h.m01.len
 have hkc:=k_choose A n h (((augR A n).map (·.take n)).map (cP eQ)) (((augR A n).map fun r=>fnL r n).map eQ) [.pl (A.map (cP eQ)),.pl ((List.replicate A.length (1 : _root_.Rat)).map eQ),.pl ((List.replicate n (1 : _root_.Rat)).map eQ)] rfl rfl rfl n [] 0 [] (by simp) (by simp) (by omega) (by simp) (by have:=cntC_all (A:=A) (n:=n) (by omega); simp; omega)
 rw [foldC_all,hrows,hright] at hkc
 obtain ⟨B1,hB1⟩ : ∃ B1,B1 = List.replicate A.length (1 : _root_.Rat):=⟨_,rfl⟩
 obtain ⟨C1,hC1⟩ : ∃ C1,C1 = List.replicate n (1 : _root_.Rat):=⟨_,rfl⟩
 have hB1l : B1.length = A.length:=by rw [hB1]; simp
 have hC1l : C1.length = n:=by rw [hC1]; simp
 have hB1n : B1 ≠ []:=fun e=>by rw [e] at hB1l; simp at hB1l; omega
 have hL0 : LenOk 24 A.length:=⟨by omega,by simp only [maxLen]; omega⟩
 have hA1 : ∀ l ∈ A.map (cP eQ),l.length = 1:=fun l hl=>by obtain ⟨q,_,rfl⟩:=List.mem_map.1 hl; rfl
 rw [<- hB1,<- hC1] at hkc ⊢
 refine VC.ofL EP s143 (by kernel_rfl) Tryz.func143 (by rfl) (by kernel_rfl) (by simp [Tryz.f143]) (by simp [Tryz.f143]) s143_ok fun B hl=>?_
 clear hl
 simp [Tryz.f143,hL0,hC1l]
 refine call_o (e_impl_copyRationals1 B1 (by omega) hB1n) (by simp) fun r2 n2 hs3 hn2 hm2 hp2=>?_
 obtain ⟨g2,rfl,hg2⟩:=hp2
 refine ⟨87,2,B1.map eQ,by omega,.inr ⟨g2,rfl,hg2,by simp⟩,?_⟩
 try simp at hn2
 simp [hB1l]
 refine loop_rule (X:=Nat) (fun i=>i <= n) (fun i=>[(5,.ptr 5 0 0),(6,.ptr 6 0 0),(7,.ptr 7 0 0),(2,.ptr 2 0 0),(3,.ptr 3 0 0),(8,.d (.int .i64 i))])
  (fun i=>[(2,some (.box [.d (.pl (A.map (cP eQ))),.d (.pl (B1.map eQ)),.d (.pl (C1.map eQ))])),(3,some (.box [.d (.int .i64 1)])),(5,some (.box [.d (.int .i64 n)])),(6,some (.box [.own 16 0 (A.length + i)])),(7,some (.box [.own 22 0 (A.length + i)])),(16,some (.row 127 1 ((A ++ (List.range i).map (unitR n)).map (cP eQ)))),(22,some (.row 87 2 ((B1 ++ List.replicate i 0).map eQ)))]) (fun i=>n - i) 0 (by simp) (by simp) (by simp) ?_
 intro i hs1 t1 m1 hi hh1
 by_cases hlt : i < n
 ·have hwi:=wr1 (i:=i) (by omega)
  have hL1 : LenOk 24 (A.length + i + 1):=⟨by omega,by simp only [maxLen]; omega⟩
  have hL2 : LenOk 16 (A.length + i + 1):=⟨by omega,by simp only [maxLen]; omega⟩
  obtain ⟨RA,hRA⟩ : ∃ RA,RA = (A ++ (List.range i).map (unitR n)).map (cP eQ):=⟨_,rfl⟩
  obtain ⟨RB,hRB⟩ : ∃ RB,RB = (B1 ++ List.replicate i 0).map eQ:=⟨_,rfl⟩
  have hRAl : RA.length = A.length + i:=by rw [hRA]; simp
  have hRBl : RB.length = A.length + i:=by rw [hRB]; simp [hB1l]
  have s1 : (A ++ (List.range (i + 1)).map (unitR n)).map (cP eQ) = RA ++ [cP eQ (unitR n i)]:=by rw [hRA,List.range_succ]; simp
  have s2 : (B1 ++ List.replicate (i + 1) 0).map eQ = RB ++ [eQ 0]:=by rw [hRB,List.replicate_succ']; simp
  rw [<- hRA,<- hRB]
  refine anyQ fun Z=>?_
  simp [hlt,]
  refine loop_rule (X:=Nat) (fun k=>k <= n) (fun k=>[(5,.ptr 5 0 0),(6,.ptr 6 0 0),(7,.ptr 7 0 0),(2,.ptr 2 0 0),(3,.ptr 3 0 0),(8,.d (.int .i64 i)),(9,.own 28 0 k),(10,.d (.int .i64 k))])
   (fun k=>[(2,some (.box [.d (.pl (A.map (cP eQ))),.d (.pl (B1.map eQ)),.d (.pl (C1.map eQ))])),(3,some (.box [.d (.int .i64 1)])),(5,some (.box [.d (.int .i64 n)])),(6,some (.box [.own 16 0 (A.length + i)])),(7,some (.box [.own 22 0 (A.length + i)])),(16,some (.row 127 1 RA)),(22,some (.row 87 2 RB)),(28,some (.row 87 2 (((unitR n i).take k).map eQ)))]) (fun k=>n - k) 0 (by simp) (by simp) (by simp) ?_
  intro k hs2 t2 m2 hk hh2
  by_cases hkn : k < n
  ·have hwk:=wr1 (i:=k) (by omega)
   have hL3 : LenOk 16 (k + 1):=⟨by omega,by simp only [maxLen]; omega⟩
   have s3:=unit_take (i:=i) hkn
   have s4 : eQ (if k = i then 1 else 0) = [.int .i64 (if i = k then 1 else 0),.int .i64 1]:=by
    by_cases e : k = i
    ·subst e; rw [if_pos rfl,if_pos rfl]; rfl
    ·rw [if_neg e,if_neg (Ne.symm e)]; rfl
   obtain ⟨U,hU⟩ : ∃ U,U = ((unitR n i).take k).map eQ:=⟨_,rfl⟩
   have hUl : U.length = k:=by rw [hU]; simp [unitR]; omega
   have s5 : ((unitR n i).take (k + 1)).map eQ = U ++ [[.int .i64 (if i = k then 1 else 0),.int .i64 1]]:=by rw [s3,hU,List.map_append,List.map_cons,List.map_nil,s4]
   have hbit:=w_impl_bit (decide (i = k))
   rw [List.map_take] at s5
   rw [<- hU]
   refine anyQ fun Z=>?_
   simp [hkn,]
   refine call_f hbit (by simp) rfl fun hs3 hh3=>?_
   try simp at hh3
   simp [hUl,hL3,hwk,]
   refine back (k + 1) (by omega) (by omega) rfl (by simp <;> omega) (by simp) (by simp [s5])
  ·have hkn2 : k = n:=by omega
   subst hkn2
   have hut : (unitR k i).take k = unitR k i:=List.take_of_length_le (by rw [unitR_len]; omega)
   have hul : List.take k ((unitR k i).map eQ) = (unitR k i).map eQ:=List.take_of_length_le (by simp [unitR_len])
   simp only [List.map_append,List.map_map] at s1
   simp at s2
   rw [hut]
   simp [hRAl,hRBl,hL1,hL2,hwi,]
   refine back (i + 1) (by omega) (by omega) rfl (by simp <;> omega) (by simp) (by simp [s1,s2,hul,Nat.add_assoc])
 ·have hin : i = n:=by omega
  subst hin
  obtain ⟨RA,hRA⟩ : ∃ RA,RA = (A ++ (List.range i).map (unitR i)).map (cP eQ):=⟨_,rfl⟩
  obtain ⟨RB,hRB⟩ : ∃ RB,RB = (B1 ++ List.replicate i 0).map eQ:=⟨_,rfl⟩
  have hRAl : RA.length = A.length + i:=by rw [hRA]; simp
  have hRBl : RB.length = A.length + i:=by rw [hRB]; simp [hB1l]
  rw [<- hRA,<- hRB] at hkc ⊢
  simp []
  have hkc2:=VK.nil2 (a:=.d (.int .i64 0)) (f:=149) (by simpa [intsN] using hkc)
  refine vdyn_lead ?_
  refine (lead_frp 16 (T:=127) (sz:=1) (es:=RA) (by simp)).bind ?_
  rintro _ rfl
  refine (lead_frp 22 (T:=87) (sz:=2) (es:=RB) (by simp)).bind ?_
  rintro _ rfl
  refine lead_fbx (k:=2) (ds:=[.pl (A.map (cP eQ)),.pl (B1.map eQ),.pl (C1.map eQ)]) (by simp) (by omega) ?_
  refine lead_fbx (k:=3) (ds:=[.int .i64 1]) (by simp [St.fbx,fbxL,fbx]) (by omega) ?_
  refine lead_fbx (k:=5) (ds:=[.int .i64 i]) (by simp [St.fbx,fbxL,fbx]) (by omega) ?_
  refine lead_fbx (k:=6) (ds:=[.pl RA]) (by simp [St.fbx,fbxL,fbx,hRAl,List.take_of_length_le]) (by omega) ?_
  refine lead_fbx (k:=7) (ds:=[.pl RB]) (by simp [St.fbx,fbxL,fbx,hRBl,List.take_of_length_le]) (by omega) ?_
  refine (lead_box 11 0 902 127 1 [.d (.sl none none [])] (by omega) (by omega) (by omega) (by simp [St.fbx,fbxL,fbx]) rfl).bind ?_
  rintro _ rfl
  refine Lead.of (vdynK (f:=149) (ko:=11) (kr:=902) (kc:=12) (T:=127) (sz:=1) (es:=[]) (caps:=capsV i RA RB [.pl (A.map (cP eQ)),.pl (B1.map eQ),.pl (C1.map eQ)]) (post:=fun es'=>es' = (ptsQ A i).map (cP eQ)) (by simp [St.fbx,fbxL,fbx]) (by simp [St.fbx,fbxL,fbx]) ?_ (by simp [Hk]) ?_ rfl (by simp) (by simpa using hkc2) fun es' hs5 g1 g2 g3 g4 g5=>?_)
  ·simp [St.fbx,fbxL,fbx,capsV,renK,hRAl,hRBl,List.take_of_length_le]
  ·simp [St.fbx,fbxL,fbx,capsV,renK,hRAl,hRBl,List.take_of_length_le]
  have hpl:=pts_len h
  subst g2
  simp [St.kst,St.fbx,fbxL,fbx,List.take_of_length_le]
end
end Go.Proofs.YtglilmkmkdkedaaGreatDoor
