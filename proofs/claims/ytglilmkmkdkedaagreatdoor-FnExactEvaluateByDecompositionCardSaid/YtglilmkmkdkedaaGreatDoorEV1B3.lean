/-
  EV1B3: a part of a proof of this seat: the value-level semantics of Go code without maps, its walk rules, the frame of a row, facts of types, schedules, walks, plain lemmas (QM EF EG EH EI EJ EK EL EM LEV). It holds of every program and state that its hypotheses name.
-/
import Derived.Test.YtglilmkmkdkedaaGreatDoorEV1B2
set_option linter.unusedSimpArgs false
set_option linter.unusedVariables false
set_option linter.unnecessarySimpa false
namespace Go.Proofs.YtglilmkmkdkedaaGreatDoor
open Go.Vs Go.Proofs Go
set_option maxRecDepth 100000
set_option maxHeartbeats 1000000
section
attribute [local simp] pS cP eQ_def cI
theorem w_impl_best (A : List (List _root_.Rat)) (n : Nat) (h : LPok A n) (p : List _root_.Rat × _root_.Rat) (hp : minQ A n = some p) :
  VC Tryz.prog 134 [.agg [.d (pS (cP eQ) A),.d (pS eQ (List.replicate A.length 1)),.d (pS eQ (List.replicate n 1))],.d (.int .i64 1)]
   (fun _ r=>r = .tup [.d (.pl (p.1.map eQ)),.agg [.d (.int .i64 p.2.num),.d (.int .i64 (p.2.den : Int))],.d (.bool true)]):=by
 have hn4:=h.n4
 obtain ⟨PT,hPT⟩ : ∃ PT,PT = ptsQ A n:=⟨_,rfl⟩
 have hPl : PT.length <= 512:=by rw [hPT]; exact pts_len h
 have hPs : ∀ x ∈ PT,SolB n x:=by rw [hPT]; exact pts_sol h
 have hb : bestQ PT = some p:=by rw [hPT]; exact hp
 have hw1 : ∀ z : Int,-1 <= z -> z <= 1 -> IntKind.i64.wrap z = z:=fun z h1 h2=>wrap64_of (by omega) (by omega)
 have hcb : ∀ a b : _root_.Rat,-1 <= cmpQ a b /\ cmpQ a b <= 1:=fun a b=>by unfold cmpQ; split <;> (try split) <;> omega
 have hvs:=w_impl_vertices A n h
 rw [<- hPT] at hvs
 obtain ⟨B1,hB1⟩ : ∃ B1,B1 = List.replicate A.length (1 : _root_.Rat):=⟨_,rfl⟩
 obtain ⟨C1,hC1⟩ : ∃ C1,C1 = List.replicate n (1 : _root_.Rat):=⟨_,rfl⟩
 have hC1l : C1.length = n:=by rw [hC1]; simp
 rw [<- hB1,<- hC1] at hvs ⊢
 refine VC.ofL EP s134 (by kernel_rfl) Tryz.func134 (by rfl) (by kernel_rfl) (by simp [Tryz.f134]) (by simp [Tryz.f134]) s134_ok fun B hl=>?_
 clear hl
 simp [Tryz.f134,s134_9,s134_11,s134_9,s134_11,]
 refine call_p hvs (by simp) fun hs0 hh0 _=>?_
 try simp at hh0
 simp [s134_9,s134_11,]
 refine loop_rule (X:=Nat) (fun i=>i <= PT.length) (fun i=>[(1,.d (.int .i64 1)),(2,.ptr 2 0 0),(5,.ptr 5 0 0),(7,match bestT PT i with | none=>.d (.sl none none []) | some p=>.d (.pl (p.1.map eQ))),(8,.ptr 8 0 0),(9,.d (.bool (bestT PT i).isSome)),(16,.d (.pl (PT.map (cP eQ)))),(17,.d (.int .i64 PT.length)),(18,.d (.int .i64 i))])
  (fun i=>[(2,some (.box [.d (.pl (A.map (cP eQ))),.d (.pl (B1.map eQ)),.d (.pl (C1.map eQ))])),(5,some (.box [.d (.int .i64 0),.d (.int .i64 0)])),(8,some (.box (match bestT PT i with | none=>[.d (.int .i64 0),.d (.int .i64 0)] | some p=>[.d (.int .i64 p.2.num),.d (.int .i64 (p.2.den : Int))])))]) (fun i=>PT.length - i) 0 (by simp) (by simp [bestT_zero]) (by simp [bestT_zero]) ?_
 intro i hs1 t1 m1 hi hh1
 by_cases hlt : i < PT.length
 ·have hwi:=wr1 (i:=i) (by omega)
  have hm:=List.getElem_mem hlt
  obtain ⟨x,hx⟩ : ∃ x,x = PT[i]:=⟨_,rfl⟩
  have hSx : SolB n x:=hPs x (by rw [hx]; exact hm)
  have hxl:=hSx.len
  have hdot:=w_impl_DotProduct C1 x (by rw [hC1l,hxl]) (by rw [hC1l,hC1]; exact one_dots hSx hn4)
  have hsq : dotF C1.length (fnL C1) (fnL x) = sumQ x:=by rw [hC1l,hC1]; exact sumQ_eq hxl
  rw [hsq] at hdot
  have hsm:=sum_sm hSx hn4
  have hst:=bestT_succ hlt
  rw [<- hx] at hst
  refine anyQ fun Z=>?_
  cases hbt : bestT PT i with
  | none =>
    rw [hbt] at hst
    simp only [bestS] at hst
    simp [hlt,<- hx,s134_9,s134_11,]
    refine call_f hdot (by simp) rfl fun hs2 hh2=>?_
    try simp at hh2
    simp [hwi,s134_9,s134_11,]
    exact back (i + 1) (by omega) (by omega) rfl (by simp <;> omega) (by simp [hst]) (by simp [hst])
  | some b =>
    rw [hbt] at hst
    simp only [bestS] at hst
    obtain ⟨hb1,hb2⟩:=bestT_sum hbt
    have hbm : smQ b.2:=by rw [hb1]; exact sum_sm (hPs _ (List.mem_of_mem_take hb2)) hn4
    simp [hlt,<- hx,s134_9,s134_11,]
    refine call_f hdot (by simp) rfl fun hs2 hh2=>?_
    try simp at hh2
    simp [s134_9,s134_11,]
    refine call_f (w_impl_CompareRationals (sumQ x) b.2 hsm hbm) (by simp) rfl fun hs3 hh3=>?_
    try simp at hh3
    have hc:=hcb (sumQ x) b.2
    simp [hw1 _ hc.1 hc.2]
    by_cases hl : sumQ x < b.2
    ·rw [if_pos hl] at hst
     simp [cmpQ_lt.2 hl,hwi,s134_9,s134_11,]
     exact back (i + 1) (by omega) (by omega) rfl (by simp <;> omega) (by simp [hst]) (by simp [hst])
    ·rw [if_neg hl] at hst
     have hnc : ¬ cmpQ (sumQ x) b.2 < 0:=fun e=>hl (cmpQ_lt.1 e)
     simp [hnc,hwi,s134_9,s134_11,]
     exact back (i + 1) (by omega) (by omega) rfl (by simp <;> omega) (by simp [hst]) (by simp [hst])
 ·have hin : i = PT.length:=by omega
  subst hin
  have hbt : bestT PT PT.length = some p:=by rw [bestT_all]; exact hb
  simp [hbt,s134_9,s134_11,]
theorem w_impl_Minimize (A : List (List _root_.Rat)) (n : Nat) (h : LPok A n) (p : List _root_.Rat × _root_.Rat) (hp : minQ A n = some p) :
  VC Tryz.prog 96 [.agg [.d (pS (cP eQ) A),.d (pS eQ (List.replicate A.length 1)),.d (pS eQ (List.replicate n 1))]]
   (fun _ r=>r = .tup [.d (.pl (p.1.map eQ)),.agg [.d (.int .i64 p.2.num),.d (.int .i64 (p.2.den : Int))],.d (.bool true)]):=by
 have hn4:=h.n4
 have hval:=w_impl_IsValidLinearProgram A n h
 have hbest:=w_impl_best A n h p hp
 obtain ⟨B1,hB1⟩ : ∃ B1,B1 = List.replicate A.length (1 : _root_.Rat):=⟨_,rfl⟩
 rw [<- hB1] at hval hbest ⊢
 refine VC.ofL EP s96 (by kernel_rfl) Tryz.func96 (by rfl) (by kernel_rfl) (by simp [Tryz.f96]) (by simp [Tryz.f96]) s96_ok fun B hl=>?_
 clear hl
 simp [Tryz.f96,]
 refine call_f hval (by simp) rfl fun hs0 hh0=>?_
 try simp at hh0
 simp []
 refine loop_rule (X:=Nat) (fun i=>i <= n) (fun i=>[(1,.ptr 1 0 0),(3,.ptr 3 0 0),(12,.d (.pl ((List.replicate n (1 : _root_.Rat)).map eQ))),(13,.d (.int .i64 n)),(14,.d (.int .i64 i))]) (fun _=>[(1,some (.box [.d (.pl (A.map (cP eQ))),.d (.pl (B1.map eQ)),.d (.pl ((List.replicate n (1 : _root_.Rat)).map eQ))])),(3,some (.box [.d (.int .i64 0),.d (.int .i64 0)]))]) (fun i=>n - i) 0 (by simp) (by simp) (by simp) ?_
 intro i hs t m hi hh
 by_cases hlt : i < n
 ·have hwi:=wr1 (i:=i) (by omega)
  simp [hlt,hwi,]
  exact back (i + 1) (by omega) (by omega) rfl (by simp <;> omega) (by simp) (by simp)
 ·simp [hlt,]
  refine call_p hbest (by simp) fun hs1 hh1 _=>?_
  try simp at hh1
  simp []
theorem w_impl_coverOf (q : PQuery) (bag : List Int) (hq : q.atoms.length <= 4) (hb : bag.length <= 5) :
  VC Tryz.prog 97 [.agg ((eQuery q).map V.d),.d (pS cI bag)]
   (fun _ r=>r = .agg [.d (pS (cP eQ) (covM q.atoms bag)),.d (pS eQ (List.replicate bag.length 1)),.d (pS eQ (List.replicate q.atoms.length 1))]):=by
 have hqe : (eQuery q).map V.d = [V.d (.int .i64 q.n),V.d (.pl (q.atoms.map eAtom)),V.d (.pl (q.out.map cI))]:=by simp [eQuery]
 obtain ⟨AT,hAT⟩ : ∃ AT,AT = q.atoms:=⟨_,rfl⟩
 obtain ⟨OU,hOU⟩ : ∃ OU,OU = q.out.map cI:=⟨_,rfl⟩
 obtain ⟨RW,hRW⟩ : ∃ RW : Int -> List _root_.Rat,RW = fun v=>AT.map fun a=>r01 (a.vars.contains v):=⟨_,rfl⟩
 have hcov : covM q.atoms bag = bag.map RW:=by rw [hRW,hAT]; rfl
 rw [hcov,hqe,<- hAT,<- hOU]
 rw [<- hAT] at hq
 refine VC.ofL EP s97 (by kernel_rfl) Tryz.func97 (by rfl) (by kernel_rfl) (by simp [Tryz.f97]) (by simp [Tryz.f97]) s97_ok fun B hl=>?_
 clear hl
 simp [Tryz.f97,]
 refine loop_ruleL (X:=Nat) (fun i _=>i <= bag.length) (fun i=>[(2,.ptr 2 0 0),(4,.ptr 4 0 0),(5,.ptr 5 0 0),(11,.d (.pl (bag.map cI))),(12,.d (.int .i64 bag.length)),(13,.d (.int .i64 i))])
  (fun i=>[(2,some (.box [.d (.int .i64 q.n),.d (.pl (AT.map eAtom)),.d (.pl OU)])),(4,some (.box [.d (.sl none none []),.d (.sl none none []),.d (.sl none none [])])),(5,some (.box [.own 901 0 i,.own 902 0 i,.d (.sl none none [])])),(901,some (.row 127 1 (((bag.take i).map RW).map (cP eQ)))),(902,some (.row 87 2 ((List.replicate i (1 : _root_.Rat)).map eQ)))]) (fun i=>bag.length - i) ?_ ?_
 ·refine (lead_box 5 0 901 127 1 [.d (.sl none none []),.d (.sl none none []),.d (.sl none none [])] (by omega) (by omega) (by omega) (by simp) rfl).bind ?_
  rintro _ rfl
  refine (lead_box 5 1 902 87 2 [.own 901 0 0,.d (.sl none none []),.d (.sl none none [])] (by omega) (by omega) (by omega) (by simp) rfl).bind ?_
  rintro _ rfl
  exact Lead.of ⟨0,by omega,rfl,rfl,Nat.le_refl _,by simp,by simp⟩
 intro i hs1 t1 m1 hi hh1
 by_cases hlt : i < bag.length
 ·have hwi:=wr1 (i:=i) (by omega)
  have hL1 : LenOk 24 (i + 1):=⟨by omega,by simp only [maxLen]; omega⟩
  have hL2 : LenOk 16 (i + 1):=⟨by omega,by simp only [maxLen]; omega⟩
  obtain ⟨v,hv⟩ : ∃ v,v = bag[i]:=⟨_,rfl⟩
  obtain ⟨RA,hRA⟩ : ∃ RA,RA = ((bag.take i).map RW).map (cP eQ):=⟨_,rfl⟩
  obtain ⟨RB,hRB⟩ : ∃ RB,RB = (List.replicate i (1 : _root_.Rat)).map eQ:=⟨_,rfl⟩
  have hRAl : RA.length = i:=by rw [hRA]; simp; omega
  have hRBl : RB.length = i:=by rw [hRB]; simp
  have s1 : List.take (i + 1) (List.map (cP eQ ∘ RW) bag) = RA ++ [cP eQ (RW v)]:=by rw [List.take_succ_eq_append_getElem (by simpa using hlt)]; simp [hRA,hv]
  have s2 : List.replicate (i + 1) [D.int .i64 1,D.int .i64 1] = RB ++ [[D.int .i64 1,D.int .i64 1]]:=by rw [hRB,List.replicate_succ']; simp
  rw [<- hRA,<- hRB]
  refine anyQ2 fun Z=>?_
  simp [hlt,<- hv,]
  refine loop_ruleL (X:=Nat) (fun k _=>k <= AT.length) (fun k=>[(2,.ptr 2 0 0),(4,.ptr 4 0 0),(5,.ptr 5 0 0),(7,.d (.int .i64 v)),(8,.own 903 0 k),(11,.d (.pl (bag.map cI))),(12,.d (.int .i64 bag.length)),(13,.d (.int .i64 i)),(18,.d (.pl (AT.map eAtom))),(19,.d (.int .i64 AT.length)),(20,.d (.int .i64 k))])
   (fun k=>[(2,some (.box [.d (.int .i64 q.n),.d (.pl (AT.map eAtom)),.d (.pl OU)])),(4,some (.box [.d (.sl none none []),.d (.sl none none []),.d (.sl none none [])])),(5,some (.box [.own 901 0 i,.own 902 0 i,.d (.sl none none [])])),(901,some (.row 127 1 RA)),(902,some (.row 87 2 RB)),(903,some (.row 87 2 (((AT.take k).map fun a=>r01 (a.vars.contains v)).map eQ)))]) (fun k=>AT.length - k) ?_ ?_
  ·refine (lead_slot 8 903 87 2 (by omega) (by omega) (by simp)).bind ?_
   rintro _ rfl
   exact Lead.of ⟨0,by omega,rfl,rfl,Nat.le_refl _,by simp,by simp⟩
  intro k hs2 t2 m2 hk hh2
  by_cases hkn : k < AT.length
  ·have hwk:=wr1 (i:=k) (by omega)
   have hL3 : LenOk 16 (k + 1):=⟨by omega,by simp only [maxLen]; omega⟩
   obtain ⟨a,ha⟩ : ∃ a,a = AT[k]:=⟨_,rfl⟩
   obtain ⟨U,hU⟩ : ∃ U,U = ((AT.take k).map fun a=>r01 (a.vars.contains v)).map eQ:=⟨_,rfl⟩
   have hUl : U.length = k:=by rw [hU]; simp; omega
   have s5 : List.take (k + 1) (List.map (eQ ∘ fun a=>r01 (decide (v ∈ a.vars))) AT) = U ++ [[.int .i64 (if v ∈ a.vars then 1 else 0),.int .i64 1]]:=by
    rw [List.take_succ_eq_append_getElem (by simpa using hkn)]
    simp [-eQ_def,hU,<- ha,r01_eQ,List.contains_eq_mem]
   have hcon:=w_impl_ContainsVariable a v
   have hae : (eAtom a).map V.d = [V.d (.str a.rel),V.d (.pl (a.vars.map cI))]:=by simp [eAtom,cStr]
   have hbit:=w_impl_bit (a.vars.contains v)
   rw [hae] at hcon
   rw [<- hU]
   refine anyQ2 fun Z=>?_
   have hgk : (AT.map eAtom).getD k [] = [.str a.rel,.pl (a.vars.map cI)]:=by simp [hkn,<- ha,eAtom,cStr]
   simp [hkn,<- ha,eAtom,cStr,]
   refine call_f hcon (by simp) rfl fun hs3 hh3=>?_
   try simp at hh3
   simp []
   refine call_f hbit (by simp) rfl fun hs4 hh4=>?_
   try simp at hh4
   simp [hUl,hL3,hwk,]
   exact back2 (k + 1) (by omega) (by omega) rfl (by simp <;> omega) (by simp) (by simp [s5])
  ·have hkn2 : k = AT.length:=by omega
   have hRWv : ((AT.take k).map fun a=>r01 (a.vars.contains v)) = RW v:=by rw [hRW,hkn2,List.take_of_length_le (Nat.le_refl _)]
   rw [hRWv]
   have hRWl : (RW v).length = k:=by rw [hRW,hkn2]; simp
   have htk : ((RW v).map eQ).take k = (RW v).map eQ:=List.take_of_length_le (by simp; omega)
   simp [hkn2,hRAl,hRBl,hL1,hL2,hwi,]
   exact back2 (i + 1) (by omega) (by omega) rfl (by simp <;> omega) (by simp) (by simp [s1,s2,<- hkn2,htk])
 ·have hin : i = bag.length:=by omega
  subst hin
  rw [List.take_of_length_le (Nat.le_refl _)]
  simp []
  refine loop_ruleL (X:=Nat) (fun k _=>k <= AT.length) (fun k=>[(4,.ptr 4 0 0),(5,.ptr 5 0 0),(48,.d (.int .i64 AT.length)),(49,.d (.int .i64 k))])
   (fun k=>[(4,some (.box [.d (.sl none none []),.d (.sl none none []),.d (.sl none none [])])),(5,some (.box [.own 901 0 bag.length,.own 902 0 bag.length,.own 904 0 k])),(901,some (.row 127 1 ((bag.map RW).map (cP eQ)))),(902,some (.row 87 2 ((List.replicate bag.length (1 : _root_.Rat)).map eQ))),(904,some (.row 87 2 ((List.replicate k (1 : _root_.Rat)).map eQ)))]) (fun k=>AT.length - k) ?_ ?_
  ·refine (lead_box 5 2 904 87 2 [.own 901 0 bag.length,.own 902 0 bag.length,.d (.sl none none [])] (by omega) (by omega) (by omega) (by simp) rfl).bind ?_
   rintro _ rfl
   exact Lead.of ⟨0,by omega,rfl,rfl,Nat.le_refl _,by simp,by simp⟩
  intro k hs2 t2 m2 hk hh2
  by_cases hkn : k < AT.length
  ·have hwk:=wr1 (i:=k) (by omega)
   have hL3 : LenOk 16 (k + 1):=⟨by omega,by simp only [maxLen]; omega⟩
   obtain ⟨U,hU⟩ : ∃ U,U = (List.replicate k (1 : _root_.Rat)).map eQ:=⟨_,rfl⟩
   have hUl : U.length = k:=by rw [hU]; simp
   have s5 : List.replicate (k + 1) [D.int .i64 1,D.int .i64 1] = U ++ [[D.int .i64 1,D.int .i64 1]]:=by rw [hU,List.replicate_succ']; simp
   rw [<- hU]
   refine anyQ2 fun Z=>?_
   simp [hkn,hUl,hL3,hwk,]
   exact back2 (k + 1) (by omega) (by omega) rfl (by simp <;> omega) (by simp) (by simp [s5])
  ·have hkn2 : k = AT.length:=by omega
   subst hkn2
   simp [List.take_of_length_le]
theorem w_impl_BagCoverWidth (q : PQuery) (b : List Int) : VC Tryz.prog 51 [.agg ((eQuery q).map V.d),.d (pS cI b)] (fun _ r=>r = bcwV q b):=by
 have hqe : (eQuery q).map V.d = [V.d (.int .i64 q.n),V.d (.pl (q.atoms.map eAtom)),V.d (.pl (q.out.map cI))]:=by simp [eQuery]
 refine VC.ofL EP s51 (by kernel_rfl) Tryz.func51 (by rfl) (by kernel_rfl) (by simp [Tryz.f51]) (by simp [Tryz.f51]) s51_ok fun B hl=>?_
 clear hl
 simp [hqe,Tryz.f51,]
 refine call_f (w_impl_IsValidQuery q) (by simp [hqe]) rfl fun hs0 hh0=>?_
 try simp at hh0
 cases hq : queryOk q
 ·simp [bcwV,hq,]
 simp []
 refine call_f (w_impl_isBag q b) (by simp [hqe]) rfl fun hs1 hh1=>?_
 try simp at hh1
 cases hb : bagI q.n b
 ·simp [bcwV,hq,hb,]
 obtain ⟨f1,f2,f3,f4,f5⟩:=bag_facts hq hb
 obtain ⟨p,hp1,hp2⟩:=wid_some hq hb
 have hmin:=w_impl_Minimize (covM q.atoms b) q.atoms.length (bag_lp hq hb) p hp1
 have hcl : (covM q.atoms b).length = b.length:=by simp [covM]
 rw [hcl,hp2] at hmin
 simp []
 refine call_p (w_impl_coverOf q b f4 f2) (by simp [hqe]) fun hs2 hh2 _=>?_
 try simp at hh2
 simp []
 refine call_p hmin (by simp) fun hs3 hh3 _=>?_
 try simp at hh3
 simp [bcwV,hq,hb,]
end
end Go.Proofs.YtglilmkmkdkedaaGreatDoor
namespace Go.Proofs.YtglilmkmkdkedaaGreatDoor
open Go.Vs Go.Proofs Go
set_option maxRecDepth 100000
set_option maxHeartbeats 1000000
section
attribute [local simp] plI_id plStr_id map_plI map_plStr pS cP cI cStr dSl
theorem er_rowsL2 (l : List Ints) : erLL (l.map (cS cI)) = (l.map (plS plI)).map (cP cI):=erLL_map (er_cS er_cI) l
theorem er_intsL2 (l : List Int) : erLL (l.map cI) = l.map cI:=by rw [erLL_map er_cI,map_plI]
theorem rp_vrel (m : Nat -> Option Blk) (v : VRel) : rp m (.agg ((cVRel v).map V.d)) = some (.agg ((eVRel (plVRel v)).map V.d)):=by
 simp [cVRel,cReln,cS,eVRel,eReln,plVRel,plReln,plS,er_rowsL2,er_intsL2,rp,rpL]
theorem rp_reln2 (m : Nat -> Option Blk) (v : Reln) : rp m (.agg ((cReln v).map V.d)) = some (.agg ((eReln (plReln v)).map V.d)):=by
 simp [cReln,cS,eReln,plReln,plS,er_rowsL2,rp,rpL]
theorem rpL_cons2 {m : Nat -> Option Blk} {v v' : V} {l l' : List V} (h : rp m v = some v') (h' : rpL m l = some l') : rpL m (v :: l) = some (v' :: l'):=by simp only [rpL,h,h']
theorem xVRel (v : VRel) : (cVRel v).map V.d = [.d (.sl v.vars.id v.vars.T (v.vars.xs.map cI)),.d (.int .i64 v.rel.ar),.d (.sl v.rel.rows.id v.rel.rows.T (v.rel.rows.xs.map (cS cI)))]:=by simp [cVRel,cReln,cS]
theorem yVRel (v : PVRel) : (eVRel v).map V.d = [.d (.pl (v.vars.map cI)),.d (.int .i64 v.rel.ar),.d (.pl (v.rel.rows.map (cP cI)))]:=by simp [eVRel,eReln]
theorem p_impl_Project (r : PReln) (cols : List Int) (hb : cols.length <= 4294967296) : VC Tryz.prog 75 [.agg ((eReln r).map V.d),.d (pS cI cols)] (fun _ v=>v = .tup [.agg ((eReln (prP r cols)).map V.d),.d (.bool (prB r cols))]):=
 VC.plain (e_impl_Project r cols hb) (fun n v h=>by
  obtain ⟨y,rfl,hp,_,_⟩:=h
  have:=rp_reln2 (fun _=>none) y
  rw [hp] at this
  simp only [rp,rpL] at this ⊢
  rw [this]; rfl) (by simp [eReln,rd,rdL])
theorem w_impl_projected (b : PVRel) (bag : List Int) (hn : b.vars.Nodup) (h5 : b.vars.length <= 1000) : VC Tryz.prog 56 [.agg ((eVRel b).map V.d),.d (pS cI bag)] (fun _ r=>r = .agg ((eVRel (pjV b bag)).map V.d)):=by
 have hc1:=comL_len b.vars bag
 have hP:=p_impl_Project b.rel (comC b.vars bag) (by simp [comC]; omega)
 obtain ⟨vs,⟨ar,rl⟩⟩:=b
 simp only at hn h5 hc1 hP
 rw [pjV]
 simp only
 obtain ⟨Rs,hRs⟩ : ∃ R,R = prP ⟨ar,rl⟩ (comC vs bag):=⟨_,rfl⟩
 rw [<- hRs] at hP ⊢
 refine VC.ofL EP s56 (by kernel_rfl) Tryz.func56 (by rfl) (by kernel_rfl) (by simp [Tryz.f56]) (by simp [Tryz.f56]) s56_ok fun B hl=>?_
 clear hl
 simp [Tryz.f56,yVRel]
 have hcm:=w_impl_common vs bag (by omega)
 rw [show commL vs bag = comL vs bag from rfl] at hcm
 have hsub : ∀ v ∈ comL vs bag,v ∈ vs:=fun v hv=>(List.mem_filter.1 hv).1
 obtain ⟨C,hC⟩ : ∃ C,C = comL vs bag:=⟨_,rfl⟩
 have hcc : comC vs bag = C.map (idxL vs):=by rw [hC]; rfl
 rw [hcc] at hP
 rw [<- hC] at hcm hsub hc1 ⊢
 refine call_p hcm (by simp) fun hs1 hh1 hl1=>?_
 simp at hh1
 simp []
 refine loop_ruleL (X:=Nat) (fun i _=>i <= C.length) (fun i=>[(1,.d (.pl (bag.map cI))),(2,.ptr 2 0 0),(4,.ptr 4 0 0),(5,.d (.pl (C.map cI))),(6,.own 90 0 i),(15,.d (.pl (C.map cI))),(16,.d (.int .i64 C.length)),(17,.d (.int .i64 i))])
  (fun i=>[(2,some (.box [.d (.pl (vs.map cI)),.d (.int .i64 ar),.d (.pl (rl.map (cP cI)))])),(4,some (.box [.d (.sl none none []),.d (.int .i64 0),.d (.sl none none [])])),(90,some (.row 3 1 (((C.take i).map (idxL vs)).map cI)))]) (fun i=>C.length - i) ?_ ?_
 ·refine (lead_slot 6 90 3 1 (by omega) (by omega) (by simp)).bind ?_
  rintro _ rfl
  exact Lead.of ⟨0,by omega,rfl,rfl,Nat.le_refl _,by simp,by simp⟩
 intro i hs t m hi hh
 by_cases hlt : i < C.length
 ·have hwi:=wr1 (i:=i) (by omega)
  have hmin : min i C.length = i:=by omega
  have L : LenOk 8 (i + 1):=⟨by omega,by simp only [maxLen]; omega⟩
  have htk : (C.map (cI ∘ idxL vs)).take (i + 1) = (C.map (cI ∘ idxL vs)).take i ++ [[D.int .i64 (idxL vs C[i])]]:=by
   rw [<- List.map_take,List.take_succ_eq_append_getElem hlt,List.map_append,List.map_take]; simp
  refine anyQ2 fun Q=>?_
  simp [hlt,]
  refine call_f (w_impl_indexOf vs C[i]) (by simp) rfl fun hs3 hh3=>?_
  simp at hh3
  simp [hwi,L,hmin,List.take_of_length_le,]
  exact back2 (i + 1) (by omega) (by omega) rfl (by simp <;> omega) (by simp) (by simp [htk])
 have hn : i = C.length:=by omega
 subst hn
 rw [List.take_length]
 obtain ⟨X,hX⟩ : ∃ X,X = C.map (idxL vs):=⟨_,rfl⟩
 have hXl : X.length = C.length:=by rw [hX]; simp
 rw [<- hX] at hP ⊢
 simp [eReln,]
 refine call_p hP (by simp [eReln,List.take_of_length_le,hXl]) fun hs3 hh3 hl3=>?_
 simp at hh3
 simp [eReln,eVRel,]
theorem e_impl_BagRelation (d : PDb) (q : PQuery) (bag : List Int) : VC Tryz.prog 13 [.agg ((eDb d).map V.d),.agg ((eQuery q).map V.d),.d (pS cI bag)]
  (fun n r=>∃ y : VRel,r = .tup [.agg ((cVRel y).map V.d),.d (.bool (brO d q bag).isSome)] /\ plVRel y = ovR (brO d q bag) /\ okVRel y /\ Good (cVRel y) (whVRel y) n):=by
 obtain ⟨dl,hdl⟩ : ∃ dl,dl = d.tabs:=⟨_,rfl⟩
 have hde : (eDb d).map V.d = [V.d (.pl (dl.map eTab))]:=by rw [hdl]; simp [eDb]
 have hqe : (eQuery q).map V.d = [V.d (.int .i64 q.n),V.d (.pl (q.atoms.map eAtom)),V.d (.pl (q.out.map cI))]:=by simp [eQuery]
 have hBC:=w_impl_BagCoverWidth q bag
 rw [bcwV] at hBC
 refine VC.of E s13 (by kernel_rfl) Tryz.func13 (by rfl) (by kernel_rfl) (by simp [Tryz.f13]) (by simp [Tryz.f13]) s13_ok fun B=>?_
 have hZ : ∃ y : VRel,[V.d (.sl none none []),V.d (.int .i64 0),V.d (.sl none none [])] = (cVRel y).map V.d /\ plVRel y = ovR none /\ okVRel y /\ Good (cVRel y) (whVRel y) B:=
  ⟨⟨nilS,⟨0,nilS⟩⟩,by simp [cVRel,cReln,cS,nilS],by simp [ovR,plVRel,plReln,nilS,plS],⟨ok_nilS,trivial,ok_nilS⟩,good_VRel0 B⟩
 obtain ⟨yz,hz1,hz2,hz3,hz4⟩:=hZ
 simp [Tryz.f13,s13_9,s13_9,hde,hqe]
 cases hqb : queryOk q && bagI q.n bag
 ·have hO : brO d q bag = none:=by
   rw [brO,if_neg]
   intro h
   simp only [Bool.and_eq_true] at h
   have:=(qf_of h.1).qok
   simp [this,h.2] at hqb
  rw [hqb] at hBC
  simp only [Bool.false_eq_true,if_false] at hBC
  refine call_f hBC (by simp [hqe]) rfl fun hs1 hh1=>?_
  simp at hh1
  simp [s13_9,]
  exact ⟨yz,⟨hz1,hO⟩,by rw [hO]; exact hz2,hz3,hz4⟩
 rw [hqb] at hBC
 simp only [if_true] at hBC
 refine call_f hBC (by simp [hqe]) rfl fun hs1 hh1=>?_
 simp at hh1
 simp [s13_9,]
 refine call_f (w_impl_IsQueryFor d q) (by simp [hde,hqe]) rfl fun hs2 hh2=>?_
 simp at hh2
 cases hqf : qryFor d q
 ·have hO : brO d q bag = none:=by rw [brO,hqf]; rfl
  simp [s13_9,]
  exact ⟨yz,⟨hz1,hO⟩,by rw [hO]; exact hz2,hz3,hz4⟩
 have f:=qf_of hqf
 have ha4:=f.a4
 have hbg : bagI q.n bag = true:=by simp only [Bool.and_eq_true] at hqb; exact hqb.2
 have hOe : brO d q bag = brT d q bag q.atoms.length:=by rw [brO,hqf,hbg]; rfl
 rw [hOe]
 simp [s13_9,]
 rw [w_bs1 (k':=30) (ks:=[]) _ _ _ (by simp) (by simp)]
 intro γ hs3 h3 hg
 obtain ⟨q1,q2⟩:=gam_at hg (k:=30) (T:=3) (sz:=1) (es:=[]) (by simp)
 clear hg
 simp [vpre,vnext,veff,vval,isPure,St.frzs,St.frz,Vs.frz,hpLL,St.kill,s13_9,]
 have h3' : hs2 <= hs3:=h3
 refine loop_ruleL (X:=Nat × VRel) (fun p _=>p.1 <= q.atoms.length /\ brT d q bag p.1 = some (plVRel p.2) /\ okVRel p.2 /\ Good (cVRel p.2) (whVRel p.2) B) (fun p=>[(2,.d (.pl (bag.map cI))),(3,.ptr 3 0 0),(4,.ptr 4 0 0),(6,.ptr 6 0 0),(10,.ptr 10 0 0),(35,.d (.pl (q.atoms.map eAtom))),(36,.d (.int .i64 q.atoms.length)),(37,.d (.int .i64 p.1))])
  (fun p=>[(3,some (.box [.d (.pl (dl.map eTab))])),(4,some (.box [.d (.int .i64 q.n),.d (.pl (q.atoms.map eAtom)),.d (.pl (q.out.map cI))])),(6,some (.box [.d (.sl none none []),.d (.int .i64 0),.d (.sl none none [])])),(10,some (.box [.d (.sl p.2.vars.id p.2.vars.T (p.2.vars.xs.map cI)),.d (.int .i64 p.2.rel.ar),.d (.sl p.2.rel.rows.id p.2.rel.rows.T (p.2.rel.rows.xs.map (cS cI)))]))]) (fun p=>q.atoms.length - p.1) ?_ ?_
 ·refine (lead_frz 31 (T:=26) (sz:=1) (es:=[[.sl (γ 30) (some (3,1)) []]]) (by simp)).bind ?_
  rintro _ ⟨γ2,hs4,h4,hg2,rfl⟩
  obtain ⟨p1,p2⟩:=gam_at hg2 (k:=31) (T:=26) (sz:=1) (es:=[[.sl (γ 30) (some (3,1)) []]]) (by simp)
  have p3:=gam_row hg2 (k:=31) (T:=26) (sz:=1) (es:=[[.sl (γ 30) (some (3,1)) []]]) (by simp)
  clear hg2
  have G1 : Good (cS cI (⟨γ 30,some (3,1),[]⟩ : Ints)) (whS whI ⟨γ 30,some (3,1),[]⟩) B:=good_ints (fun g hg=>(q1 g hg).1) (by simp)
  have G2 : Good (cS (cS cI) (⟨γ2 31,some (26,1),[⟨γ 30,some (3,1),[]⟩]⟩ : Sl Ints)) (whS (whS whI) ⟨γ2 31,some (26,1),[⟨γ 30,some (3,1),[]⟩]⟩) B:=
   good_row (fun g hg=>(p1 g hg).1) (by simpa using p2 (by simp)) (fun g hg=>by have:=p3 g hg; simpa [cS] using this) ⟨by have:=G1.nd; simpa [cS,idsLL] using this,by have:=G1.lo; simpa [cS,idsLL] using this⟩ (by simpa using G1.wh)
  have G:=Good.app (good_nilS (c:=cI) (wh:=whI) B) (good_Reln (ar:=0) G2 (Nat.le_refl _)) (fun g h h'=>by simp [cS,nilS,idsL,D.ids,dSl,idsLL] at h)
  exact Lead.of ⟨(0,⟨nilS,⟨0,⟨γ2 31,some (26,1),[⟨γ 30,some (3,1),[]⟩]⟩⟩⟩),⟨by omega,by simp [brT_zero,plVRel,plReln,plS,nilS],⟨ok_nilS,trivial,by simp only [List.length_singleton,maxLen]; omega,by simp [okS]⟩,⟨G.nd,G.lo,G.wh⟩⟩,rfl,rfl,by simp <;> omega,by simp,by simp [Vs.frz,St.frz,nilS,cS]⟩
 rintro ⟨i,y⟩ hs t m ⟨hi,hT,ky,Gy⟩ hh
 simp only at hi hT ky Gy
 by_cases hlt : i < q.atoms.length
 ·have hwi:=wr1 (i:=i) (by omega)
  have hmem:=List.getElem_mem hlt
  obtain ⟨⟨nm,vs⟩,ha⟩ : ∃ a,a = q.atoms[i]:=⟨_,rfl⟩
  have hsc:=brT_succ d q bag hlt
  rw [hT] at hsc
  rw [<- ha] at hmem hsc
  have hlk:=f.lk _ hmem
  have har:=f.ar _ hmem
  have hvl:=f.vlen _ hmem
  have hvi : ∀ v ∈ vs,0 <= v /\ v < 5:=fun v hv=>by have:=f.vin _ hmem v hv; have:=f.n5; omega
  have hcm:=w_impl_common (aVars vs) bag (by have:=aVars_len5 vs; omega)
  rw [show commL (aVars vs) bag = comL (aVars vs) bag from rfl] at hcm
  have hAR:=w_impl_AtomRelation d ⟨nm,vs⟩ hlk har hvl.2 hvi
  have hPJ:=w_impl_projected (abV d ⟨nm,vs⟩) bag (pw_nodup (aVars_pw vs)) (by have:=aVars_len5 vs; simp only [abV]; omega)
  rw [show (⟨aVars (⟨nm,vs⟩ : PAtom).vars,⟨(aVars (⟨nm,vs⟩ : PAtom).vars).length,abR d ⟨nm,vs⟩⟩⟩ : PVRel) = abV d ⟨nm,vs⟩ from rfl] at hAR
  simp only [brS] at hsc
  obtain ⟨AB,hAB⟩ : ∃ x,x = abV d ⟨nm,vs⟩:=⟨_,rfl⟩
  obtain ⟨PJ,hPJd⟩ : ∃ x,x = pjV AB bag:=⟨_,rfl⟩
  obtain ⟨CM,hCM⟩ : ∃ x,x = comL (aVars vs) bag:=⟨_,rfl⟩
  rw [<- hAB] at hAR hPJ hsc
  rw [<- hPJd] at hPJ hsc
  rw [<- hCM] at hcm hsc
  have hNJ:=e_impl_NaturalJoin (plVRel y) PJ
  obtain ⟨⟨vid,vT,vx⟩,⟨yar,⟨rid,rT,rx⟩⟩⟩:=y
  have rNJ:=fun m=>rpL_cons2 (rp_vrel m ⟨⟨vid,vT,vx⟩,⟨yar,⟨rid,rT,rx⟩⟩⟩) (rpL_cons2 (show rp m (.agg ((eVRel PJ).map V.d)) = some (.agg ((eVRel PJ).map V.d)) by simp [eVRel,eReln,rp,rpL]) (show rpL m [] = some [] from rfl))
  simp only [xVRel] at rNJ
  have hqB:=fun (e : brT d q bag (i + 1) = none)=>brT_none e q.atoms.length (by omega)
  simp [hlt,<- ha,eAtom,s13_9,]
  refine call_p (w_impl_AtomVariablesA ⟨nm,vs⟩) (by simp [eAtom,cStr]) fun hs5 hh5 hl5=>?_
  simp at hh5
  simp [s13_9,]
  refine call_p hcm (by simp) fun hs6 hh6 hl6=>?_
  simp at hh6
  by_cases hC0 : CM = []
  ·rw [if_pos hC0] at hsc
   simp [hC0,hwi,s13_9,]
   exact back2 (i + 1,⟨⟨vid,vT,vx⟩,⟨yar,⟨rid,rT,rx⟩⟩⟩) ⟨by simp only; omega,hsc,ky,Gy⟩ (by simp only; omega) rfl (by simp <;> omega) (by simp) (by simp [cS])
  rw [if_neg hC0] at hsc
  simp [hC0,s13_9,]
  repeat' apply And.intro
  all_goals
   refine call_p hAR (by simp [hde,eAtom,cStr]) fun hs7 hh7 hl7=>?_
   simp at hh7
   simp [yVRel AB,s13_9,]
   try (repeat' apply And.intro)
   all_goals
    refine call_p hPJ (by simp [yVRel AB]) fun hs8 hh8 hl8=>?_
    simp at hh8
    simp [yVRel PJ,s13_9,]
    try (repeat' apply And.intro)
    all_goals
     refine call_pq hNJ (by rw [<- yVRel PJ]; exact rNJ _) fun n9 hs9 r9 hn9 hm9 hp9 hl9=>?_
     obtain ⟨⟨⟨wid,wT,wx⟩,⟨war,⟨sid,sT,sx⟩⟩⟩,rfl,pw,kw,Gw⟩:=hp9
     simp at hn9
     cases hnb : njB (plVRel ⟨⟨vid,vT,vx⟩,⟨yar,⟨rid,rT,rx⟩⟩⟩) PJ
     ·rw [hnb] at hsc
      simp only [Bool.false_eq_true,if_false] at hsc
      have hO:=hqB hsc
      simp [cVRel,cReln,cS,s13_9,]
      simp only [hO]
      exact ⟨yz,by simpa [cVRel,cReln,cS] using hz1,hz2,hz3,hz4⟩
     ·rw [hnb] at hsc
      simp only [if_true] at hsc
      simp [cVRel,cReln,cS,hwi,s13_9,]
      exact back2 (i + 1,⟨⟨wid,wT,wx⟩,⟨war,⟨sid,sT,sx⟩⟩⟩) ⟨by simp only; omega,by rw [pw]; exact hsc,kw,Gw.le (by omega)⟩ (by simp only; omega) rfl (by simp <;> omega) (by simp) (by simp [cS])
 ·have hn : i = q.atoms.length:=by omega
  subst hn
  rw [hT]
  simp [s13_9,]
  exact ⟨y,by simp [cVRel,cReln,cS],rfl,ky,Gy⟩
end
end Go.Proofs.YtglilmkmkdkedaaGreatDoor
namespace Go.Proofs.YtglilmkmkdkedaaGreatDoor
open Go.Vs Go.Proofs Go
set_option maxRecDepth 100000
set_option maxHeartbeats 1000000
section
attribute [local simp] plI_id plStr_id map_plI map_plStr pS cP cI cStr
def nlC (b : Bool) (l : List Int) : D:=if b then .sl none none [] else .pl (l.map cI)
theorem w_spec_BagRelation (d : PDb) (q : PQuery) (bag : List Int) (hst : ∀ t ∈ d.tabs,t.name.length <= maxLen) (hsq : ∀ a ∈ q.atoms,a.rel.length <= maxLen) : VC Tryz.prog 9 [.agg ((eDb d).map V.d),.agg ((eQuery q).map V.d),.d (pS cI bag)]
  (fun _ r=>r = .tup [.agg ((eVRel (ovR (brO d q bag))).map V.d),.d (.bool (brO d q bag).isSome)]):=by
 obtain ⟨dl,hdl⟩ : ∃ dl,dl = d.tabs:=⟨_,rfl⟩
 have hde : (eDb d).map V.d = [V.d (.pl (dl.map eTab))]:=by rw [hdl]; simp [eDb]
 have hqe : (eQuery q).map V.d = [V.d (.int .i64 q.n),V.d (.pl (q.atoms.map eAtom)),V.d (.pl (q.out.map cI))]:=by simp [eQuery]
 have hBg:=w_spec_l30Bag q bag
 rw [<- bag_eq] at hBg
 refine VC.ofL EP s9 (by kernel_rfl) Tryz.func9 (by rfl) (by kernel_rfl) (by simp [Tryz.f9]) (by simp [Tryz.f9]) s9_ok fun B hl=>?_
 clear hl
 simp [Tryz.f9,s9_7,s9_7,hde,hqe]
 refine call_f (w_spec_IsQueryFor d q hst hsq) (by simp [hde,hqe]) rfl fun hs1 hh1=>?_
 simp at hh1
 cases hqf : qryFor d q
 ·have hO : brO d q bag = none:=by rw [brO,hqf]; rfl
  simp [hO,ovR,eVRel,eReln,s9_7,]
 simp [s9_7,]
 refine call_f hBg (by simp [hqe]) rfl fun hs2 hh2=>?_
 simp at hh2
 cases hbg : bagI q.n bag
 ·have hO : brO d q bag = none:=by rw [brO,hbg,Bool.and_false]; rfl
  simp [hO,ovR,eVRel,eReln,s9_7,]
 have f:=qf_of hqf
 have ha4:=f.a4
 have hOe : brO d q bag = brT d q bag q.atoms.length:=by rw [brO,hqf,hbg]; rfl
 rw [hOe]
 simp [s9_7,]
 refine loop_ruleL (X:=Nat × PVRel × Bool) (fun p _=>p.1 <= q.atoms.length /\ brT d q bag p.1 = some p.2.1 /\ (p.2.2 = true -> p.2.1.vars = [])) (fun p=>[(2,.d (.pl (bag.map cI))),(3,.ptr 3 0 0),(4,.ptr 4 0 0),(6,.ptr 6 0 0),(8,.ptr 8 0 0),(9,.d (.int .i64 p.1))])
  (fun p=>[(3,some (.box [.d (.pl (dl.map eTab))])),(4,some (.box [.d (.int .i64 q.n),.d (.pl (q.atoms.map eAtom)),.d (.pl (q.out.map cI))])),(6,some (.box [.d (.sl none none []),.d (.int .i64 0),.d (.sl none none [])])),(8,some (.box [.d (nlC p.2.2 p.2.1.vars),.d (.int .i64 p.2.1.rel.ar),.d (.pl (p.2.1.rel.rows.map (cP cI)))]))]) (fun p=>q.atoms.length - p.1) ?_ ?_
 ·refine (lead_frp 30 (T:=26) (sz:=1) (es:=[[.pl []]]) (by simp)).bind ?_
  rintro _ rfl
  exact Lead.of ⟨(0,⟨[],⟨0,[[]]⟩⟩,true),⟨by omega,brT_zero d q bag,fun _=>rfl⟩,rfl,rfl,Nat.le_refl _,by simp,by simp [nlC]⟩
 rintro ⟨i,y,fl⟩ hs t m ⟨hi,hT,hfl⟩ hh
 simp only at hi hT hfl
 by_cases hlt : i < q.atoms.length
 ·have hwi:=wr1 (i:=i) (by omega)
  have hmem:=List.getElem_mem hlt
  obtain ⟨⟨nm,vs⟩,ha⟩ : ∃ a,a = q.atoms[i]:=⟨_,rfl⟩
  have hsc:=brT_succ d q bag hlt
  rw [hT] at hsc
  rw [<- ha] at hmem hsc
  have hlk:=f.lk _ hmem
  have har:=f.ar _ hmem
  have hvl:=f.vlen _ hmem
  have hvi : ∀ v ∈ vs,0 <= v /\ v < 5:=fun v hv=>by have:=f.vin _ hmem v hv; have:=f.n5; omega
  have hAR:=w_spec_AtomRelation d ⟨nm,vs⟩ hst (hsq _ hmem) hlk har hvl.2 hvi
  have hav5:=aVars_len5 vs
  have hnd:=pw_nodup (aVars_pw vs)
  have hPr:=w_spec_Project (abV d ⟨nm,vs⟩).rel (comC (aVars vs) bag) (by have:=comL_len (aVars vs) bag; simp [comC]; omega)
  simp only [brS] at hsc
  have hPJe : pjV (abV d ⟨nm,vs⟩) bag = ⟨comL (aVars vs) bag,prP (abV d ⟨nm,vs⟩).rel (comC (aVars vs) bag)⟩:=rfl
  have hNJ:=w_spec_NaturalJoin y (pjV (abV d ⟨nm,vs⟩) bag)
  have hABv : (abV d ⟨nm,vs⟩).vars = aVars vs:=rfl
  obtain ⟨AB,hAB⟩ : ∃ x,x = abV d ⟨nm,vs⟩:=⟨_,rfl⟩
  rw [<- hAB] at hAR hPr hsc hPJe hNJ hABv
  obtain ⟨AV,hAV⟩ : ∃ x,x = aVars vs:=⟨_,rfl⟩
  rw [<- hAV] at hPr hsc hPJe hABv hav5 hnd
  obtain ⟨abv,abr⟩:=AB
  simp only at hABv hPr
  subst hABv
  have hqB:=fun (e : brT d q bag (i + 1) = none)=>brT_none e q.atoms.length (by omega)
  simp [hlt,<- ha,eAtom,s9_7,]
  repeat' apply And.intro
  all_goals
   refine call_p hAR (by simp [hde,eAtom,cStr]) fun hs3 hh3 hl3=>?_
   simp at hh3
   simp [yVRel,s9_7,]
   refine loop_rule (X:=Nat) (fun j=>j <= abv.length) (fun j=>[(2,.d (.pl (bag.map cI))),(3,.ptr 3 0 0),(4,.ptr 4 0 0),(6,.ptr 6 0 0),(8,.ptr 8 0 0),(9,.d (.int .i64 i)),(10,.ptr 10 0 0),(11,.own 47 0 (comL (abv.take j) bag).length),(12,.own 48 0 (comL (abv.take j) bag).length),(13,.d (.int .i64 j))])
    (fun j=>[(3,some (.box [.d (.pl (dl.map eTab))])),(4,some (.box [.d (.int .i64 q.n),.d (.pl (q.atoms.map eAtom)),.d (.pl (q.out.map cI))])),(6,some (.box [.d (.sl none none []),.d (.int .i64 0),.d (.sl none none [])])),(8,some (.box [.d (nlC fl y.vars),.d (.int .i64 y.rel.ar),.d (.pl (y.rel.rows.map (cP cI)))])),(10,some (.box [.d (.pl (abv.map cI)),.d (.int .i64 abr.ar),.d (.pl (abr.rows.map (cP cI)))])),(47,some (.row 3 1 (((comL (abv.take j) bag).map (idxL abv)).map cI))),(48,some (.row 3 1 ((comL (abv.take j) bag).map cI)))]) (fun j=>abv.length - j) 0 (by omega) (by simp [comL_nil]) (by simp [comL_nil]) ?_
   intro j hs4 t m hj hh4
   have hh4' : hs3 <= hs4:=hh4
   by_cases hjl : j < abv.length
   ·have hwj:=wr1 (i:=j) (by omega)
    have hstp:=comL_succ (b:=bag) hjl
    have hln:=comL_len (abv.take j) bag
    rw [List.length_take] at hln
    obtain ⟨C,hC⟩ : ∃ C,C = comL (abv.take j) bag:=⟨_,rfl⟩
    rw [<- hC] at hstp hln ⊢
    have hL : LenOk 8 (C.length + 1):=⟨by omega,by simp only [maxLen]; omega⟩
    have hge:=idxL_ge bag abv[j]
    have hix:=idxL_get hnd hjl
    refine anyQ fun Q=>?_
    simp [hjl,s9_7,]
    refine call_f (w_spec_l7Find bag abv[j]) (by simp) rfl fun hs5 hh5=>?_
    simp at hh5
    cases hc : bag.contains abv[j]
    ·have h8 : ¬ 0 <= idxL bag abv[j]:=by rw [hc] at hge; exact of_decide_eq_false hge
     rw [hc] at hstp
     simp only [Bool.false_eq_true,if_false,List.append_nil] at hstp
     simp [h8,hwj,s9_7,]
     exact back (j + 1) (by omega) (by omega) rfl (by simp <;> omega) (by rw [hstp]; simp) (by rw [hstp]; simp)
    ·have h8 : 0 <= idxL bag abv[j]:=by rw [hc] at hge; exact of_decide_eq_true hge
     rw [hc] at hstp
     simp only [if_true] at hstp
     simp [h8,hjl,hwj,hL,List.take_of_length_le,s9_7,]
     exact back (j + 1) (by omega) (by omega) rfl (by simp <;> omega) (by rw [hstp]; simp) (by rw [hstp]; simp [hix])
   have hn : j = abv.length:=by omega
   subst hn
   rw [List.take_length]
   obtain ⟨C,hC⟩ : ∃ C,C = comL abv bag:=⟨_,rfl⟩
   have hcc : comC abv bag = C.map (idxL abv):=by rw [hC]; rfl
   rw [hcc] at hPr hPJe
   rw [<- hC] at hsc hPJe ⊢
   by_cases hC0 : C = []
   ·rw [if_pos hC0] at hsc
    simp [hC0,hwi,s9_7,]
    exact back2 (i + 1,y,fl) ⟨by simp only; omega,hsc,hfl⟩ (by simp only; omega) rfl (by simp <;> omega) (by simp) (by simp)
   rw [if_neg hC0] at hsc
   obtain ⟨X,hX⟩ : ∃ X,X = C.map (idxL abv):=⟨_,rfl⟩
   have hXl : X.length = C.length:=by rw [hX]; simp
   rw [<- hX] at hPr hPJe ⊢
   simp [hC0,s9_7,]
   refine call_p hPr (by simp [eReln,List.take_of_length_le,hXl]) fun hs6 hh6 hl6=>?_
   simp at hh6
   obtain ⟨PP,hPP⟩ : ∃ P,P = prP abr X:=⟨_,rfl⟩
   rw [<- hPP] at hPJe ⊢
   rw [hPJe] at hNJ hsc
   simp [eReln,List.take_of_length_le,s9_7,]
   refine call_p hNJ (by
    cases fl
    ·simp [nlC,eVRel,eReln,List.take_of_length_le]
    ·have:=hfl rfl
     simp [nlC,eVRel,eReln,List.take_of_length_le,this,D.er,erLL]) fun hs7 hh7 hl7=>?_
   simp at hh7
   cases hnb : njB y ⟨C,PP⟩
   ·rw [hnb] at hsc
    simp only [Bool.false_eq_true,if_false] at hsc
    have hO:=hqB hsc
    simp [hO,ovR,eVRel,eReln,s9_7,]
   ·rw [hnb] at hsc
    simp only [if_true] at hsc
    simp [eVRel,eReln,hwi,s9_7,]
    exact back2 (i + 1,njP y ⟨C,PP⟩,false) ⟨by simp only; omega,hsc,fun h=>by cases h⟩ (by simp only; omega) rfl (by simp <;> omega) (by simp) (by simp [nlC])
 ·have hn : i = q.atoms.length:=by omega
  subst hn
  rw [hT]
  obtain ⟨yv,⟨yar,yr⟩⟩:=y
  simp only at hfl
  cases fl
  ·simp [nlC,ovR,eVRel,eReln,s9_7,]
  ·obtain rfl:=hfl rfl
   simp [nlC,ovR,eVRel,eReln,s9_7,]
end
section
attribute [local simp] plI_id plStr_id map_plI map_plStr pS cP cI cStr dSl
theorem rp_db2 (m : Nat -> Option Blk) (v : Db) : rp m (.agg ((cDb v).map V.d)) = some (.agg ((eDb (plDb v)).map V.d)):=by
 simp [cDb,cS,eDb,plDb,plS,erLL_map er_cTab,rp,rpL]
theorem rp_qry2 (m : Nat -> Option Blk) (v : Query) : rp m (.agg ((cQuery v).map V.d)) = some (.agg ((eQuery (plQuery v)).map V.d)):=by
 simp [cQuery,cS,eQuery,plQuery,plS,erLL_map er_cAtom,erLL_map er_cI,rp,rpL]
theorem rp_dec2 (m : Nat -> Option Blk) (v : Dec) : rp m (.agg ((cDec v).map V.d)) = some (.agg ((eDec (plDec v)).map V.d)):=by
 simp [cDec,cS,eDec,plDec,plS,er_rowsL2,er_intsL2,rp,rpL]
end
end Go.Proofs.YtglilmkmkdkedaaGreatDoor
namespace Go.Proofs.YtglilmkmkdkedaaGreatDoor
open Go.Vs Go.Proofs Go
set_option maxRecDepth 100000
set_option maxHeartbeats 1000000
section
attribute [local simp] plI_id plStr_id map_plI map_plStr pS cP cI cStr dSl
theorem e_impl_BagRelations (d : PDb) (q : PQuery) (x : PDec) (hb : x.par.length <= 4294967296) : VC Tryz.prog 31 [.agg ((eDb d).map V.d),.agg ((eQuery q).map V.d),.agg ((eDec x).map V.d)]
  (fun n r=>∃ y : Sl VRel,r = .tup [.d (dSl cVRel y),.d (.bool (rlO d q x).isSome)] /\ plS plVRel y = ovL (rlO d q x) /\ okS okVRel y /\ Good (cS cVRel y) (whS whVRel y) n /\ ∀ g,y.id = some g -> y.T = some (35,3)):=by
 obtain ⟨dl,hdl⟩ : ∃ dl,dl = d.tabs:=⟨_,rfl⟩
 have hde : (eDb d).map V.d = [V.d (.pl (dl.map eTab))]:=by rw [hdl]; simp [eDb]
 have hqe : (eQuery q).map V.d = [V.d (.int .i64 q.n),V.d (.pl (q.atoms.map eAtom)),V.d (.pl (q.out.map cI))]:=by simp [eQuery]
 have hVD:=w_impl_IsValidDecomposition q x hb
 have hBR:=fun b=>e_impl_BagRelation d q b
 simp only [hde,hqe,pS] at hBR
 obtain ⟨bs,ps⟩:=x
 have hxe : (eDec ⟨bs,ps⟩).map V.d = [V.d (.pl (bs.map (cP cI))),V.d (.pl (ps.map cI))]:=by simp [eDec]
 refine VC.of E s31 (by kernel_rfl) Tryz.func31 (by rfl) (by kernel_rfl) (by simp [Tryz.f31]) (by simp [Tryz.f31]) s31_ok fun B=>?_
 simp [Tryz.f31,hde,hqe,hxe]
 refine call_f hVD (by simp [hqe,hxe]) rfl fun hs1 hh1=>?_
 simp at hh1
 cases hdo : decOk q ⟨bs,ps⟩
 ·have hO : rlO d q ⟨bs,ps⟩ = none:=by rw [rlO,hdo]; rfl
  simp [hO,ovL,]
  exact ⟨nilS,by simp [nilS],by simp [nilS,plS],ok_nilS,good_nilS B,by simp [nilS]⟩
 have hOe : rlO d q ⟨bs,ps⟩ = rlT d q bs bs.length:=by rw [rlO,hdo]; rfl
 have hbl : bs.length <= 4294967296:=by
  simp only [decOk,Bool.and_eq_true,decide_eq_true_eq] at hdo
  have:=hdo.1.1.1.1.2
  simp only at this hb; omega
 rw [hOe]
 simp []
 refine loop_ruleL (X:=Nat × List VRel) (fun p h=>p.1 <= bs.length /\ rlT d q bs p.1 = some (p.2.map plVRel) /\ GoodL cVRel whVRel B h p.2 /\ ∀ y ∈ p.2,okVRel y) (fun p=>[(3,.ptr 3 0 0),(4,.ptr 4 0 0),(5,.ptr 5 0 0),(8,.own 90 0 p.2.length),(18,.d (.pl (bs.map (cP cI)))),(19,.d (.int .i64 bs.length)),(20,.d (.int .i64 p.1))])
  (fun p=>[(3,some (.box [.d (.pl (dl.map eTab))])),(4,some (.box [.d (.int .i64 q.n),.d (.pl (q.atoms.map eAtom)),.d (.pl (q.out.map cI))])),(5,some (.box [.d (.pl (bs.map (cP cI))),.d (.pl (ps.map cI))])),(90,some (.row 35 3 (p.2.map cVRel)))]) (fun p=>bs.length - p.1) ?_ ?_
 ·refine (lead_slot 8 90 35 3 (by omega) (by omega) (by simp)).bind ?_
  rintro _ rfl
  exact Lead.of ⟨(0,[]),⟨by omega,by simp [rlT_zero],GoodL.nil,by simp⟩,rfl,rfl,Nat.le_refl _,by simp,by simp⟩
 rintro ⟨i,ys⟩ hs t m ⟨hi,hT,hG,hk⟩ hh
 simp only at hi hT hG hk
 have hyl:=rlT_len hi hT
 simp only [List.length_map] at hyl
 by_cases hlt : i < bs.length
 ·have hwi:=wr1 (i:=i) (by omega)
  have hsc:=rlT_succ d q hlt
  rw [hT] at hsc
  have hqB:=fun (e : rlT d q bs (i + 1) = none)=>rlT_none e bs.length (by omega)
  have hL : LenOk 56 (ys.length + 1):=⟨by omega,by simp only [maxLen]; omega⟩
  simp [hlt,]
  refine call_some (hBR bs[i]) (by simp [hde,hqe]) (by simp [hde,hqe]) fun n2 hs2 r2 hn2 hm2 hp2 hr2=>?_
  obtain ⟨⟨⟨vid,vT,vx⟩,⟨yar,⟨rid,rT,rx⟩⟩⟩,rfl,p2,k2,G2⟩:=hp2
  have hn2' : hs <= n2:=hn2
  have hr2' : ∀ g ∈ idsL (cVRel ⟨⟨vid,vT,vx⟩,⟨yar,⟨rid,rT,rx⟩⟩⟩),g < hs2:=fun g hg=>hr2 g (by simp only [V.ids,idsVL,ids_agg,idsVL_map_d,List.mem_append] at hg ⊢; simp [hg])
  clear hr2
  cases hO : brO d q bs[i] with
  | none =>
    simp only [rlS,hO] at hsc
    have hN:=hqB hsc
    simp [cVRel,cReln,cS,]
    simp only [hN,ovL]
    exact ⟨nilS,by simp [nilS],by simp [nilS,plS],ok_nilS,good_nilS B,by simp [nilS]⟩
  | some v =>
    simp only [rlS,hO] at hsc
    rw [hO] at p2
    simp only [ovR] at p2
    simp [cVRel,cReln,cS,hwi,hL,List.take_of_length_le,]
    exact back2 (i + 1,ys ++ [⟨⟨vid,vT,vx⟩,⟨yar,⟨rid,rT,rx⟩⟩⟩]) ⟨by simp only; omega,by rw [hsc]; simp [p2],hG.snoc ⟨by omega,by omega⟩ (by omega) G2 (fun g hg=>by have:=hr2' g hg; simpa using this),fun y hy=>by
     rcases List.mem_append.1 hy with h | h
     ·exact hk y h
     ·rw [List.mem_singleton.1 h]; exact k2⟩ (by simp only; omega) rfl (by simp <;> omega) (by simp) (by simp [cVRel,cReln,cS])
 ·have hn : i = bs.length:=by omega
  subst hn
  rw [hT]
  simp [ovL,List.take_of_length_le,]
  intro γ hs' h1 hg
  obtain ⟨q1,q2⟩:=gam_at hg (k:=90) (T:=35) (sz:=3) (es:=ys.map cVRel) (by simp)
  have q3:=gam_row hg (k:=90) (T:=35) (sz:=3) (es:=ys.map cVRel) (by simp)
  clear hg
  exact ⟨⟨γ 90,some (35,3),ys⟩,⟨rfl,rfl,rfl⟩,rfl,⟨by simp only [maxLen]; omega,hk⟩,good_row (fun g hg=>(q1 g hg).1) (by simpa using q2) q3 ⟨hG.nd,hG.lo⟩ hG.wh,fun _ _=>rfl⟩
end
end Go.Proofs.YtglilmkmkdkedaaGreatDoor
namespace Go.Proofs.YtglilmkmkdkedaaGreatDoor
open Go.Vs Go.Proofs Go
set_option maxRecDepth 100000
set_option maxHeartbeats 1000000
section
attribute [local simp] plI_id plStr_id map_plI map_plStr pS cP cI cStr dSl
end
end Go.Proofs.YtglilmkmkdkedaaGreatDoor
namespace Go.Proofs.YtglilmkmkdkedaaGreatDoor
open Go.Vs Go.Proofs Go
set_option maxRecDepth 100000
set_option maxHeartbeats 1000000
section
attribute [local simp] plI_id plStr_id map_plI map_plStr pS cP cI cStr
theorem w_spec_SemiJoin (a b : PVRel) : VC Tryz.prog 71 [.agg ((eVRel a).map V.d),.agg ((eVRel b).map V.d)] (fun _ r=>r = .tup [.agg ((eVRel (smP a b)).map V.d),.d (.bool (smB a b))]):=by
 have hVa:=w_spec_IsValidVarRelation a
 have hVb:=w_spec_IsValidVarRelation b
 have hae : (eVRel a).map V.d = [V.d (.pl (a.vars.map cI)),V.d (.int .i64 a.rel.ar),V.d (.pl (a.rel.rows.map (cP cI)))]:=by simp [eVRel,eReln]
 have hbe : (eVRel b).map V.d = [V.d (.pl (b.vars.map cI)),V.d (.int .i64 b.rel.ar),V.d (.pl (b.rel.rows.map (cP cI)))]:=by simp [eVRel,eReln]
 refine VC.ofL EP s71 (by kernel_rfl) Tryz.func71 (by rfl) (by kernel_rfl) (by simp [Tryz.f71]) (by simp [Tryz.f71]) s71_ok fun B hl=>?_
 clear hl
 simp [Tryz.f71,s71_5,s71_9,s71_11,s71_5,s71_9,s71_11,hae,hbe]
 refine call_f hVa (by simp [hae]) rfl fun hs1 hh1=>?_
 simp at hh1
 cases ha : vrOk a
 ·have hB : smB a b = false:=by simp [smB,ha]
  simp [smP,hB,eVRel,eReln,s71_5,s71_9,s71_11,]
 simp [s71_5,s71_9,s71_11,]
 refine call_f hVb (by simp [hbe]) rfl fun hs2 hh2=>?_
 simp at hh2
 cases hb : vrOk b
 ·have hB : smB a b = false:=by simp [smB,hb]
  simp [smP,hB,eVRel,eReln,s71_5,s71_9,s71_11,]
 have hB : smB a b = true:=by simp [smB,ha,hb]
 have fa:=vrF_of ha
 have fb:=vrF_of hb
 have na:=pw_nodup fa.pw
 have h1:=w_spec_l11Both a b na (by have:=fa.len; omega)
 obtain ⟨hG,hN,hK⟩:=sm_keys ha hb
 have ra4:=fa.nr
 have ha5:=fa.len
 have far:=fa.rl
 have hxr : ∀ r ∈ a.rel.rows,∀ c ∈ comC a.vars b.vars,0 <= c /\ c < r.length:=fun r hr c hc=>by
  obtain ⟨v,hv,rfl⟩:=List.mem_map.1 hc
  have hva:=(List.mem_filter.1 hv).1
  have:=(idxL_mem hva).1
  have h3:=idxL_ge a.vars v
  rw [List.contains_iff_mem.2 hva] at h3
  have:=of_decide_eq_true h3
  have:=(far r hr).1
  omega
 have hxl : (comC a.vars b.vars).length <= 5:=by have:=comL_len a.vars b.vars; simp [comC]; omega
 have hyl : ((comL a.vars b.vars).map (idxL b.vars)).length <= 5:=by have:=comL_len a.vars b.vars; simp; omega
 have hPr:=w_spec_Project b.rel ((comL a.vars b.vars).map (idxL b.vars)) (by omega)
 rw [prP,prB,hG,hN] at hPr
 simp only [if_true,Bool.and_true] at hPr
 have hKl : (newR ((comL a.vars b.vars).map (idxL b.vars)).length (prL b.rel ((comL a.vars b.vars).map (idxL b.vars)))).rows.length <= 4294967296:=by
  rw [newR,if_pos hN]
  have:=srtU_len (prL b.rel ((comL a.vars b.vars).map (idxL b.vars)))
  have:=fb.nr
  simp only [prL,List.length_map] at *; omega
 have hKs : Srt (newR ((comL a.vars b.vars).map (idxL b.vars)).length (prL b.rel ((comL a.vars b.vars).map (idxL b.vars)))).rows:=by
  rw [newR,if_pos hN]; exact srtU_srt _
 obtain ⟨KR,hKR⟩ : ∃ K,K = newR ((comL a.vars b.vars).map (idxL b.vars)).length (prL b.rel ((comL a.vars b.vars).map (idxL b.vars))):=⟨_,rfl⟩
 rw [<- hKR] at hPr hKl hKs
 simp only [<- hKR] at hK
 obtain ⟨X,hX⟩ : ∃ X,X = comC a.vars b.vars:=⟨_,rfl⟩
 obtain ⟨Y,hY⟩ : ∃ Y,Y = (comL a.vars b.vars).map (idxL b.vars):=⟨_,rfl⟩
 rw [<- hX,<- hY] at h1
 rw [<- hX] at hxr hxl
 rw [<- hY] at hPr hyl
 simp only [<- hX] at hK
 obtain ⟨A,⟨ra,R⟩⟩:=a
 obtain ⟨Bv,⟨rb,L⟩⟩:=b
 simp only at *
 obtain ⟨sB,hsB⟩ : ∃ s,s = semR ⟨A,⟨ra,R⟩⟩ ⟨Bv,⟨rb,L⟩⟩:=⟨_,rfl⟩
 rw [smP,if_pos hB,hB]
 simp only [<- hsB] at hK ⊢
 have hLA : LenOk 8 A.length:=⟨by omega,by simp only [maxLen]; omega⟩
 simp [s71_5,s71_9,s71_11,]
 refine call_p h1 (by simp [hae,hbe]) fun hs3 hh3 hl3=>?_
 simp at hh3
 simp [s71_5,s71_9,s71_11,]
 refine call_p hPr (by simp [eReln]) fun hs4 hh4 hl4=>?_
 simp at hh4
 have hPB : ∀ r,placeB KR.rows (pickR X r) = sB r:=fun r=>by
  have h5:=placeB_iff (x:=pickR X r) hKs
  rw [hK r] at h5
  exact Bool.eq_iff_iff.2 h5
 simp [eReln,hLA,List.take_of_length_le,s71_5,s71_9,s71_11,]
 repeat' apply And.intro
 all_goals
  refine loop_ruleL (X:=Nat) (fun i _=>i <= R.length) (fun i=>[(2,.ptr 2 0 0),(4,.ptr 4 0 0),(6,.d (.pl (X.map cI))),(8,.ptr 8 0 0),(10,.ptr 10 0 0),(11,.d (.int .i64 i))])
   (fun i=>[(2,some (.box [.d (.pl (A.map cI)),.d (.int .i64 ra),.d (.pl (R.map (cP cI)))])),(4,some (.box [.d (.sl none none []),.d (.int .i64 0),.d (.sl none none [])])),(8,some (.box [.d (.int .i64 KR.ar),.d (.pl (KR.rows.map (cP cI)))])),(36,some (.row 3 1 (A.map cI))),(10,some (.box [.own 36 0 A.length,.d (.int .i64 ra),.own 901 0 ((R.take i).filter sB).length])),(901,some (.row 26 1 (((R.take i).filter sB).map (cP cI))))]) (fun i=>R.length - i) ?_ ?_
  ·refine (lead_box 10 2 901 26 1 [.own 36 0 A.length,.d (.int .i64 ra),.d (.sl none none [])] (by omega) (by omega) (by omega) (by simp) rfl).bind ?_
   rintro _ rfl
   exact Lead.of ⟨0,by omega,rfl,rfl,Nat.le_refl _,by simp,by simp⟩
  intro i hs t m hi hh
  by_cases hlt : i < R.length
  ·have hwi:=wr1 (i:=i) (by omega)
   have hst:=flt_succ (p:=sB) hlt
   have hfl:=List.length_filter_le sB (R.take i)
   rw [List.length_take] at hfl
   have hrm:=List.getElem_mem hlt
   obtain ⟨r,hr⟩ : ∃ r,r = R[i]:=⟨_,rfl⟩
   rw [<- hr] at hst hrm
   obtain ⟨F,hF⟩ : ∃ F,F = (R.take i).filter sB:=⟨_,rfl⟩
   rw [<- hF] at hst hfl ⊢
   have hL : LenOk 24 (F.length + 1):=⟨by omega,by simp only [maxLen]; omega⟩
   have hrl:=(far r hrm).1
   have hLr : LenOk 8 r.length:=⟨by omega,by simp only [maxLen]; omega⟩
   refine anyQ2 fun Q=>?_
   simp [hlt,<- hr,s71_5,s71_9,s71_11,]
   try (repeat' apply And.intro)
   all_goals
    refine call_p (w_spec_l5Cols r X (by omega) (hxr r hrm)) (by simp) fun hs5 hh5 hl5=>?_
    simp at hh5
    simp [hlt,<- hr,eReln,s71_5,s71_9,s71_11,]
    try (repeat' apply And.intro)
    all_goals
     refine call_p (w_spec_l5Place KR (pickR X r) hKl) (by simp [eReln]) fun hs6 hh6 hl6=>?_
     simp at hh6
     rw [hPB r]
     cases hs : sB r
     ·rw [hs] at hst
      simp at hst
      simp [hwi,s71_5,s71_9,s71_11,]
      exact back2 (i + 1) (by omega) (by omega) rfl (by simp <;> omega) (by simp [hst]) (by simp [hst])
     ·rw [hs] at hst
      simp only [if_true] at hst
      simp [hlt,<- hr,hwi,hL,hLr,List.take_of_length_le,s71_5,s71_9,s71_11,]
      try (repeat' apply And.intro)
      all_goals exact back2 (i + 1) (by omega) (by omega) rfl (by simp <;> omega) (by simp [hst]) (by simp [hst])
  ·have hn : i = R.length:=by omega
   subst hn
   rw [List.take_length]
   simp [eVRel,eReln,List.take_of_length_le,s71_5,s71_9,s71_11,]
theorem w_impl_SemiJoin (a b : PVRel) : VC Tryz.prog 74 [.agg ((eVRel a).map V.d),.agg ((eVRel b).map V.d)] (fun _ r=>r = .tup [.agg ((eVRel (smP a b)).map V.d),.d (.bool (smB a b))]):=by
 have hVa:=w_impl_IsValidVarRelation a
 have hVb:=w_impl_IsValidVarRelation b
 have hae : (eVRel a).map V.d = [V.d (.pl (a.vars.map cI)),V.d (.int .i64 a.rel.ar),V.d (.pl (a.rel.rows.map (cP cI)))]:=by simp [eVRel,eReln]
 have hbe : (eVRel b).map V.d = [V.d (.pl (b.vars.map cI)),V.d (.int .i64 b.rel.ar),V.d (.pl (b.rel.rows.map (cP cI)))]:=by simp [eVRel,eReln]
 refine VC.ofL EP s74 (by kernel_rfl) Tryz.func74 (by rfl) (by kernel_rfl) (by simp [Tryz.f74]) (by simp [Tryz.f74]) s74_ok fun B hl=>?_
 clear hl
 simp [Tryz.f74,s74_3,s74_13,s74_3,s74_13,hae,hbe]
 refine call_f hVa (by simp [hae]) rfl fun hs1 hh1=>?_
 simp at hh1
 cases ha : vrOk a
 ·have hB : smB a b = false:=by simp [smB,ha]
  simp [smP,hB,eVRel,eReln,s74_3,s74_13,]
 simp [s74_3,s74_13,]
 refine call_f hVb (by simp [hbe]) rfl fun hs2 hh2=>?_
 simp at hh2
 cases hb : vrOk b
 ·have hB : smB a b = false:=by simp [smB,hb]
  simp [smP,hB,eVRel,eReln,s74_3,s74_13,]
 have hB : smB a b = true:=by simp [smB,ha,hb]
 have fa:=vrF_of ha
 have fb:=vrF_of hb
 have hu:=uni_mem (b:=b) fa
 have hu5:=uni_len5 fa fb
 have rb4:=fb.nr
 have ra4:=fa.nr
 have ha5:=fa.len
 have hb5:=fb.len
 have far:=fa.rl
 have fbr:=fb.rl
 have hun:=p_impl_unite a.vars b.vars (by omega)
 obtain ⟨U,hU⟩ : ∃ U,U = uniL a.vars b.vars:=⟨_,rfl⟩
 rw [<- hU] at hu5 hun
 simp only [<- hU] at hu
 have hsR : ∀ r,semR a b r = b.rel.rows.any (fun s=>glB U a.vars r b.vars s):=fun r=>by rw [semR,hU]
 obtain ⟨A,⟨ra,R⟩⟩:=a
 obtain ⟨Bv,⟨rb,L⟩⟩:=b
 simp only at *
 obtain ⟨sB,hsB⟩ : ∃ s,s = semR ⟨A,⟨ra,R⟩⟩ ⟨Bv,⟨rb,L⟩⟩:=⟨_,rfl⟩
 rw [smP,if_pos hB,hB]
 simp only [<- hsB] at hsR ⊢
 simp [s74_3,s74_13,]
 repeat' apply And.intro
 all_goals
  refine call_p (q_impl_copyInts A (by omega)) (by simp) fun hs3 hh3 hl3=>?_
  simp at hh3
  simp [s74_3,s74_13,]
  refine call_p hun (by simp) fun hs4 hh4 hl4=>?_
  simp at hh4
  simp [s74_3,s74_13,]
  refine loop_ruleL (X:=Nat) (fun i _=>i <= R.length) (fun i=>[(2,.ptr 2 0 0),(3,.ptr 3 0 0),(4,.ptr 4 0 0),(6,.ptr 6 0 0),(7,.d (.pl (U.map cI))),(38,.d (.pl (R.map (cP cI)))),(39,.d (.int .i64 R.length)),(40,.d (.int .i64 i))])
   (fun i=>[(2,some (.box [.d (.pl (A.map cI)),.d (.int .i64 ra),.d (.pl (R.map (cP cI)))])),(3,some (.box [.d (.pl (Bv.map cI)),.d (.int .i64 rb),.d (.pl (L.map (cP cI)))])),(4,some (.box [.d (.sl none none []),.d (.int .i64 0),.d (.sl none none [])])),(6,some (.box [.d (.pl (A.map cI)),.d (.int .i64 ra),.own 901 0 ((R.take i).filter sB).length])),(901,some (.row 26 1 (((R.take i).filter sB).map (cP cI))))]) (fun i=>R.length - i) ?_ ?_
  ·refine (lead_box 6 2 901 26 1 [.d (.pl (A.map cI)),.d (.int .i64 ra),.d (.sl none none [])] (by omega) (by omega) (by omega) (by simp) rfl).bind ?_
   rintro _ rfl
   exact Lead.of ⟨0,by omega,rfl,rfl,Nat.le_refl _,by simp,by simp⟩
  intro i hs t m hi hh
  by_cases hlt : i < R.length
  ·have hwi:=wr1 (i:=i) (by omega)
   have hst:=flt_succ (p:=sB) hlt
   have hfl:=List.length_filter_le sB (R.take i)
   rw [List.length_take] at hfl
   have hrm:=List.getElem_mem hlt
   obtain ⟨r,hr⟩ : ∃ r,r = R[i]:=⟨_,rfl⟩
   rw [<- hr] at hst hrm
   obtain ⟨F,hF⟩ : ∃ F,F = (R.take i).filter sB:=⟨_,rfl⟩
   rw [<- hF] at hst hfl ⊢
   have hL : LenOk 24 (F.length + 1):=⟨by omega,by simp only [maxLen]; omega⟩
   have hrl:=(far r hrm).1
   refine anyQ2 fun Q=>?_
   simp [hlt,<- hr,s74_3,s74_13,]
   refine loop_rule (X:=Nat) (fun j=>j <= L.length /\ AllTo (fun s=>!(glB U A r Bv s)) L j) (fun j=>[(2,.ptr 2 0 0),(3,.ptr 3 0 0),(4,.ptr 4 0 0),(6,.ptr 6 0 0),(7,.d (.pl (U.map cI))),(9,.d (.pl (r.map cI))),(38,.d (.pl (R.map (cP cI)))),(39,.d (.int .i64 R.length)),(40,.d (.int .i64 i)),(46,.d (.pl (L.map (cP cI)))),(47,.d (.int .i64 L.length)),(48,.d (.int .i64 j))])
    (fun j=>[(2,some (.box [.d (.pl (A.map cI)),.d (.int .i64 ra),.d (.pl (R.map (cP cI)))])),(3,some (.box [.d (.pl (Bv.map cI)),.d (.int .i64 rb),.d (.pl (L.map (cP cI)))])),(4,some (.box [.d (.sl none none []),.d (.int .i64 0),.d (.sl none none [])])),(6,some (.box [.d (.pl (A.map cI)),.d (.int .i64 ra),.own 901 0 F.length])),(901,some (.row 26 1 (F.map (cP cI))))]) (fun j=>L.length - j) 0 ⟨by omega,allTo_zero⟩ (by simp) (by simp) ?_
   rintro j hs5 t m ⟨hj,hal⟩ hh5
   have hh5' : hs <= hs5:=hh5
   by_cases hjl : j < L.length
   ·have hwj:=wr1 (i:=j) (by omega)
    have hsl:=(fbr _ (List.getElem_mem hjl)).1
    obtain ⟨s,hs'⟩ : ∃ s,s = L[j]:=⟨_,rfl⟩
    rw [<- hs'] at hsl
    simp [hjl,<- hs',s74_3,s74_13,]
    refine call_p (w_impl_glue U A r Bv s (by omega) (fun v hv=>(hu v).1 hv) hrl hsl) (by simp) fun hs6 hh6 hl6=>?_
    simp at hh6
    cases hg : glB U A r Bv s
    ·simp [hwj,s74_3,s74_13,]
     exact back (j + 1) ⟨by omega,allTo_step hal hjl (by rw [<- hs',hg]; rfl)⟩ (by omega) rfl (by simp <;> omega) (by simp) (by simp)
    ·have hs2 : sB r = true:=by rw [hsR,List.any_eq_true]; exact ⟨s,by rw [hs']; exact List.getElem_mem _,hg⟩
     rw [hs2] at hst
     simp only [if_true] at hst
     simp [s74_3,s74_13,]
     try (repeat' apply And.intro)
     all_goals
      refine call_p (q_impl_copyInts r (by omega)) (by simp) fun hs7 hh7 hl7=>?_
      simp at hh7
      simp [hwi,hL,List.take_of_length_le,s74_3,s74_13,]
      try (repeat' apply And.intro)
      all_goals exact back2 (i + 1) (by omega) (by omega) rfl (by simp <;> omega) (by simp [hst]) (by simp [hst])
   ·have hs2 : sB r = false:=by
     rw [hsR,List.any_eq_false]
     intro s hs
     have:=List.all_eq_true.1 (allTo_done hal (by omega)) s hs
     simpa using this
    rw [hs2] at hst
    simp at hst
    have hjn : j = L.length:=by omega
    subst hjn
    simp [hwi,s74_3,s74_13,]
    exact back2 (i + 1) (by omega) (by omega) rfl (by simp <;> omega) (by simp [hst]) (by simp [hst])
  ·have hn : i = R.length:=by omega
   subst hn
   rw [List.take_length]
   simp [eVRel,eReln,List.take_of_length_le,s74_3,s74_13,]
end
end Go.Proofs.YtglilmkmkdkedaaGreatDoor
namespace Go.Proofs.YtglilmkmkdkedaaGreatDoor
open Go.Vs Go.Proofs Go
set_option maxRecDepth 100000
set_option maxHeartbeats 1000000
section
attribute [local simp] plI_id plStr_id map_plI map_plStr pS cP cI cStr
theorem w_impl_JoinTreeRoot (ps : List Int) : VC Tryz.prog 76 [.agg [.d (pS cI ps)]] (fun _ r=>r = .d (.int .i64 (rootS ps))):=by
 refine VC.ofL EP s76 (by kernel_rfl) Tryz.func76 (by rfl) (by kernel_rfl) (by simp [Tryz.f76]) (by simp [Tryz.f76]) s76_ok fun B hl=>?_
 simp [maxLen] at hl
 simp [Tryz.f76,]
 refine loop_rule (X:=Nat × Int) (RootI ps) (fun p=>[(3,.d (.int .i64 p.2)),(7,.d (.pl (ps.map cI))),(8,.d (.int .i64 ps.length)),(9,.d (.int .i64 p.1))]) (fun _=>[]) (fun p=>ps.length - p.1) (0,-1) .zero (by simp) (by simp) ?_
 rintro ⟨i,o⟩ hs t m hI hh
 have hle:=hI.le
 simp only at hle
 by_cases hlt : i < ps.length
 ·have hwi:=wr1 (i:=i) (by omega)
  by_cases h1 : ps[i] = -1
  ·by_cases h2 : 0 <= o
   ·simp [hlt,h1,h2,hI.two h2 hlt h1,]
   ·simp [hlt,h1,h2,hwi,]
    exact back (i + 1,(i : Int)) (hI.put (by omega) hlt h1) (by simp only; omega) rfl (by simp <;> omega) (by simp) (by simp)
  ·simp [hlt,h1,hwi,]
   exact back (i + 1,o) (hI.skip hlt h1) (by simp only; omega) rfl (by simp <;> omega) (by simp) (by simp)
 ·simp [hlt,hI.done (by omega)]
theorem w_impl_JoinTreeChildren (ps : List Int) (k : Nat) (hb : ps.length <= 4294967296) : VC Tryz.prog 73 [.agg [.d (pS cI ps)],.d (.int .i64 k)] (fun _ r=>r = .d (pS cI (cN (kidN ps k)))):=by
 refine VC.ofL EP s73 (by kernel_rfl) Tryz.func73 (by rfl) (by kernel_rfl) (by simp [Tryz.f73]) (by simp [Tryz.f73]) s73_ok fun B hl=>?_
 clear hl
 simp [Tryz.f73,]
 refine loop_ruleL (X:=Nat) (fun i _=>i <= ps.length) (fun i=>[(1,.d (.int .i64 k)),(5,.own 90 0 (cN (kidT ps k i)).length),(9,.d (.pl (ps.map cI))),(10,.d (.int .i64 ps.length)),(11,.d (.int .i64 i))])
  (fun i=>[(90,some (.row 3 1 ((cN (kidT ps k i)).map cI)))]) (fun i=>ps.length - i) ?_ ?_
 ·refine (lead_slot 5 90 3 1 (by omega) (by omega) (by simp)).bind ?_
  rintro _ rfl
  exact Lead.of ⟨0,by omega,rfl,rfl,Nat.le_refl _,by simp [kidT,cN],by simp [kidT,cN]⟩
 intro i hs t m hi hh
 by_cases hlt : i < ps.length
 ·have hwi:=wr1 (i:=i) (by omega)
  have hst:=kidT_succ (k:=k) hlt
  have hln:=kidT_len ps k i
  rw [<- cN_len] at hln
  have hcs : cN (kidT ps k (i + 1)) = cN (kidT ps k i) ++ if ps[i] = (k : Int) then [(i : Int)] else []:=by
   rw [hst,cN_app]; by_cases e : ps[i] = (k : Int) <;> simp [e,cN]
  obtain ⟨C,hC⟩ : ∃ C,C = cN (kidT ps k i):=⟨_,rfl⟩
  rw [<- hC] at hcs hln ⊢
  have hL : LenOk 8 (C.length + 1):=⟨by omega,by simp only [maxLen]; omega⟩
  refine anyQ2 fun Q=>?_
  by_cases e : ps[i] = (k : Int)
  ·rw [if_pos e] at hcs
   simp [hlt,e,hwi,hL,List.take_of_length_le,]
   exact back2 (i + 1) (by omega) (by omega) rfl (by simp <;> omega) (by simp [hcs]) (by simp [hcs])
  ·rw [if_neg e,List.append_nil] at hcs
   simp [hlt,e,hwi,]
   exact back2 (i + 1) (by omega) (by omega) rfl (by simp <;> omega) (by simp [hcs]) (by simp [hcs])
 ·have hn : i = ps.length:=by omega
  subst hn
  have e : kidT ps k ps.length = kidN ps k:=rfl
  rw [e]
  simp [List.take_of_length_le,]
theorem w_spec_JoinTreeChildren (ps : List Int) (k : Nat) (hb : ps.length <= 4294967296) : VC Tryz.prog 115 [.agg [.d (pS cI ps)],.d (.int .i64 k)] (fun _ r=>r = .d (pS cI (cN (kidN ps k)))):=by
 refine VC.ofL EP s115 (by kernel_rfl) Tryz.func115 (by rfl) (by kernel_rfl) (by simp [Tryz.f115]) (by simp [Tryz.f115]) s115_ok fun B hl=>?_
 clear hl
 simp [Tryz.f115,]
 refine loop_rule (X:=Nat) (fun i=>i <= ps.length) (fun i=>[(1,.d (.int .i64 k)),(2,.ptr 2 0 0),(5,.own 7 0 (cN (kidT ps k i)).length),(6,.d (.int .i64 i))])
  (fun i=>[(2,some (.box [.d (.pl (ps.map cI))])),(7,some (.row 3 1 ((cN (kidT ps k i)).map cI)))]) (fun i=>ps.length - i) 0 (by omega) (by simp [kidT,cN]) (by simp [kidT,cN]) ?_
 intro i hs t m hi hh
 by_cases hlt : i < ps.length
 ·have hwi:=wr1 (i:=i) (by omega)
  have hst:=kidT_succ (k:=k) hlt
  have hln:=kidT_len ps k i
  rw [<- cN_len] at hln
  have hcs : cN (kidT ps k (i + 1)) = cN (kidT ps k i) ++ if ps[i] = (k : Int) then [(i : Int)] else []:=by
   rw [hst,cN_app]; by_cases e : ps[i] = (k : Int) <;> simp [e,cN]
  obtain ⟨C,hC⟩ : ∃ C,C = cN (kidT ps k i):=⟨_,rfl⟩
  rw [<- hC] at hcs hln ⊢
  have hL : LenOk 8 (C.length + 1):=⟨by omega,by simp only [maxLen]; omega⟩
  by_cases e : ps[i] = (k : Int)
  ·rw [if_pos e] at hcs
   simp [hlt,e,hwi,hL,List.take_of_length_le,]
   exact back (i + 1) (by omega) (by omega) rfl (by simp <;> omega) (by simp [hcs]) (by simp [hcs])
  ·rw [if_neg e,List.append_nil] at hcs
   simp [hlt,e,hwi,]
   exact back (i + 1) (by omega) (by omega) rfl (by simp <;> omega) (by simp [hcs]) (by simp [hcs])
 ·have hn : i = ps.length:=by omega
  subst hn
  have e : kidT ps k ps.length = kidN ps k:=rfl
  rw [e]
  simp [List.take_of_length_le,]
theorem w_impl_upwards (ps : List Int) (rt : Nat) (T : TreeF ps rt) (hrt : rootS ps = (rt : Int)) (hb : ps.length <= 4294967296) : VC Tryz.prog 72 [.agg [.d (pS cI ps)]]
  (fun _ r=>∃ (out : List Nat) (k : Nat),BfsI ps rt out k /\ out.length <= k /\ r = .d (pS cI (cN out.reverse))):=by
 have hR:=w_impl_JoinTreeRoot ps
 rw [hrt] at hR
 refine VC.ofL EP s72 (by kernel_rfl) Tryz.func72 (by rfl) (by kernel_rfl) (by simp [Tryz.f72]) (by simp [Tryz.f72]) s72_ok fun B hl=>?_
 clear hl
 simp [Tryz.f72,s72_5,s72_9,s72_5,s72_9,]
 refine call_f hR (by simp) rfl fun hs1 hh1=>?_
 simp at hh1
 simp [s72_5,s72_9,]
 refine loop_rule (X:=Nat × List Nat) (fun p=>BfsI ps rt p.2 p.1) (fun p=>[(1,.ptr 1 0 0),(3,.own 9 0 (cN p.2).length),(4,.d (.int .i64 p.1))])
  (fun p=>[(1,some (.box [.d (.pl (ps.map cI))])),(9,some (.row 3 1 ((cN p.2).map cI)))]) (fun p=>ps.length - p.1) (0,[rt]) T.bfs_zero (by simp [cN]) (by simp [cN]) ?_
 rintro ⟨k,out⟩ hs t m hI hh
 simp only at hI
 have hol:=T.bfs_len hI
 have hkl:=hI.le
 have hcl:=cN_len out
 by_cases hlt : k < out.length
 ·have hwi:=wr1 (i:=k) (by omega)
  have hs2:=T.bfs_step hI hlt
  have hol2:=T.bfs_len hs2
  have hkids:=kidN_len ps out[k]
  have hCN:=w_impl_JoinTreeChildren ps out[k] hb
  have hck : (cN out)[k]'(by omega) = (out[k] : Int):=by simp [cN]
  have hkc : k < (cN out).length:=by omega
  obtain ⟨C,hC⟩ : ∃ C,C = cN out:=⟨_,rfl⟩
  obtain ⟨K,hK⟩ : ∃ K,K = cN (kidN ps out[k]):=⟨_,rfl⟩
  have hap : cN (out ++ kidN ps out[k]) = C ++ K:=by rw [cN_app,hC,hK]
  have hKl : K.length = (kidN ps out[k]).length:=by rw [hK,cN_len]
  have hL : LenOk 8 (C.length + K.length):=⟨by rw [hC,hKl,cN_len]; simp only [List.length_append] at hol2; omega,by rw [hC,hKl,cN_len]; simp only [List.length_append] at hol2; simp only [maxLen]; omega⟩
  rw [<- hK] at hCN
  simp only [<- hC] at hck hkc hcl ⊢
  have hlt' : k < C.length:=hkc
  simp [hlt',hck,s72_5,s72_9,]
  try (repeat' apply And.intro)
  all_goals
   refine call_p hCN (by simp) fun hs3 hh3 hl3=>?_
   simp at hh3
   simp [hlt',hck,hwi,hL,List.take_of_length_le,s72_5,s72_9,]
   exact back (k + 1,out ++ kidN ps out[k]) hs2 (by simp only; omega) rfl (by simp <;> omega) (by simp [hap]) (by simp [hap])
 ·have hn1:=hI.eq
  have hpos : 0 < out.length:=by rw [hn1]; simp
  obtain ⟨C,hC⟩ : ∃ C,C = cN out:=⟨_,rfl⟩
  have hrev : C.reverse = cN out.reverse:=by rw [hC,cN,cN,List.map_reverse]
  have hfin : ∀ r,r = V.d (.pl (C.reverse.map cI)) -> ∃ (out : List Nat) (k : Nat),BfsI ps rt out k /\ out.length <= k /\ r = .d (pS cI (cN out.reverse)):=fun r hr=>⟨out,k,hI,by omega,by rw [hr,hrev]; simp⟩
  have hlt' : ¬ k < C.length:=by rw [hC]; omega
  have hCl : C.length = out.length:=by rw [hC]; exact hcl
  simp only [<- hC]
  have hw1 : IntKind.i64.wrap ((C.length : Int) - 1) = ((C.length - 1 : Nat) : Int):=by rw [wrap64_of (by omega) (by omega)]; omega
  simp [hlt',hw1,s72_5,s72_9,]
  refine loop_rule (X:=Nat) (fun s=>2 * s <= C.length) (fun s=>[(3,.own 9 0 C.length),(5,.d (.int .i64 s)),(6,.d (.int .i64 ((C.length : Int) - 1 - s)))])
   (fun s=>[(9,some (.row 3 1 ((rvL C s).map cI)))]) (fun s=>C.length - s) 0 (by omega) (by simp; omega) (by simp [rvL_zero]) ?_
  intro s hs3 t m hs2 hh3
  have hrl:=rvL_len C s
  by_cases hsl : s < C.length - 1 - s
  ·have hst:=rvL_step hsl
   have hws:=wr1 (i:=s) (by omega)
   obtain ⟨j,hj⟩ : ∃ j,j = C.length - 1 - s:=⟨_,rfl⟩
   have hji : (C.length : Int) - 1 - s = (j : Int):=by omega
   have hwj : IntKind.i64.wrap ((j : Int) - 1) = (C.length : Int) - 1 - ((s + 1 : Nat) : Int):=by rw [wrap64_of (by omega) (by omega)]; omega
   rw [<- hj] at hst
   obtain ⟨R,hR⟩ : ∃ R,R = rvL C s:=⟨_,rfl⟩
   rw [<- hR] at hst hrl ⊢
   have hsR : s < R.length:=by omega
   have hjR : j < R.length:=by omega
   have hsj : s < j:=by omega
   have hjC : j < C.length:=by omega
   have hsC : s < C.length:=by omega
   rw [getD_el _ hsR,getD_el _ hjR] at hst
   rw [hji]
   simp [hsj,hsR,hjR,hsC,hjC,hws,hwj,hrl,-List.map_set,s72_5,s72_9,]
   have hje : ((R.map cI).set s [D.int .i64 R[j]])[j]'(by simp; omega) = [D.int .i64 R[j]]:=by rw [List.getElem_set_ne (by omega)]; simp
   have hfs : ((R.map cI).set s [D.int .i64 R[j]]).set j [D.int .i64 R[s]] = (rvL C (s + 1)).map cI:=by rw [<- hst]; simp
   try (repeat' apply And.intro)
   ·rw [hje]; simp
   ·refine back (s + 1) (by omega) (by omega) rfl (by simp <;> omega) (by simp; try omega) ?_
    simp [hje,hfs]
    try simp [<- hfs]
  ·have hd:=rvL_done hsl
   have hc : ¬ (s : Int) < (C.length : Int) - 1 - s:=by omega
   have hrC : C.reverse.length = C.length:=by simp
   rw [hd]
   simp [hc,List.take_of_length_le,s72_5,s72_9,]
   exact ⟨out,k,hI,by omega,by rw [<- hrev,List.map_reverse]⟩
theorem w_spec_l11Order (ps : List Int) (rt : Nat) (T : TreeF ps rt) (hb : ps.length <= 4294967296) : ∀ (m k : Nat),k < ps.length -> rkN ps k <= m ->
  VC Tryz.prog 69 [.agg [.d (pS cI ps)],.d (.int .i64 k)] (fun _ r=>r = .d (pS cI (cN (postF (kidN ps) m k)))):=by
 intro m
 induction m with
 | zero =>
   intro k hk hm
   have:=T.dl k hk
   rw [rkN] at hm; omega
 | succ m ih =>
   intro k hk hm
   have hCN:=w_spec_JoinTreeChildren ps k hb
   have hnd:=T.post_nd (m + 1) k hk
   have hall:=nd_sub (postF (kidN ps) (m + 1) k) (List.range ps.length) hnd fun i hi=>List.mem_range.2 (T.post_facts (m + 1) k hk i hi).1
   rw [List.length_range] at hall
   have hpl : ∀ j,((((kidN ps k).take j).flatMap (postF (kidN ps) m))).length + 1 <= (postF (kidN ps) (m + 1) k).length:=fun j=>by
    conv=>rhs; rw [postF,<- List.take_append_drop j (kidN ps k),List.flatMap_append]
    simp only [List.length_append,List.length_singleton]; omega
   have hkid : ∀ j ∈ kidN ps k,j < ps.length /\ rkN ps j <= m:=fun j hj=>⟨(kid_mem.1 hj).1,by have:=T.rk hj; omega⟩
   have hpost : postF (kidN ps) (m + 1) k = (kidN ps k).flatMap (postF (kidN ps) m) ++ [k]:=rfl
   have hKl:=kidN_len ps k
   obtain ⟨KS,hKS⟩ : ∃ K,K = kidN ps k:=⟨_,rfl⟩
   rw [<- hKS] at hCN hpost hKl
   simp only [<- hKS] at hpl hkid
   refine VC.ofL EP s69 (by kernel_rfl) Tryz.func69 (by rfl) (by kernel_rfl) (by simp [Tryz.f69]) (by simp [Tryz.f69]) s69_ok fun B hl=>?_
   clear hl
   simp [Tryz.f69,s69_6,s69_6,]
   refine call_p hCN (by simp) fun hs1 hh1 hl1=>?_
   simp at hh1
   simp [s69_6,]
   refine loop_rule (X:=Nat) (fun i=>i <= KS.length) (fun i=>[(1,.d (.int .i64 k)),(2,.ptr 2 0 0),(5,.own 8 0 (cN ((KS.take i).flatMap (postF (kidN ps) m))).length),(6,.d (.pl ((cN KS).map cI))),(7,.d (.int .i64 i))])
    (fun i=>[(2,some (.box [.d (.pl (ps.map cI))])),(8,some (.row 3 1 ((cN ((KS.take i).flatMap (postF (kidN ps) m))).map cI)))]) (fun i=>KS.length - i) 0 (by omega) (by simp [cN]) (by simp [cN]) ?_
   intro i hs t mm hi hh
   have hcl:=cN_len KS
   have hbd:=hpl i
   rw [<- cN_len] at hbd
   by_cases hlt : i < KS.length
   ·have hwi:=wr1 (i:=i) (by omega)
    have hkj:=hkid _ (List.getElem_mem hlt)
    have hrec:=ih KS[i] hkj.1 hkj.2
    have hbd2:=hpl (i + 1)
    have hck : (cN KS)[i]'(by omega) = (KS[i] : Int):=by simp [cN]
    have hic : i < (cN KS).length:=by omega
    have hstp : cN ((KS.take (i + 1)).flatMap (postF (kidN ps) m)) = cN ((KS.take i).flatMap (postF (kidN ps) m)) ++ cN (postF (kidN ps) m KS[i]):=by
     rw [List.take_succ_eq_append_getElem hlt,List.flatMap_append,cN_app]; simp
    rw [<- cN_len,hstp,List.length_append] at hbd2
    obtain ⟨C,hC⟩ : ∃ C,C = cN ((KS.take i).flatMap (postF (kidN ps) m)):=⟨_,rfl⟩
    obtain ⟨K,hK⟩ : ∃ K,K = cN (postF (kidN ps) m KS[i]):=⟨_,rfl⟩
    rw [<- hK] at hrec
    rw [<- hC,<- hK] at hstp hbd2
    rw [<- hC] at hbd ⊢
    have hL : LenOk 8 (C.length + K.length):=⟨by omega,by simp only [maxLen]; omega⟩
    simp [hic,hck,s69_6,]
    try (repeat' apply And.intro)
    all_goals
     refine call_p hrec (by simp) fun hs3 hh3 hl3=>?_
     simp at hh3
     simp [hic,hck,hwi,hL,List.take_of_length_le,s69_6,]
     exact back (i + 1) (by omega) (by omega) rfl (by simp <;> omega) (by simp [hstp]) (by simp [hstp])
   ·have hn : i = KS.length:=by omega
    subst hn
    rw [List.take_length] at hbd ⊢
    have hfin : cN (postF (kidN ps) (m + 1) k) = cN (KS.flatMap (postF (kidN ps) m)) ++ [(k : Int)]:=by rw [hpost,cN_app]; rfl
    rw [hfin]
    obtain ⟨C,hC⟩ : ∃ C,C = cN (KS.flatMap (postF (kidN ps) m)):=⟨_,rfl⟩
    rw [<- hC] at hbd ⊢
    have hL : LenOk 8 (C.length + 1):=⟨by omega,by simp only [maxLen]; omega⟩
    have hnc : ¬ KS.length < (cN KS).length:=by omega
    simp [hnc,hcl,hL,List.take_of_length_le,s69_6,]
end
end Go.Proofs.YtglilmkmkdkedaaGreatDoor
namespace Go.Proofs.YtglilmkmkdkedaaGreatDoor
open Go.Vs Go.Proofs Go
set_option maxRecDepth 100000
set_option maxHeartbeats 1000000
section
attribute [local simp] plI_id plStr_id map_plI map_plStr pS cP cI cStr
theorem er_cVRel2 (v : VRel) : erL (cVRel v) = eVRel (plVRel v):=by
 simp [cVRel,cReln,cS,eVRel,eReln,plVRel,plReln,plS,er_rowsL2,er_intsL2,D.er,dSl,erL]
theorem e_spec_BagRelations (d : PDb) (q : PQuery) (x : PDec) (hst : ∀ t ∈ d.tabs,t.name.length <= maxLen) (hsq : ∀ a ∈ q.atoms,a.rel.length <= maxLen) (hb : x.par.length <= 4294967296) : VC Tryz.prog 30 [.agg ((eDb d).map V.d),.agg ((eQuery q).map V.d),.agg ((eDec x).map V.d)]
  (fun n r=>∃ y : Sl VRel,r = .tup [.d (dSl cVRel y),.d (.bool (rlO d q x).isSome)] /\ plS plVRel y = ovL (rlO d q x) /\ (∀ k,y.id = some k -> n <= k /\ k ∉ idsLL (y.xs.map cVRel)) /\ (y.xs ≠ [] -> y.id ≠ none) /\ y.T = some (35,3)):=by
 obtain ⟨dl,hdl⟩ : ∃ dl,dl = d.tabs:=⟨_,rfl⟩
 have hde : (eDb d).map V.d = [V.d (.pl (dl.map eTab))]:=by rw [hdl]; simp [eDb]
 have hqe : (eQuery q).map V.d = [V.d (.int .i64 q.n),V.d (.pl (q.atoms.map eAtom)),V.d (.pl (q.out.map cI))]:=by simp [eQuery]
 have hVD:=w_spec_IsValidDecomposition q x hsq hb
 have hBR:=fun b=>VC.track (As:=[.agg ((eDb d).map V.d),.agg ((eQuery q).map V.d),.d (pS cI b)]) (w_spec_BagRelation d q b hst hsq) (by simp [eDb,eQuery,rpL,rp,D.er]) (by simp [V.pn,pnVL])
 simp only [hde,hqe,pS] at hBR
 obtain ⟨bs,ps⟩:=x
 have hxe : (eDec ⟨bs,ps⟩).map V.d = [V.d (.pl (bs.map (cP cI))),V.d (.pl (ps.map cI))]:=by simp [eDec]
 refine VC.of E s30 (by kernel_rfl) Tryz.func30 (by rfl) (by kernel_rfl) (by simp [Tryz.f30]) (by simp [Tryz.f30]) s30_ok fun B=>?_
 simp [Tryz.f30,s30_7,s30_7,hde,hqe,hxe]
 refine call_f hVD (by simp [hqe,hxe]) rfl fun hs1 hh1=>?_
 simp at hh1
 cases hdo : decOk q ⟨bs,ps⟩
 ·have hO : rlO d q ⟨bs,ps⟩ = none:=by rw [rlO,hdo]; rfl
  simp [hO,ovL,s30_7,]
  intro γ hs' h1 hg
  obtain ⟨q1,q2⟩:=gam_at hg (k:=12) (T:=35) (sz:=3) (es:=[]) (by simp)
  clear hg
  exact ⟨⟨γ 12,some (35,3),[]⟩,by simp [dSl],by simp [plS],fun k hk=>⟨(q1 k hk).1,by simp [idsLL]⟩,by simp,rfl⟩
 have hOe : rlO d q ⟨bs,ps⟩ = rlT d q bs bs.length:=by rw [rlO,hdo]; rfl
 have hbl : bs.length <= 4294967296:=by
  simp only [decOk,Bool.and_eq_true,decide_eq_true_eq] at hdo
  have:=hdo.1.1.1.1.2
  simp only at this hb; omega
 rw [hOe]
 simp [s30_7,]
 refine loop_rule (X:=Nat × List VRel) (fun p=>p.1 <= bs.length /\ rlT d q bs p.1 = some (p.2.map plVRel)) (fun p=>[(3,.ptr 3 0 0),(4,.ptr 4 0 0),(5,.ptr 5 0 0),(8,.own 12 0 p.2.length),(9,.d (.int .i64 p.1))])
  (fun p=>[(3,some (.box [.d (.pl (dl.map eTab))])),(4,some (.box [.d (.int .i64 q.n),.d (.pl (q.atoms.map eAtom)),.d (.pl (q.out.map cI))])),(5,some (.box [.d (.pl (bs.map (cP cI))),.d (.pl (ps.map cI))])),(12,some (.row 35 3 (p.2.map cVRel)))]) (fun p=>bs.length - p.1) (0,[]) ⟨by omega,rlT_zero d q bs⟩ (by simp) (by simp) ?_
 rintro ⟨i,ys⟩ hs t m ⟨hi,hT⟩ hh
 simp only at hi hT
 have hyl:=rlT_len hi hT
 simp only [List.length_map] at hyl
 by_cases hlt : i < bs.length
 ·have hwi:=wr1 (i:=i) (by omega)
  have hsc:=rlT_succ d q hlt
  rw [hT] at hsc
  have hqB:=fun (e : rlT d q bs (i + 1) = none)=>rlT_none e bs.length (by omega)
  have hL : LenOk 56 (ys.length + 1):=⟨by omega,by simp only [maxLen]; omega⟩
  simp [hlt,s30_7,]
  repeat' apply And.intro
  all_goals
   refine call_some (hBR bs[i]) (by simp [hde,hqe]) (by simp [hde,hqe]) fun n2 hs2 r2 hn2 hm2 hp2 hr2=>?_
   obtain ⟨hq2,ht2⟩:=hp2
   obtain ⟨x20,x21,rfl,q20,q21,t20,t21⟩:=rp_tup2 hq2 ht2
   obtain ⟨⟨⟨vid,vT,vx⟩,⟨yar,⟨rid,rT,rx⟩⟩⟩,rfl,pw⟩:=rp_agg tk_VRel q20 t20
   obtain rfl:=rp_flat q21 rfl
   have hn2' : hs <= n2:=hn2
   cases hO : brO d q bs[i] with
   | none =>
     simp only [rlS,hO] at hsc
     have hN:=hqB hsc
     simp [cVRel,cReln,cS,dSl,s30_7,]
     simp only [hN,ovL]
     intro γ hs' h1 hg
     obtain ⟨q1,q2⟩:=gam_at hg (k:=38) (T:=35) (sz:=3) (es:=[]) (by simp)
     clear hg
     exact ⟨⟨γ 38,some (35,3),[]⟩,by simp [dSl],by simp [plS],fun k hk=>⟨(q1 k hk).1,by simp [idsLL]⟩,by simp,rfl⟩
   | some v =>
     simp only [rlS,hO] at hsc
     rw [hO] at pw
     simp only [ovR] at pw
     simp [cVRel,cReln,cS,dSl,hwi,hL,List.take_of_length_le,s30_7,]
     exact back (i + 1,ys ++ [⟨⟨vid,vT,vx⟩,⟨yar,⟨rid,rT,rx⟩⟩⟩]) ⟨by simp only; omega,by rw [hsc]; simp [pw]⟩ (by simp only; omega) rfl (by simp <;> omega) (by simp) (by simp [cVRel,cReln,cS,dSl])
 ·have hn : i = bs.length:=by omega
  subst hn
  rw [hT]
  simp [ovL,List.take_of_length_le,s30_7,]
  intro γ hs' h1 hg
  obtain ⟨q1,q2⟩:=gam_at hg (k:=12) (T:=35) (sz:=3) (es:=ys.map cVRel) (by simp)
  have q3:=gam_row hg (k:=12) (T:=35) (sz:=3) (es:=ys.map cVRel) (by simp)
  clear hg
  exact ⟨⟨γ 12,some (35,3),ys⟩,by simp [dSl],rfl,fun k hk=>⟨(q1 k hk).1,q3 k hk⟩,by simpa using q2,rfl⟩
theorem w_spec_EvaluateByDecomposition (d : PDb) (q : PQuery) (x : PDec) (hst : ∀ t ∈ d.tabs,t.name.length <= maxLen) (hsq : ∀ a ∈ q.atoms,a.rel.length <= maxLen) (hb : x.par.length <= 4294967296) : VC Tryz.prog 35 [.agg ((eDb d).map V.d),.agg ((eQuery q).map V.d),.agg ((eDec x).map V.d)]
  (fun _ r=>r = .tup [.agg ((eReln (evP d q x)).map V.d),.d (.bool (evB d q x))]):=by
 have hde : (eDb d).map V.d = [V.d (.pl (d.tabs.map eTab))]:=by simp [eDb]
 have hqe : (eQuery q).map V.d = [V.d (.int .i64 q.n),V.d (.pl (q.atoms.map eAtom)),V.d (.pl (q.out.map cI))]:=by simp [eQuery]
 have hBR:=e_spec_BagRelations d q x hst hsq hb
 obtain ⟨bs,ps⟩:=x
 have hxe : (eDec ⟨bs,ps⟩).map V.d = [V.d (.pl (bs.map (cP cI))),V.d (.pl (ps.map cI))]:=by simp [eDec]
 refine VC.ofL EP s35 (by kernel_rfl) Tryz.func35 (by rfl) (by kernel_rfl) (by simp [Tryz.f35]) (by simp [Tryz.f35]) s35_ok fun B hl=>?_
 clear hl
 simp [Tryz.f35,s35_5,s35_9,s35_13,s35_16,s35_17,s35_5,s35_9,s35_13,s35_16,s35_17,hde,hqe,hxe]
 cases hO : rlO d q ⟨bs,ps⟩ with
 | none =>
   rw [hO] at hBR
   have hE : evL d q ⟨bs,ps⟩ = none:=by rw [evL,hO]
   refine call_pq hBR (by simp [hde,hqe,hxe]) fun n1 hs1 r1 hn1 hm1 hp1 hl1=>?_
   obtain ⟨y,rfl,_⟩:=hp1
   simp [evP,evB,hE,eReln,dSl,s35_5,s35_9,s35_13,s35_16,s35_17,]
 | some L0=>
 have hdl:=rl_dec hO
 obtain ⟨T,hbp,hrS⟩:=dec_tree hdl.1
 simp only at T hbp hrS hb
 obtain ⟨rt,hrt⟩ : ∃ rt,rt = rtN ps:=⟨_,rfl⟩
 have hL0 : L0.length = ps.length:=by rw [hdl.2]; exact hbp
 rw [<- hrt] at T hrS
 have hord:=ord_in T hrt.symm
 have hoa:=ord_all ps
 rw [<- hrt] at hoa
 have hR:=w_spec_JoinTreeRoot ps
 rw [hrS] at hR
 have hOr:=w_spec_l11Order ps rt T hb (ps.length + 2) rt T.hr (by rw [rkN]; omega)
 rw [hoa,cN_app] at hOr
 have hEq:=evL_eq hO
 simp only at hEq
 obtain ⟨OR,hOR⟩ : ∃ O,O = ordP ps:=⟨_,rfl⟩
 rw [<- hOR] at hord hOr hEq
 have hrt0:=T.hr
 have hne0 : L0 ≠ []:=fun e=>by rw [e] at hL0; simp at hL0; omega
 rw [hO] at hBR
 simp only [ovL] at hBR
 have hol : OR.length < ps.length:=by
  have h1:=T.post_nd (ps.length + 2) rt hrt0
  have h2:=nd_sub _ (List.range ps.length) h1 fun i hi=>List.mem_range.2 (T.post_facts (ps.length + 2) rt hrt0 i hi).1
  rw [hoa,<- hOR,List.length_range] at h2
  simp only [List.length_append,List.length_singleton] at h2
  omega
 have hol1 : ((cN OR ++ cN [rt]).length : Int) = OR.length + 1:=by simp [cN]
 obtain ⟨OL,hOL⟩ : ∃ O,O = cN OR ++ cN [rt]:=⟨_,rfl⟩
 rw [<- hOL] at hOr hol1
 have hOg : ∀ i (h : i < OR.length) (h2 : i < OL.length),OL[i] = (OR[i] : Int):=fun i h h2=>by simp [hOL,cN,List.getElem_append_left,h]
 have hol2 : OL.length = OR.length + 1:=by omega
 refine call_ot hBR (by simp [hde,hqe,hxe]) fun r1 n1 hs1 hn1 hm1 hp1=>?_
 obtain ⟨⟨yid,yT,ys⟩,rfl,hy,hg1,hg2,rfl⟩:=hp1
 simp only [plS] at hy hg1 hg2
 obtain ⟨g,rfl⟩:=Option.ne_none_iff_exists'.1 (hg2 (fun e=>hne0 (by rw [<- hy,e]; rfl)))
 have hyl : ys.length = ps.length:=by rw [<- hL0,<- hy]; simp
 have her : erLL (ys.map cVRel) = L0.map eVRel:=by rw [erLL_map er_cVRel2,hy]
 refine .inl ⟨g,35,3,ys.map cVRel,true,rfl,(hg1 g rfl).1,(hg1 g rfl).2,?_⟩
 have hOl4 : ∀ i (h : i < OR.length),(OR[i] < ps.length /\ parN ps OR[i] < ps.length) /\ OR[i] ≠ rt:=fun i h=>by
  have:=hord _ (List.getElem_mem h); exact ⟨⟨this.1,this.2.2.1⟩,this.2.1⟩
 have hps : ∀ i (h : i < OR.length),ps[OR[i]]'((hOl4 i h).1.1) = (parN ps OR[i] : Int):=fun i h=>by
  have:=(hord _ (List.getElem_mem h)).2.2.2
  rwa [getD_el _ (hOl4 i h).1.1] at this
 have hOg' : ∀ i (h : i < OR.length),OL[i]'(by omega) = (OR[i] : Int):=fun i h=>hOg i h (by omega)
 have hw1 : IntKind.i64.wrap ((OL.length : Int) - 1) = (OR.length : Int):=by rw [wrap64_of (by omega) (by omega)]; omega
 simp [s35_5,s35_9,s35_13,s35_16,s35_17,]
 refine call_f hR (by simp) rfl fun hs2 hh2=>?_
 simp at hh2
 simp [s35_5,s35_9,s35_13,s35_16,s35_17,]
 refine call_p hOr (by simp) fun hs3 hh3 hl3=>?_
 simp at hh3
 simp [s35_5,s35_9,s35_13,s35_16,s35_17,]
 refine loop_ruleL (X:=Nat × List PVRel) (fun p _=>p.1 <= OR.length /\ twS f1 (parN ps) (OR.take p.1) L0 = some p.2) (fun p=>[(4,.ptr 4 0 0),(5,.ptr 5 0 0),(6,.ptr 6 0 0),(8,.own 22 0 ps.length),(10,.ptr 10 0 0),(11,.d (.pl (OL.map cI))),(12,.d (.int .i64 p.1))]) (fun p=>[(4,some (.box [.d (.int .i64 q.n),.d (.pl (q.atoms.map eAtom)),.d (.pl (q.out.map cI))])),(5,some (.box [.d (.pl (bs.map (cP cI))),.d (.pl (ps.map cI))])),(6,some (.box [.d (.int .i64 0),.d (.sl none none [])])),(10,some (.box [.d (.pl (ps.map cI))])),(22,some (.row 35 3 (p.2.map eVRel)))]) (fun p=>OR.length - p.1) ?_ ?_
 ·refine (lead_rowE 22 (T:=35) (sz:=3) (es:=ys.map cVRel) (by simp)).bind ?_
  rintro _ rfl
  exact Lead.of ⟨(0,L0),⟨by omega,rfl⟩,rfl,rfl,Nat.le_refl _,by simp [hyl],by simp [her]⟩
 rintro ⟨i,L⟩ hs4 t m ⟨hi,hT⟩ hh4
 simp only at hi hT
 have hLl:=twS_len hT
 rw [hL0] at hLl
 by_cases hlt : i < OR.length
 ·have hwi:=wr1 (i:=i) (by omega)
  obtain ⟨⟨hc,hp⟩,hcr⟩:=hOl4 i hlt
  have hpc:=hps i hlt
  have hgo:=hOg' i hlt
  have hst:=twS_step hlt hT
  have hiO : i < OL.length:=by omega
  obtain ⟨c,hcd⟩ : ∃ c,c = OR[i]:=⟨_,rfl⟩
  simp only [<- hcd] at hc hp hpc hgo hst
  obtain ⟨p,hpd⟩ : ∃ p,p = parN ps c:=⟨_,rfl⟩
  rw [<- hpd] at hp hpc hst
  have hcL : c < L.length:=by omega
  have hpL : p < L.length:=by omega
  rw [getD_elI hcL,getD_elI hpL] at hst
  simp only [f1,Option.map_some] at hst
  have hSJ:=w_spec_SemiJoin L[p] L[c]
  have hset : (L.map eVRel).set p (eVRel (smP L[p] L[c])) = (L.set p (smP L[p] L[c])).map eVRel:=by simp
  obtain ⟨SV,hSV⟩ : ∃ v,v = smP L[p] L[c]:=⟨_,rfl⟩
  rw [<- hSV] at hst hSJ hset
  have hl3 : ∀ v,(eVRel v).length = 3:=fun v=>by simp [eVRel,eReln]
  simp [hlt,hw1,hiO,hgo,hc,hpc,hp,hLl,hcL,hpL,hl3,s35_5,s35_9,s35_13,s35_16,s35_17,]
  try (repeat' apply And.intro)
  all_goals
   refine call_p hSJ (by simp [eVRel,eReln]) fun hs5 hh5 hl5=>?_
   simp at hh5
   simp [hlt,hw1,hiO,hgo,hc,hpc,hp,hLl,hcL,hpL,hl3,hwi,eVRel,eReln,-List.map_set,s35_5,s35_9,s35_13,s35_16,s35_17,]
   exact back2 (i + 1,L.set p SV) ⟨by simp only; omega,hst⟩ (by simp only; omega) rfl (by simp <;> omega) (by simp) (by simp [eVRel,eReln])
 have hin : i = OR.length:=by omega
 subst hin
 rw [List.take_length] at hT
 rw [hT,Option.bind_some] at hEq
 have hout : q.out.length <= 4294967296:=by
  have hq : queryOk q = true:=by have:=hdl.1; simp only [decOk,Bool.and_eq_true] at this; exact this.1.1.1.1.1
  have hn:=queryOk_n5 hq
  simp only [queryOk,Bool.and_eq_true] at hq
  have:=setOf_len5 hq.1.1.2 hn.1 hn.2
  omega
 have hnlt : ¬ (OR.length : Int) < OR.length:=by omega
 simp [hw1,s35_5,s35_9,s35_13,s35_16,s35_17,]
 refine loop_rule (X:=Nat × List PVRel) (fun p=>p.1 <= OR.length /\ twS f2 (parN ps) (OR.take p.1) L = some p.2) (fun p=>[(4,.ptr 4 0 0),(5,.ptr 5 0 0),(6,.ptr 6 0 0),(8,.own 22 0 ps.length),(10,.ptr 10 0 0),(11,.d (.pl (OL.map cI))),(13,.d (.int .i64 p.1))]) (fun p=>[(4,some (.box [.d (.int .i64 q.n),.d (.pl (q.atoms.map eAtom)),.d (.pl (q.out.map cI))])),(5,some (.box [.d (.pl (bs.map (cP cI))),.d (.pl (ps.map cI))])),(6,some (.box [.d (.int .i64 0),.d (.sl none none [])])),(10,some (.box [.d (.pl (ps.map cI))])),(22,some (.row 35 3 (p.2.map eVRel)))]) (fun p=>OR.length - p.1) (0,L) ⟨by omega,rfl⟩ (by simp) (by simp) ?_
 rintro ⟨i,M⟩ hs4 t m ⟨hi,hT2⟩ hh4
 simp only at hi hT2
 have hMl:=twS_len hT2
 rw [hLl] at hMl
 have hl3 : ∀ v,(eVRel v).length = 3:=fun v=>by simp [eVRel,eReln]
 by_cases hlt : i < OR.length
 ·have hwi:=wr1 (i:=i) (by omega)
  obtain ⟨⟨hc,hp⟩,hcr⟩:=hOl4 i hlt
  have hpc:=hps i hlt
  have hgo:=hOg' i hlt
  have hst:=twS_step hlt hT2
  have hnn:=fun (e : twS f2 (parN ps) (OR.take (i + 1)) L = none)=>twS_none e
  have hiO : i < OL.length:=by omega
  obtain ⟨c,hcd⟩ : ∃ c,c = OR[i]:=⟨_,rfl⟩
  simp only [<- hcd] at hc hp hpc hgo hst
  obtain ⟨p,hpd⟩ : ∃ p,p = parN ps c:=⟨_,rfl⟩
  rw [<- hpd] at hp hpc hst
  have hcL : c < M.length:=by omega
  have hpL : p < M.length:=by omega
  rw [getD_elI hcL,getD_elI hpL] at hst
  have hNJ:=w_spec_NaturalJoin M[p] M[c]
  simp [hlt,hw1,hiO,hgo,hc,hpc,hp,hMl,hcL,hpL,hl3,s35_5,s35_9,s35_13,s35_16,s35_17,]
  try (repeat' apply And.intro)
  all_goals
   refine call_p hNJ (by simp [eVRel,eReln]) fun hs5 hh5 hl5=>?_
   simp at hh5
   cases hnb : njB M[p] M[c]
   ·simp only [f2,hnb,Bool.false_eq_true,if_false,Option.map_none] at hst
    have hE:=hnn hst
    rw [hE] at hEq
    simp [evP,evB,hEq,eReln,eVRel,s35_5,s35_9,s35_13,s35_16,s35_17,]
   ·simp only [f2,hnb,if_true,Option.map_some] at hst
    obtain ⟨SV,hSV⟩ : ∃ v,v = njP M[p] M[c]:=⟨_,rfl⟩
    rw [<- hSV] at hst ⊢
    simp [hlt,hw1,hiO,hgo,hc,hpc,hp,hMl,hcL,hpL,hl3,hwi,eVRel,eReln,-List.map_set,s35_5,s35_9,s35_13,s35_16,s35_17,]
    try (repeat' apply And.intro)
    all_goals exact back (i + 1,M.set p SV) ⟨by simp only; omega,hst⟩ (by simp only; omega) rfl (by simp <;> omega) (by simp) (by simp [eVRel,eReln])
 ·have hin : i = OR.length:=by omega
  subst hin
  rw [List.take_length] at hT2
  rw [hT2] at hEq
  have hrM : rt < M.length:=by omega
  have hPr:=w_spec_Project M[rt].rel q.out hout
  have hP1 : evP d q ⟨bs,ps⟩ = prP M[rt].rel q.out:=by rw [evP,hEq]; simp only [<- hrt,getD_elI hrM]
  have hP2 : evB d q ⟨bs,ps⟩ = prB M[rt].rel q.out:=by rw [evB,hEq]; simp only [<- hrt,getD_elI hrM]
  rw [hP1,hP2]
  simp [hw1,s35_5,s35_9,s35_13,s35_16,s35_17,]
  try (repeat' apply And.intro)
  all_goals
   refine call_f hR (by simp) rfl fun hs6 hh6=>?_
   simp at hh6
   simp [hMl,hrM,hrt0,hl3,eVRel,eReln,s35_5,s35_9,s35_13,s35_16,s35_17,]
   try (repeat' apply And.intro)
   all_goals
    refine call_p hPr (by simp [eVRel,eReln]) fun hs7 hh7 hl7=>?_
    simp at hh7
    simp [eReln,s35_5,s35_9,s35_13,s35_16,s35_17,]
end
end Go.Proofs.YtglilmkmkdkedaaGreatDoor
namespace Go.Proofs.YtglilmkmkdkedaaGreatDoor
open Go.Vs Go.Proofs Go
set_option maxRecDepth 100000
set_option maxHeartbeats 1000000
section
attribute [local simp] plI_id plStr_id map_plI map_plStr pS cP cI cStr
theorem p_impl_NaturalJoin (a b : PVRel) : VC Tryz.prog 55 [.agg ((eVRel a).map V.d),.agg ((eVRel b).map V.d)] (fun _ r=>r = .tup [.agg ((eVRel (njP a b)).map V.d),.d (.bool (njB a b))]):=
 VC.plain (e_impl_NaturalJoin a b) (fun n v h=>by
  obtain ⟨y,rfl,hp,_,_⟩:=h
  have:=rp_vrel (fun _=>none) y
  rw [hp] at this
  simp only [rp,rpL] at this ⊢
  rw [this]; rfl) (by simp [eVRel,eReln,rd,rdL])
theorem e_impl_EvaluateByDecomposition (d : PDb) (q : PQuery) (x : PDec) (hb : x.par.length <= 4294967296) : VC Tryz.prog 36 [.agg ((eDb d).map V.d),.agg ((eQuery q).map V.d),.agg ((eDec x).map V.d)]
  (fun n r=>∃ y : Reln,r = .tup [.agg ((cReln y).map V.d),.d (.bool (evB d q x))] /\ plReln y = evP d q x /\ okReln y /\ Good (cReln y) (whReln y) n):=by
 have hde : (eDb d).map V.d = [V.d (.pl (d.tabs.map eTab))]:=by simp [eDb]
 have hqe : (eQuery q).map V.d = [V.d (.int .i64 q.n),V.d (.pl (q.atoms.map eAtom)),V.d (.pl (q.out.map cI))]:=by simp [eQuery]
 have hBR:=e_impl_BagRelations d q x hb
 obtain ⟨bs,ps⟩:=x
 have hxe : (eDec ⟨bs,ps⟩).map V.d = [V.d (.pl (bs.map (cP cI))),V.d (.pl (ps.map cI))]:=by simp [eDec]
 refine VC.of E s36 (by kernel_rfl) Tryz.func36 (by rfl) (by kernel_rfl) (by simp [Tryz.f36]) (by simp [Tryz.f36]) s36_ok fun B=>?_
 simp [Tryz.f36,s36_12,s36_21,s36_27,s36_12,s36_21,s36_27,hde,hqe,hxe]
 cases hO : rlO d q ⟨bs,ps⟩ with
 | none =>
   rw [hO] at hBR
   have hE : evL d q ⟨bs,ps⟩ = none:=by rw [evL,hO]
   refine call_pq hBR (by simp [hde,hqe,hxe]) fun n1 hs1 r1 hn1 hm1 hp1 hl1=>?_
   obtain ⟨y,rfl,_⟩:=hp1
   simp [evB,hE,eReln,dSl,s36_12,s36_21,s36_27,]
   exact ⟨⟨0,nilS⟩,by simp [cReln,cS,cI,nilS,dSl],by simp [evP,hE,plReln,nilS,plS],⟨trivial,ok_nilS⟩,good_Reln0 B⟩
 | some L0=>
 have hdl:=rl_dec hO
 obtain ⟨T,hbp,hrS⟩:=dec_tree hdl.1
 simp only at T hbp hrS hb
 obtain ⟨rt,hrt⟩ : ∃ rt,rt = rtN ps:=⟨_,rfl⟩
 have hL0l : L0.length = ps.length:=by rw [hdl.2]; exact hbp
 rw [<- hrt] at T hrS
 have hR:=w_impl_JoinTreeRoot ps
 rw [hrS] at hR
 have hUp:=w_impl_upwards ps rt T hrS hb
 have hEq:=evL_eq hO
 simp only at hEq
 rw [show ordP ps = preF (kidN ps) (ps.length + 2) rt by rw [ordP,hrt]] at hEq
 have hrt0:=T.hr
 have hne0 : L0 ≠ []:=fun e=>by rw [e] at hL0l; simp at hL0l; omega
 have hrk : rkN ps rt <= ps.length + 2:=by rw [rkN]; omega
 rw [hO] at hBR
 simp only [ovL] at hBR
 have hout : q.out.length <= 4294967296:=by
  have hq : queryOk q = true:=by have:=hdl.1; simp only [decOk,Bool.and_eq_true] at this; exact this.1.1.1.1.1
  have hn:=queryOk_n5 hq
  simp only [queryOk,Bool.and_eq_true] at hq
  have:=setOf_len5 hq.1.1.2 hn.1 hn.2
  omega
 refine call_ot hBR (by simp [hde,hqe,hxe]) fun r1 n1 hs1 hn1 hm1 hp1=>?_
 obtain ⟨⟨yid,yT,ys⟩,rfl,hy,ky,Gy,hTy⟩:=hp1
 have hn1' : B <= n1:=hn1
 simp only [plS] at hy hTy
 have hyne : ys ≠ []:=fun e=>hne0 (by rw [<- hy,e]; rfl)
 obtain ⟨g,rfl⟩ : ∃ g,yid = some g:=by
  cases hq : yid with
  | none=>have:=Gy.wh.1.nil hq; exact absurd this hyne
  | some g=>exact ⟨g,rfl⟩
 obtain rfl:=hTy g rfl
 have hyl : ys.length = ps.length:=by rw [<- hL0l,<- hy]; simp
 have her : erLL (ys.map cVRel) = L0.map eVRel:=by rw [erLL_map er_cVRel2,hy]
 have hgd : n1 <= g /\ g ∉ idsLL (ys.map cVRel):=by
  refine ⟨Gy.lo g (by rw [idsL_cS]; simp [dSl,D.ids]),fun h=>?_⟩
  have:=Gy.nd
  rw [idsL_cS] at this
  simp only [dSl,D.ids,Option.toList_some,List.singleton_append,List.nodup_cons] at this
  exact this.1 h
 refine .inl ⟨g,35,3,ys.map cVRel,true,rfl,hgd.1,hgd.2,?_⟩
 simp [s36_12,s36_21,s36_27,]
 refine call_pq hUp (by simp) fun n2 hs2 r2 hn2 hm2 hp2 hl2=>?_
 obtain ⟨out,kk,hBI,hkk,rfl⟩:=hp2
 simp at hn2
 obtain ⟨O,hOd⟩ : ∃ O,O = out.reverse:=⟨_,rfl⟩
 have hO1:=T.run_eq f1 hL0l hBI hkk hrk
 have hO : ∀ i ∈ O,i < ps.length:=fun i hi=>hBI.lt i (by rw [hOd] at hi; simpa using hi)
 have hol:=T.bfs_len hBI
 obtain ⟨OL,hOL⟩ : ∃ l,l = cN O:=⟨_,rfl⟩
 have hOl : OL.length = O.length:=by rw [hOL,cN_len]
 have hOn : O.length <= ps.length:=by rw [hOd]; simpa using hol
 have hOg : ∀ i (h : i < O.length) (h2 : i < OL.length),OL[i] = (O[i] : Int):=fun i h h2=>by simp [hOL,cN]
 rw [<- hOd] at hO1
 rw [<- hO1] at hEq
 rw [<- hOd,<- hOL]
 have hl3 : ∀ v,(eVRel v).length = 3:=fun v=>by simp [eVRel,eReln]
 simp [s36_12,s36_21,s36_27,]
 refine loop_ruleL (X:=Nat × List PVRel) (fun p _=>p.1 <= O.length /\ twB f1 (kidN ps) (O.take p.1) L0 = some p.2) (fun p=>[(4,.ptr 4 0 0),(6,.ptr 6 0 0),(8,.own 26 0 ps.length),(10,.ptr 10 0 0),(11,.d (.pl (OL.map cI))),(37,.d (.pl (OL.map cI))),(38,.d (.int .i64 OL.length)),(39,.d (.int .i64 p.1))]) (fun p=>[(4,some (.box [.d (.int .i64 q.n),.d (.pl (q.atoms.map eAtom)),.d (.pl (q.out.map cI))])),(6,some (.box [.d (.int .i64 0),.d (.sl none none [])])),(10,some (.box [.d (.pl (ps.map cI))])),(26,some (.row 35 3 (p.2.map eVRel)))]) (fun p=>O.length - p.1) ?_ ?_
 ·refine (lead_rowE 26 (T:=35) (sz:=3) (es:=ys.map cVRel) (by simp)).bind ?_
  rintro _ rfl
  exact Lead.of ⟨(0,L0),⟨by omega,rfl⟩,rfl,rfl,Nat.le_refl _,by simp [hyl],by simp [her]⟩
 rintro ⟨i,L⟩ hs4 t m ⟨hi,hT⟩ hh4
 simp only at hi hT
 have hLl:=twB_len hT
 rw [hL0l] at hLl
 by_cases hlt : i < O.length
 ·have hwi:=wr1 (i:=i) (by omega)
  have hpo:=hO _ (List.getElem_mem hlt)
  have hgo : OL[i]'(by omega) = (O[i] : Int):=hOg i hlt (by omega)
  have hiO : i < OL.length:=by omega
  obtain ⟨p,hpd⟩ : ∃ p,p = O[i]:=⟨_,rfl⟩
  have hCN:=w_impl_JoinTreeChildren ps p hb
  have hst:=twB_step hlt hT
  have hnn:=fun (e : twB f1 (kidN ps) (O.take (i + 1)) L0 = none)=>twB_none e
  simp only [<- hpd] at hpo hgo hst
  obtain ⟨K,hK⟩ : ∃ K,K = kidN ps p:=⟨_,rfl⟩
  have hkid : ∀ c ∈ K,c < ps.length:=fun c hc=>by rw [hK] at hc; exact (kid_mem.1 hc).1
  have hKn:=kidN_len ps p
  rw [<- hK] at hCN hst hKn
  obtain ⟨KL,hKL⟩ : ∃ l,l = cN K:=⟨_,rfl⟩
  have hKl : KL.length = K.length:=by rw [hKL,cN_len]
  have hKg : ∀ j (h : j < K.length) (h2 : j < KL.length),KL[j] = (K[j] : Int):=fun j h h2=>by simp [hKL,cN]
  rw [<- hKL] at hCN
  simp [hiO,hgo,s36_12,s36_21,s36_27,]
  refine call_p hCN (by simp) fun hs6 hh6 hl6=>?_
  simp at hh6
  simp [s36_12,s36_21,s36_27,]
  refine loop_rule (X:=Nat × List PVRel) (fun r=>r.1 <= K.length /\ twK f1 p (K.take r.1) L = some r.2) (fun r=>[(4,.ptr 4 0 0),(6,.ptr 6 0 0),(8,.own 26 0 ps.length),(10,.ptr 10 0 0),(11,.d (.pl (OL.map cI))),(37,.d (.pl (OL.map cI))),(38,.d (.int .i64 OL.length)),(39,.d (.int .i64 i)),(13,.d (.int .i64 p)),(45,.d (.pl (KL.map cI))),(46,.d (.int .i64 KL.length)),(47,.d (.int .i64 r.1))]) (fun r=>[(4,some (.box [.d (.int .i64 q.n),.d (.pl (q.atoms.map eAtom)),.d (.pl (q.out.map cI))])),(6,some (.box [.d (.int .i64 0),.d (.sl none none [])])),(10,some (.box [.d (.pl (ps.map cI))])),(26,some (.row 35 3 (r.2.map eVRel)))]) (fun r=>K.length - r.1) (0,L) ⟨by omega,rfl⟩ (by simp) (by simp) ?_
  rintro ⟨j,N⟩ hs7 t m ⟨hj,hTK⟩ hh7
  simp only at hj hTK
  have hh7' : hs6 <= hs7:=hh7
  have hNl:=twK_len hTK
  rw [hLl] at hNl
  have hpN : p < N.length:=by omega
  by_cases hjl : j < K.length
  ·have hwj:=wr1 (i:=j) (by omega)
   have hck:=hkid _ (List.getElem_mem hjl)
   have hgk : KL[j]'(by omega) = (K[j] : Int):=hKg j hjl (by omega)
   have hjK : j < KL.length:=by omega
   have hstk:=twK_step hjl hTK
   have hnk:=fun (e : twK f1 p (K.take (j + 1)) L = none)=>twK_none e
   obtain ⟨c,hcd⟩ : ∃ c,c = K[j]:=⟨_,rfl⟩
   simp only [<- hcd] at hck hgk hstk
   have hcN : c < N.length:=by omega
   rw [getD_elI hpN,getD_elI hcN] at hstk
   have hSJ:=w_impl_SemiJoin N[p] N[c]
   simp only [f1,Option.map_some] at hstk
   obtain ⟨SV,hSV⟩ : ∃ v,v = smP N[p] N[c]:=⟨_,rfl⟩
   rw [<- hSV] at hstk hSJ
   simp [hjK,hgk,hpo,hck,hNl,hpN,hcN,hl3,s36_12,s36_21,s36_27,]
   try (repeat' apply And.intro)
   all_goals
    refine call_p hSJ (by simp [eVRel,eReln]) fun hs8 hh8 hl8=>?_
    simp at hh8
    simp [hjK,hgk,hpo,hck,hNl,hpN,hcN,hl3,hwj,eVRel,eReln,-List.map_set,s36_12,s36_21,s36_27,]
    try (repeat' apply And.intro)
    all_goals exact back (j + 1,N.set p SV) ⟨by simp only; omega,hstk⟩ (by simp only; omega) rfl (by simp <;> omega) (by simp) (by simp [eVRel,eReln])
  have hjn : j = K.length:=by omega
  subst hjn
  rw [List.take_length] at hTK
  rw [hTK] at hst
  simp [hKl,hwi,s36_12,s36_21,s36_27,]
  exact back2 (i + 1,N) ⟨by simp only; omega,hst⟩ (by simp only; omega) rfl (by simp <;> omega) (by simp) (by simp)
 have hin : i = O.length:=by omega
 subst hin
 rw [List.take_length] at hT
 rw [hT,Option.bind_some] at hEq
 have hO2:=T.run_eq f2 hLl hBI hkk hrk
 rw [<- hOd] at hO2
 rw [<- hO2] at hEq
 simp [hOl,s36_12,s36_21,s36_27,]
 refine loop_rule (X:=Nat × List PVRel) (fun p=>p.1 <= O.length /\ twB f2 (kidN ps) (O.take p.1) L = some p.2) (fun p=>[(4,.ptr 4 0 0),(6,.ptr 6 0 0),(8,.own 26 0 ps.length),(10,.ptr 10 0 0),(11,.d (.pl (OL.map cI))),(68,.d (.pl (OL.map cI))),(69,.d (.int .i64 OL.length)),(70,.d (.int .i64 p.1))]) (fun p=>[(4,some (.box [.d (.int .i64 q.n),.d (.pl (q.atoms.map eAtom)),.d (.pl (q.out.map cI))])),(6,some (.box [.d (.int .i64 0),.d (.sl none none [])])),(10,some (.box [.d (.pl (ps.map cI))])),(26,some (.row 35 3 (p.2.map eVRel)))]) (fun p=>O.length - p.1) (0,L) ⟨by omega,rfl⟩ (by simp [hOl]) (by simp) ?_
 rintro ⟨i,M⟩ hs5 t m ⟨hi,hT2⟩ hh5
 simp only at hi hT2
 have hMl:=twB_len hT2
 rw [hLl] at hMl
 by_cases hlt : i < O.length
 ·have hwi:=wr1 (i:=i) (by omega)
  have hpo:=hO _ (List.getElem_mem hlt)
  have hgo : OL[i]'(by omega) = (O[i] : Int):=hOg i hlt (by omega)
  have hiO : i < OL.length:=by omega
  obtain ⟨p,hpd⟩ : ∃ p,p = O[i]:=⟨_,rfl⟩
  have hCN:=w_impl_JoinTreeChildren ps p hb
  have hst:=twB_step hlt hT2
  have hnn:=fun (e : twB f2 (kidN ps) (O.take (i + 1)) L = none)=>twB_none e
  simp only [<- hpd] at hpo hgo hst
  obtain ⟨K,hK⟩ : ∃ K,K = kidN ps p:=⟨_,rfl⟩
  have hkid : ∀ c ∈ K,c < ps.length:=fun c hc=>by rw [hK] at hc; exact (kid_mem.1 hc).1
  have hKn:=kidN_len ps p
  rw [<- hK] at hCN hst hKn
  obtain ⟨KL,hKL⟩ : ∃ l,l = cN K:=⟨_,rfl⟩
  have hKl : KL.length = K.length:=by rw [hKL,cN_len]
  have hKg : ∀ j (h : j < K.length) (h2 : j < KL.length),KL[j] = (K[j] : Int):=fun j h h2=>by simp [hKL,cN]
  rw [<- hKL] at hCN
  simp [hiO,hgo,s36_12,s36_21,s36_27,]
  refine call_p hCN (by simp) fun hs6 hh6 hl6=>?_
  simp at hh6
  simp [s36_12,s36_21,s36_27,]
  refine loop_rule (X:=Nat × List PVRel) (fun r=>r.1 <= K.length /\ twK f2 p (K.take r.1) M = some r.2) (fun r=>[(4,.ptr 4 0 0),(6,.ptr 6 0 0),(8,.own 26 0 ps.length),(10,.ptr 10 0 0),(11,.d (.pl (OL.map cI))),(68,.d (.pl (OL.map cI))),(69,.d (.int .i64 OL.length)),(70,.d (.int .i64 i)),(17,.d (.int .i64 p)),(76,.d (.pl (KL.map cI))),(77,.d (.int .i64 KL.length)),(78,.d (.int .i64 r.1))]) (fun r=>[(4,some (.box [.d (.int .i64 q.n),.d (.pl (q.atoms.map eAtom)),.d (.pl (q.out.map cI))])),(6,some (.box [.d (.int .i64 0),.d (.sl none none [])])),(10,some (.box [.d (.pl (ps.map cI))])),(26,some (.row 35 3 (r.2.map eVRel)))]) (fun r=>K.length - r.1) (0,M) ⟨by omega,rfl⟩ (by simp) (by simp) ?_
  rintro ⟨j,N⟩ hs7 t m ⟨hj,hTK⟩ hh7
  simp only at hj hTK
  have hh7' : hs6 <= hs7:=hh7
  have hNl:=twK_len hTK
  rw [hMl] at hNl
  have hpN : p < N.length:=by omega
  by_cases hjl : j < K.length
  ·have hwj:=wr1 (i:=j) (by omega)
   have hck:=hkid _ (List.getElem_mem hjl)
   have hgk : KL[j]'(by omega) = (K[j] : Int):=hKg j hjl (by omega)
   have hjK : j < KL.length:=by omega
   have hstk:=twK_step hjl hTK
   have hnk:=fun (e : twK f2 p (K.take (j + 1)) M = none)=>twK_none e
   obtain ⟨c,hcd⟩ : ∃ c,c = K[j]:=⟨_,rfl⟩
   simp only [<- hcd] at hck hgk hstk
   have hcN : c < N.length:=by omega
   rw [getD_elI hpN,getD_elI hcN] at hstk
   have hNJ:=p_impl_NaturalJoin N[p] N[c]
   simp [hjK,hgk,hpo,hck,hNl,hpN,hcN,hl3,s36_12,s36_21,s36_27,]
   try (repeat' apply And.intro)
   all_goals
    refine call_p hNJ (by simp [eVRel,eReln]) fun hs8 hh8 hl8=>?_
    simp at hh8
    cases hnb : njB N[p] N[c]
    ·simp only [f2,hnb,Bool.false_eq_true,if_false,Option.map_none] at hstk
     rw [hnk hstk] at hst
     have hE:=hnn hst
     rw [hE] at hEq
     simp [evB,hEq,eReln,eVRel,s36_12,s36_21,s36_27,]
     exact ⟨⟨0,nilS⟩,by simp [cReln,cS,cI,nilS,dSl],by simp [evP,hEq,plReln,nilS,plS],⟨trivial,ok_nilS⟩,good_Reln0 B⟩
    ·simp only [f2,hnb,if_true,Option.map_some] at hstk
     obtain ⟨SV,hSV⟩ : ∃ v,v = njP N[p] N[c]:=⟨_,rfl⟩
     rw [<- hSV] at hstk ⊢
     simp [hjK,hgk,hpo,hck,hNl,hpN,hcN,hl3,hwj,eVRel,eReln,-List.map_set,s36_12,s36_21,s36_27,]
     try (repeat' apply And.intro)
     all_goals exact back (j + 1,N.set p SV) ⟨by simp only; omega,hstk⟩ (by simp only; omega) rfl (by simp <;> omega) (by simp) (by simp [eVRel,eReln])
  have hjn : j = K.length:=by omega
  subst hjn
  rw [List.take_length] at hTK
  rw [hTK] at hst
  simp [hKl,hwi,s36_12,s36_21,s36_27,]
  exact back (i + 1,N) ⟨by simp only; omega,hst⟩ (by simp only; omega) rfl (by simp <;> omega) (by simp) (by simp)
 ·have hin : i = O.length:=by omega
  subst hin
  rw [List.take_length] at hT2
  rw [hT2] at hEq
  have hrM : rt < M.length:=by omega
  have hPr:=e_impl_Project M[rt].rel q.out hout
  have hP1 : evP d q ⟨bs,ps⟩ = prP M[rt].rel q.out:=by rw [evP,hEq]; simp only [<- hrt,getD_elI hrM]
  have hP2 : evB d q ⟨bs,ps⟩ = prB M[rt].rel q.out:=by rw [evB,hEq]; simp only [<- hrt,getD_elI hrM]
  rw [hP1,hP2]
  simp [hOl,s36_12,s36_21,s36_27,]
  try (repeat' apply And.intro)
  all_goals
   refine call_f hR (by simp) rfl fun hs6 hh6=>?_
   simp at hh6
   simp [hMl,hrM,hrt0,hl3,eVRel,eReln,s36_12,s36_21,s36_27,]
   try (repeat' apply And.intro)
   all_goals
    refine call_pq hPr (by simp [eReln]) fun n7 hs7 r7 hn7 hm7 hp7 hl7=>?_
    obtain ⟨⟨ya,⟨yid,yT,yx⟩⟩,rfl,py,ky',Gy'⟩:=hp7
    simp at hn7
    simp [cReln,cS,s36_12,s36_21,s36_27,]
    exact ⟨⟨ya,⟨yid,yT,yx⟩⟩,by simp [cReln,cS],py,ky',Gy'.le (by omega)⟩
theorem t_impl_EvaluateByDecomposition (d : Db) (q : Query) (x : Dec) (hb : (plDec x).par.length <= 4294967296) : VC Tryz.prog 36 [.agg ((cDb d).map V.d),.agg ((cQuery q).map V.d),.agg ((cDec x).map V.d)]
  (fun n r=>∃ y : Reln,r = .tup [.agg ((cReln y).map V.d),.d (.bool (evB (plDb d) (plQuery q) (plDec x)))] /\ plReln y = evP (plDb d) (plQuery q) (plDec x) /\ okReln y /\ Good (cReln y) (whReln y) n):=
 (e_impl_EvaluateByDecomposition (plDb d) (plQuery q) (plDec x) hb).er (rpL_cons2 (rp_db2 _ d) (rpL_cons2 (rp_qry2 _ q) (rpL_cons2 (rp_dec2 _ x) rfl)))
end
theorem wp_pr (r : PReln) (c : List Int) : wpTReln (prP r c) <= 24000:=by
 rw [prP]
 split
 ·rw [newR]
  split
  ·rename_i h
   simp only [newB,Bool.and_eq_true] at h
   have:=wp_rows h.2
   simp only [wpTReln]; omega
  ·simp [wpTReln,wpS]
 ·simp [wpTReln,wpS]
theorem wp_ev (d : PDb) (q : PQuery) (x : PDec) : wpTReln (evP d q x) <= 24000:=by
 rw [evP]
 split
 ·simp [wpTReln,wpS]
 ·exact wp_pr _ _
end Go.Proofs.YtglilmkmkdkedaaGreatDoor
namespace Go.Proofs.YtglilmkmkdkedaaGreatDoor
open Go.Vs Go.Proofs Go
set_option maxRecDepth 100000
set_option maxHeartbeats 1000000
theorem w_laws_FnExactEvaluateByDecomposition (a : Db) (b : Query) (x : Dec) (k_a : okDb a) (k_b : okQuery b) (k_x : okDec x) :
  VC Tryz.prog 6 [.agg ((cDb a).map V.d),.agg ((cQuery b).map V.d),.agg ((cDec x).map V.d)] (fun _ r=>r = .d (.bool true)):=by
 refine VC.ofB E s6 (by kernel_rfl) Tryz.func6 (by rfl) (by kernel_rfl) (by simp [Tryz.f6]) (by simp [Tryz.f6]) s6_ok fun B hB=>?_
 have ua_a : ∀ g ∈ idsL (cDb a),g < B:=fun g hg=>hB g (by simp only [idsVL,ids_agg,idsVL_map_d,V.ids,idsL_cS,List.mem_append] at hg ⊢; simp [hg])
 have ua_b : ∀ g ∈ idsL (cQuery b),g < B:=fun g hg=>hB g (by simp only [idsVL,ids_agg,idsVL_map_d,V.ids,idsL_cS,List.mem_append] at hg ⊢; simp [hg])
 have ua_x : ∀ g ∈ idsL (cDec x),g < B:=fun g hg=>hB g (by simp only [idsVL,ids_agg,idsVL_map_d,V.ids,idsL_cS,List.mem_append] at hg ⊢; simp [hg])
 simp [Tryz.f6,s6_18,s6_20,s6_22,s6_18,s6_20,s6_22,cDb,cDec,cI,cQuery,cReln,cS,cI,cS]
 refine call_pure (w_laws_szDatabase a _ (by omega) (by omega) k_a) rfl (by simp) rfl fun hz_a zz_a=>?_
 simp at zz_a
 by_cases s_a : (swDb a : Int) <= 1048576
 case neg=>
  rw [szv_neg (by omega)]; simp
  all_goals exact fun h=>absurd h (by decide)
 rw [szv_pos s_a]
 simp [show ¬ (1048576 : Int) - swDb a < 0 by omega,show ¬ (1048576 : Int) < swDb a by omega,s_a]
 refine call_pure (w_laws_szQuery b _ (by omega) (by omega) k_b) rfl (by simp) rfl fun hz_b zz_b=>?_
 simp at zz_b
 by_cases s_b : (swQuery b : Int) <= 1048576 - swDb a
 case neg=>
  rw [szv_neg (by omega)]; simp
  all_goals exact fun h=>absurd h (by decide)
 rw [szv_pos s_b]
 simp [show ¬ (1048576 - swDb a : Int) - swQuery b < 0 by omega,show ¬ (1048576 - swDb a : Int) < swQuery b by omega,s_b]
 refine call_pure (w_laws_szDecomposition x _ (by omega) (by omega) k_x) rfl (by simp) rfl fun hz_x zz_x=>?_
 simp at zz_x
 by_cases s_x : (swDec x : Int) <= 1048576 - swDb a - swQuery b
 case neg=>
  rw [szv_neg (by omega)]; simp
  all_goals exact fun h=>absurd h (by decide)
 rw [szv_pos s_x]
 simp [show ¬ (1048576 - swDb a - swQuery b : Int) - swDec x < 0 by omega,show ¬ (1048576 - swDb a - swQuery b : Int) < swDec x by omega,s_x]
 have hw_a:=wbT_Db a
 have hw_b:=wbT_Query b
 have hw_x:=wbT_Dec x
 have hln : ∀ y : Dec,plDec y = plDec x -> (plDec y).par.length <= 4294967296 /\ (plDec y).bags.length <= 1048576:=fun y h=>by
  rw [h]
  have h2 : swDec x = x.bags.xs.length + sumW (swS swI) x.bags.xs + (x.par.xs.length + sumW swI x.par.xs):=rfl
  simp only [plDec,plS,List.length_map]
  omega
 refine cutT (X:=Reln) (fun w0 hs=>plReln w0 = evP (plDb a) (plQuery b) (plDec x) /\ ∀ g ∈ idsL (cReln w0),g < hs) (fun w0=>[(3,.ptr 3 0 0),(4,.ptr 4 0 0),(5,.ptr 5 0 0),(8,.ptr 8 0 0),(9,.d (.bool (evB (plDb a) (plQuery b) (plDec x))))]) (fun w0=>[(3,some (.box ((cDb a).map V.d))),(4,some (.box ((cQuery b).map V.d))),(5,some (.box ((cDec x).map V.d))),(8,some (.box ((cReln w0).map V.d)))]) ?_ ?_
 ·intro K hK
  simp [s6_11,cDb,cDec,cI,cQuery,cReln,cS,cI,cS]
  repeat' apply And.intro
  all_goals
   refine call_some (w_laws_toDatabase a k_a (by omega)) rfl (by simp) fun n1 hs1 r1 hn1 hm1 hp1 hr1=>?_
   obtain ⟨y1,rfl,p1,k1,G1⟩:=hp1
   have u1 : ∀ g ∈ idsL (cDb y1),g < hs1:=fun g hg=>hr1 g (by first | (rw [ids_agg]; exact hg) | (simpa only [V.ids,idsL_cS] using hg))
   simp at hn1
   have e1 : wtTDb y1 = wtTDb a:=by rw [wtTDb_pl,wtTDb_pl,p1]
   simp [s6_18,s6_20,s6_22,cDb,cDec,cI,cQuery,cReln,cS,cI,cS]
   repeat' apply And.intro
   all_goals
    refine call_some (w_laws_toQuery b k_b (by omega)) rfl (by simp) fun n2 hs2 r2 hn2 hm2 hp2 hr2=>?_
    obtain ⟨y2,rfl,p2,k2,G2⟩:=hp2
    have u2 : ∀ g ∈ idsL (cQuery y2),g < hs2:=fun g hg=>hr2 g (by first | (rw [ids_agg]; exact hg) | (simpa only [V.ids,idsL_cS] using hg))
    simp at hn2
    have e2 : wtTQuery y2 = wtTQuery b:=by rw [wtTQuery_pl,wtTQuery_pl,p2]
    simp [s6_18,s6_20,s6_22,cDb,cDec,cI,cQuery,cReln,cS,cI,cS]
    repeat' apply And.intro
    all_goals
     refine call_some (w_laws_toDecomposition x k_x (by omega)) rfl (by simp) fun n3 hs3 r3 hn3 hm3 hp3 hr3=>?_
     obtain ⟨y3,rfl,p3,k3,G3⟩:=hp3
     have u3 : ∀ g ∈ idsL (cDec y3),g < hs3:=fun g hg=>hr3 g (by first | (rw [ids_agg]; exact hg) | (simpa only [V.ids,idsL_cS] using hg))
     simp at hn3
     have e3 : wtTDec y3 = wtTDec x:=by rw [wtTDec_pl,wtTDec_pl,p3]
     simp [s6_18,s6_20,s6_22,cDb,cDec,cI,cQuery,cReln,cS,cI,cS]
     repeat' apply And.intro
     all_goals
      refine call_some (VC.track (VC.to (w_spec_EvaluateByDecomposition (plDb y1) (plQuery y2) (plDec y3) (okDb_strs k1) (okQuery_strs k2) (hln _ p3).1) (show _ = V.tup [.agg ((eReln (evP (plDb a) (plQuery b) (plDec x))).map V.d),.d (.bool (evB (plDb a) (plQuery b) (plDec x)))] by rw [p1,p2,p3])) (by simp [er_I,er_SI,er_Str,er_File,er_Tab,er_Db,er_Delta,er_Atom,er_VRel,eDb,eDec,eQuery,eReln,plDb,plDec,plI,plQuery,plReln,cP,pS,plI]) (by simp [V.pn,pnVL])) rfl (by simp) fun n4 hs4 r4 hn4 hm4 hp4 hr4=>?_
      obtain ⟨hq4,ht4⟩:=hp4
      obtain ⟨x40,x41,rfl,q40,q41,t40,t41⟩:=rp_tup2 hq4 ht4
      obtain ⟨w0,rfl,pw0⟩:=rp_agg tk_Reln q40 t40
      obtain rfl:=rp_flat q41 rfl
      have uw0 : ∀ g ∈ idsL (cReln w0),g < hs4:=fun g hg=>hr4 g (by simp only [V.ids,idsVL,ids_agg,idsVL_map_d,idsL_cS,List.mem_append] at hg ⊢; simp [hg])
      simp at hn4
      clear hr4
      simp [s6_18,s6_20,s6_22,cDb,cDec,cI,cQuery,cReln,cS,cI,cS]
      exact hK w0 _ ⟨pw0,uw0⟩ rfl rfl (by simp <;> omega) (by simp [cDb,cDec,cI,cQuery,cReln,cS,cI,cS]) (by simp [cDb,cDec,cI,cQuery,cReln,cS,cI,cS])
 intro w0 hsw tw mw hw hhw
 obtain ⟨pw0,uw0⟩:=hw
 simp [s6_18,s6_20,s6_22,cDb,cDec,cI,cQuery,cReln,cS,cI,cS]
 refine call_some (w_laws_toDatabase a k_a (by omega)) rfl (by simp) fun n5 hs5 r5 hn5 hm5 hp5 hr5=>?_
 obtain ⟨y5,rfl,p5,k5,G5⟩:=hp5
 have u5 : ∀ g ∈ idsL (cDb y5),g < hs5:=fun g hg=>hr5 g (by first | (rw [ids_agg]; exact hg) | (simpa only [V.ids,idsL_cS] using hg))
 simp at hn5
 have e5 : wtTDb y5 = wtTDb a:=by rw [wtTDb_pl,wtTDb_pl,p5]
 simp [s6_18,s6_20,s6_22,cDb,cDec,cI,cQuery,cReln,cS,cI,cS]
 refine call_some (w_laws_toQuery b k_b (by omega)) rfl (by simp) fun n6 hs6 r6 hn6 hm6 hp6 hr6=>?_
 obtain ⟨y6,rfl,p6,k6,G6⟩:=hp6
 have u6 : ∀ g ∈ idsL (cQuery y6),g < hs6:=fun g hg=>hr6 g (by first | (rw [ids_agg]; exact hg) | (simpa only [V.ids,idsL_cS] using hg))
 simp at hn6
 have e6 : wtTQuery y6 = wtTQuery b:=by rw [wtTQuery_pl,wtTQuery_pl,p6]
 simp [s6_18,s6_20,s6_22,cDb,cDec,cI,cQuery,cReln,cS,cI,cS]
 refine call_some (w_laws_toDecomposition x k_x (by omega)) rfl (by simp) fun n7 hs7 r7 hn7 hm7 hp7 hr7=>?_
 obtain ⟨y7,rfl,p7,k7,G7⟩:=hp7
 have u7 : ∀ g ∈ idsL (cDec y7),g < hs7:=fun g hg=>hr7 g (by first | (rw [ids_agg]; exact hg) | (simpa only [V.ids,idsL_cS] using hg))
 simp at hn7
 have e7 : wtTDec y7 = wtTDec x:=by rw [wtTDec_pl,wtTDec_pl,p7]
 simp [s6_18,s6_20,s6_22,cDb,cDec,cI,cQuery,cReln,cS,cI,cS]
 refine call_some (t_impl_EvaluateByDecomposition y5 y6 y7 (hln _ p7).1) rfl (by simp) fun n8 hs8 r8 hn8 hm8 hp8 hr8=>?_
 obtain ⟨g0,rfl,pg0,kg0,Gg0⟩:=hp8
 have ug0 : ∀ g ∈ idsL (cReln g0),g < hs8:=fun g hg=>hr8 g (by simp only [V.ids,idsVL,ids_agg,idsVL_map_d,idsL_cS,List.mem_append] at hg ⊢; simp [hg])
 have lg0:=Gg0.lo
 simp only [p5] at pg0
 simp only [p6] at pg0
 simp only [p7] at pg0
 simp at hn8
 simp [s6_18,s6_20,s6_22,cDb,cDec,cI,cQuery,cReln,cS,cI,cS,p5,p6,p7]
 have hbg0 : 1 + (wtTReln g0 : Int) <= 4611686018427387904:=by
  rw [wtTReln_pl,pg0]
  have:=wp_ev (plDb a) (plQuery b) (plDec x); omega
 refine call_pure (w_laws_eqRelation g0 w0 kg0) rfl (by simp) rfl fun hs9 hh9=>?_
 simp at hh9
 simp [s6_18,s6_20,s6_22,cDb,cDec,cI,cQuery,cReln,cS,cI,cS,pg0,pw0]
 refine call_some (w_laws_toDatabase a k_a (by omega)) rfl (by simp) fun n10 hs10 r10 hn10 hm10 hp10 hr10=>?_
 obtain ⟨y10,rfl,p10,k10,G10⟩:=hp10
 have u10 : ∀ g ∈ idsL (cDb y10),g < hs10:=fun g hg=>hr10 g (by first | (rw [ids_agg]; exact hg) | (simpa only [V.ids,idsL_cS] using hg))
 simp at hn10
 have e10 : wtTDb y10 = wtTDb a:=by rw [wtTDb_pl,wtTDb_pl,p10]
 simp [s6_18,s6_20,s6_22,cDb,cDec,cI,cQuery,cReln,cS,cI,cS]
 refine call_pure (w_laws_eqDatabase y5 y10 k5) rfl (by simp) rfl fun hs11 hh11=>?_
 simp at hh11
 simp [s6_18,s6_20,s6_22,cDb,cDec,cI,cQuery,cReln,cS,cI,cS,p5,p10]
 refine call_some (w_laws_toQuery b k_b (by omega)) rfl (by simp) fun n12 hs12 r12 hn12 hm12 hp12 hr12=>?_
 obtain ⟨y12,rfl,p12,k12,G12⟩:=hp12
 have u12 : ∀ g ∈ idsL (cQuery y12),g < hs12:=fun g hg=>hr12 g (by first | (rw [ids_agg]; exact hg) | (simpa only [V.ids,idsL_cS] using hg))
 simp at hn12
 have e12 : wtTQuery y12 = wtTQuery b:=by rw [wtTQuery_pl,wtTQuery_pl,p12]
 simp [s6_18,s6_20,s6_22,cDb,cDec,cI,cQuery,cReln,cS,cI,cS]
 refine call_pure (w_laws_eqQuery y6 y12 k6) rfl (by simp) rfl fun hs13 hh13=>?_
 simp at hh13
 simp [s6_18,s6_20,s6_22,cDb,cDec,cI,cQuery,cReln,cS,cI,cS,p6,p12]
 refine call_some (w_laws_toDecomposition x k_x (by omega)) rfl (by simp) fun n14 hs14 r14 hn14 hm14 hp14 hr14=>?_
 obtain ⟨y14,rfl,p14,k14,G14⟩:=hp14
 have u14 : ∀ g ∈ idsL (cDec y14),g < hs14:=fun g hg=>hr14 g (by first | (rw [ids_agg]; exact hg) | (simpa only [V.ids,idsL_cS] using hg))
 simp at hn14
 have e14 : wtTDec y14 = wtTDec x:=by rw [wtTDec_pl,wtTDec_pl,p14]
 simp [s6_18,s6_20,s6_22,cDb,cDec,cI,cQuery,cReln,cS,cI,cS]
 refine call_pure (w_laws_eqDecomposition y7 y14 k7) rfl (by simp) rfl fun hs15 hh15=>?_
 simp at hh15
 simp [s6_18,s6_20,s6_22,cDb,cDec,cI,cQuery,cReln,cS,cI,cS,p7,p14]
 refine call_x (E18) (by simp) (by simp) (by simp) (fun q hq=>.inl ?_) (w_laws_markDatabase y5 (1) (by omega) (by omega) G5.wh k5 G5.nd) fun n16 hs16 r16 cs16 ws16 hn16 hm16 hp16 hr16 hw16=>?_
 ·have:=G5.lo q (by simpa only [idsL_cS] using hq)
  show B <= q
  omega
 obtain ⟨rfl,rfl⟩:=hp16
 simp at hn16
 have hre16 : reL (phi (idsL (cDb y5)) (cDb (mkTDb y5 (1)))) (cDb y5) = some (cDb (mkTDb y5 (1))):=re_sim (simT_Db G5.wh _) (marksTDb.ids _ _) G5.nd
 have ho16_a : reL (phi (idsL (cDb y5)) (cDb (mkTDb y5 (1)))) (cDb a) = some (cDb a):=re_same fun g hg h=>by
  skip
  have h1:=G5.lo g (by simpa only [idsL_cS] using hg); have h2:=ua_a g h; omega
 have ho16_b : reL (phi (idsL (cDb y5)) (cDb (mkTDb y5 (1)))) (cQuery b) = some (cQuery b):=re_same fun g hg h=>by
  skip
  have h1:=G5.lo g (by simpa only [idsL_cS] using hg); have h2:=ua_b g h; omega
 have ho16_x : reL (phi (idsL (cDb y5)) (cDb (mkTDb y5 (1)))) (cDec x) = some (cDec x):=re_same fun g hg h=>by
  skip
  have h1:=G5.lo g (by simpa only [idsL_cS] using hg); have h2:=ua_x g h; omega
 have ho16_w0 : reL (phi (idsL (cDb y5)) (cDb (mkTDb y5 (1)))) (cReln w0) = some (cReln w0):=re_same fun g hg h=>by
  skip
  have h1:=G5.lo g (by simpa only [idsL_cS] using hg); have h2:=uw0 g h; omega
 have ho16_g0 : reL (phi (idsL (cDb y5)) (cDb (mkTDb y5 (1)))) (cReln g0) = some (cReln g0):=re_same fun g hg h=>by
  skip
  have h1:=u5 g (by simpa only [idsL_cS] using hg); have h2:=lg0 g h; omega
 have ho16_y6 : reL (phi (idsL (cDb y5)) (cDb (mkTDb y5 (1)))) (cQuery y6) = some (cQuery y6):=re_same fun g hg h=>by
  skip
  have h1:=u5 g (by simpa only [idsL_cS] using hg); have h2:=(G6.lo) g h; omega
 have ho16_y7 : reL (phi (idsL (cDb y5)) (cDb (mkTDb y5 (1)))) (cDec y7) = some (cDec y7):=re_same fun g hg h=>by
  skip
  have h1:=u5 g (by simpa only [idsL_cS] using hg); have h2:=(G7.lo) g h; omega
 replace hre16:=reVL_map hre16
 replace ho16_a:=reVL_map ho16_a
 replace ho16_b:=reVL_map ho16_b
 replace ho16_x:=reVL_map ho16_x
 replace ho16_w0:=reVL_map ho16_w0
 replace ho16_g0:=reVL_map ho16_g0
 replace ho16_y6:=reVL_map ho16_y6
 replace ho16_y7:=reVL_map ho16_y7
 simp only [s6_18,s6_20,s6_22,cDb,cDec,cI,cQuery,cReln,cS,cI,cS,List.cons_append,List.nil_append,List.map_cons,List.map_nil,reVL_cons,reVL_nil,List.cons.injEq,and_true,reV_int,reV_str,true_and,mkTAtom,mkTDb,mkTDec,mkTQuery,mkTReln,mkTTab] at hre16 ho16_a ho16_b ho16_x ho16_w0 ho16_g0 ho16_y6 ho16_y7
 simp [hre16,ho16_a,ho16_b,ho16_x,ho16_w0,ho16_g0,ho16_y6,ho16_y7,s6_18,s6_20,s6_22,cDb,cDec,cI,cQuery,cReln,cS,cI,cS,mkTAtom,mkTDb,mkTDec,mkTQuery,mkTReln,mkTTab,show ¬ (1 + wtTDb y5 : Int) < 0 by omega,show (0 : Int) <= 1 + wtTDb y5 by omega]
 refine call_x (E19) (by simp) (by simp) (by simp) (fun q hq=>.inl ?_) (w_laws_markQuery y6 (1 + wtTDb y5) (by omega) (by omega) G6.wh k6 G6.nd) fun n17 hs17 r17 cs17 ws17 hn17 hm17 hp17 hr17 hw17=>?_
 ·have:=G6.lo q (by simpa only [idsL_cS] using hq)
  show B <= q
  omega
 obtain ⟨rfl,rfl⟩:=hp17
 simp at hn17
 have hre17 : reL (phi (idsL (cQuery y6)) (cQuery (mkTQuery y6 (1 + wtTDb y5)))) (cQuery y6) = some (cQuery (mkTQuery y6 (1 + wtTDb y5))):=re_sim (simT_Query G6.wh _) (marksTQuery.ids _ _) G6.nd
 have ho17_a : reL (phi (idsL (cQuery y6)) (cQuery (mkTQuery y6 (1 + wtTDb y5)))) (cDb a) = some (cDb a):=re_same fun g hg h=>by
  skip
  have h1:=G6.lo g (by simpa only [idsL_cS] using hg); have h2:=ua_a g h; omega
 have ho17_b : reL (phi (idsL (cQuery y6)) (cQuery (mkTQuery y6 (1 + wtTDb y5)))) (cQuery b) = some (cQuery b):=re_same fun g hg h=>by
  skip
  have h1:=G6.lo g (by simpa only [idsL_cS] using hg); have h2:=ua_b g h; omega
 have ho17_x : reL (phi (idsL (cQuery y6)) (cQuery (mkTQuery y6 (1 + wtTDb y5)))) (cDec x) = some (cDec x):=re_same fun g hg h=>by
  skip
  have h1:=G6.lo g (by simpa only [idsL_cS] using hg); have h2:=ua_x g h; omega
 have ho17_w0 : reL (phi (idsL (cQuery y6)) (cQuery (mkTQuery y6 (1 + wtTDb y5)))) (cReln w0) = some (cReln w0):=re_same fun g hg h=>by
  skip
  have h1:=G6.lo g (by simpa only [idsL_cS] using hg); have h2:=uw0 g h; omega
 have ho17_g0 : reL (phi (idsL (cQuery y6)) (cQuery (mkTQuery y6 (1 + wtTDb y5)))) (cReln g0) = some (cReln g0):=re_same fun g hg h=>by
  skip
  have h1:=u6 g (by simpa only [idsL_cS] using hg); have h2:=lg0 g h; omega
 have ho17_y5 : reL (phi (idsL (cQuery y6)) (cQuery (mkTQuery y6 (1 + wtTDb y5)))) (cDb (mkTDb y5 (1))) = some (cDb (mkTDb y5 (1))):=re_same fun g hg h=>by
  rw [marksTDb.ids] at h
  have h1:=G6.lo g (by simpa only [idsL_cS] using hg); have h2:=u5 g h; omega
 have ho17_y7 : reL (phi (idsL (cQuery y6)) (cQuery (mkTQuery y6 (1 + wtTDb y5)))) (cDec y7) = some (cDec y7):=re_same fun g hg h=>by
  skip
  have h1:=u6 g (by simpa only [idsL_cS] using hg); have h2:=(G7.lo) g h; omega
 replace hre17:=reVL_map hre17
 replace ho17_a:=reVL_map ho17_a
 replace ho17_b:=reVL_map ho17_b
 replace ho17_x:=reVL_map ho17_x
 replace ho17_w0:=reVL_map ho17_w0
 replace ho17_g0:=reVL_map ho17_g0
 replace ho17_y5:=reVL_map ho17_y5
 replace ho17_y7:=reVL_map ho17_y7
 simp only [s6_18,s6_20,s6_22,cDb,cDec,cI,cQuery,cReln,cS,cI,cS,List.cons_append,List.nil_append,List.map_cons,List.map_nil,reVL_cons,reVL_nil,List.cons.injEq,and_true,reV_int,reV_str,true_and,mkTAtom,mkTDb,mkTDec,mkTQuery,mkTReln,mkTTab] at hre17 ho17_a ho17_b ho17_x ho17_w0 ho17_g0 ho17_y5 ho17_y7
 simp [hre17,ho17_a,ho17_b,ho17_x,ho17_w0,ho17_g0,ho17_y5,ho17_y7,s6_18,s6_20,s6_22,cDb,cDec,cI,cQuery,cReln,cS,cI,cS,mkTAtom,mkTDb,mkTDec,mkTQuery,mkTReln,mkTTab,show ¬ (1 + wtTDb y5 + wtTQuery y6 : Int) < 0 by omega,show (0 : Int) <= 1 + wtTDb y5 + wtTQuery y6 by omega]
 refine call_x (E28) (by simp) (by simp) (by simp) (fun q hq=>.inl ?_) (w_laws_markDecomposition y7 (1 + wtTDb y5 + wtTQuery y6) (by omega) (by omega) G7.wh k7 G7.nd) fun n18 hs18 r18 cs18 ws18 hn18 hm18 hp18 hr18 hw18=>?_
 ·have:=G7.lo q (by simpa only [idsL_cS] using hq)
  show B <= q
  omega
 obtain ⟨rfl,rfl⟩:=hp18
 simp at hn18
 have hre18 : reL (phi (idsL (cDec y7)) (cDec (mkTDec y7 (1 + wtTDb y5 + wtTQuery y6)))) (cDec y7) = some (cDec (mkTDec y7 (1 + wtTDb y5 + wtTQuery y6))):=re_sim (simT_Dec G7.wh _) (marksTDec.ids _ _) G7.nd
 have ho18_a : reL (phi (idsL (cDec y7)) (cDec (mkTDec y7 (1 + wtTDb y5 + wtTQuery y6)))) (cDb a) = some (cDb a):=re_same fun g hg h=>by
  skip
  have h1:=G7.lo g (by simpa only [idsL_cS] using hg); have h2:=ua_a g h; omega
 have ho18_b : reL (phi (idsL (cDec y7)) (cDec (mkTDec y7 (1 + wtTDb y5 + wtTQuery y6)))) (cQuery b) = some (cQuery b):=re_same fun g hg h=>by
  skip
  have h1:=G7.lo g (by simpa only [idsL_cS] using hg); have h2:=ua_b g h; omega
 have ho18_x : reL (phi (idsL (cDec y7)) (cDec (mkTDec y7 (1 + wtTDb y5 + wtTQuery y6)))) (cDec x) = some (cDec x):=re_same fun g hg h=>by
  skip
  have h1:=G7.lo g (by simpa only [idsL_cS] using hg); have h2:=ua_x g h; omega
 have ho18_w0 : reL (phi (idsL (cDec y7)) (cDec (mkTDec y7 (1 + wtTDb y5 + wtTQuery y6)))) (cReln w0) = some (cReln w0):=re_same fun g hg h=>by
  skip
  have h1:=G7.lo g (by simpa only [idsL_cS] using hg); have h2:=uw0 g h; omega
 have ho18_g0 : reL (phi (idsL (cDec y7)) (cDec (mkTDec y7 (1 + wtTDb y5 + wtTQuery y6)))) (cReln g0) = some (cReln g0):=re_same fun g hg h=>by
  skip
  have h1:=u7 g (by simpa only [idsL_cS] using hg); have h2:=lg0 g h; omega
 have ho18_y5 : reL (phi (idsL (cDec y7)) (cDec (mkTDec y7 (1 + wtTDb y5 + wtTQuery y6)))) (cDb (mkTDb y5 (1))) = some (cDb (mkTDb y5 (1))):=re_same fun g hg h=>by
  rw [marksTDb.ids] at h
  have h1:=G7.lo g (by simpa only [idsL_cS] using hg); have h2:=u5 g h; omega
 have ho18_y6 : reL (phi (idsL (cDec y7)) (cDec (mkTDec y7 (1 + wtTDb y5 + wtTQuery y6)))) (cQuery (mkTQuery y6 (1 + wtTDb y5))) = some (cQuery (mkTQuery y6 (1 + wtTDb y5))):=re_same fun g hg h=>by
  rw [marksTQuery.ids] at h
  have h1:=G7.lo g (by simpa only [idsL_cS] using hg); have h2:=u6 g h; omega
 replace hre18:=reVL_map hre18
 replace ho18_a:=reVL_map ho18_a
 replace ho18_b:=reVL_map ho18_b
 replace ho18_x:=reVL_map ho18_x
 replace ho18_w0:=reVL_map ho18_w0
 replace ho18_g0:=reVL_map ho18_g0
 replace ho18_y5:=reVL_map ho18_y5
 replace ho18_y6:=reVL_map ho18_y6
 simp only [s6_18,s6_20,s6_22,cDb,cDec,cI,cQuery,cReln,cS,cI,cS,List.cons_append,List.nil_append,List.map_cons,List.map_nil,reVL_cons,reVL_nil,List.cons.injEq,and_true,reV_int,reV_str,true_and,mkTAtom,mkTDb,mkTDec,mkTQuery,mkTReln,mkTTab] at hre18 ho18_a ho18_b ho18_x ho18_w0 ho18_g0 ho18_y5 ho18_y6
 simp [hre18,ho18_a,ho18_b,ho18_x,ho18_w0,ho18_g0,ho18_y5,ho18_y6,s6_18,s6_20,s6_22,cDb,cDec,cI,cQuery,cReln,cS,cI,cS,mkTAtom,mkTDb,mkTDec,mkTQuery,mkTReln,mkTTab,show ¬ (1 + wtTDb y5 + wtTQuery y6 + wtTDec y7 : Int) < 0 by omega,show (0 : Int) <= 1 + wtTDb y5 + wtTQuery y6 + wtTDec y7 by omega]
 try simp [show ¬ (1 + wtTDb y5 + wtTQuery y6 + wtTDec y7 : Int) < 0 by omega,show (0 : Int) <= 1 + wtTDb y5 + wtTQuery y6 + wtTDec y7 by omega]
 refine call_pure (w_laws_eqRelation g0 w0 kg0) rfl (by simp) rfl fun hs19 hh19=>?_
 simp at hh19
 simp [s6_18,s6_20,s6_22,cDb,cDec,cI,cQuery,cReln,cS,cI,cS,pg0,pw0]
 refine call_x (E38) (by simp) (by simp) (by simp) (fun q hq=>.inl ?_) (w_laws_markRelation g0 (1) (by omega) (by omega) Gg0.wh kg0 Gg0.nd) fun n20 hs20 r20 cs20 ws20 hn20 hm20 hp20 hr20 hw20=>?_
 ·have:=Gg0.lo q (by simpa only [idsL_cS] using hq)
  show B <= q
  omega
 obtain ⟨rfl,rfl⟩:=hp20
 simp at hn20
 have hre20 : reL (phi (idsL (cReln g0)) (cReln (mkTReln g0 (1)))) (cReln g0) = some (cReln (mkTReln g0 (1))):=re_sim (simT_Reln Gg0.wh _) (marksTReln.ids _ _) Gg0.nd
 have ho20_a : reL (phi (idsL (cReln g0)) (cReln (mkTReln g0 (1)))) (cDb a) = some (cDb a):=re_same fun g hg h=>by
  skip
  have h1:=Gg0.lo g (by simpa only [idsL_cS] using hg); have h2:=ua_a g h; omega
 have ho20_b : reL (phi (idsL (cReln g0)) (cReln (mkTReln g0 (1)))) (cQuery b) = some (cQuery b):=re_same fun g hg h=>by
  skip
  have h1:=Gg0.lo g (by simpa only [idsL_cS] using hg); have h2:=ua_b g h; omega
 have ho20_x : reL (phi (idsL (cReln g0)) (cReln (mkTReln g0 (1)))) (cDec x) = some (cDec x):=re_same fun g hg h=>by
  skip
  have h1:=Gg0.lo g (by simpa only [idsL_cS] using hg); have h2:=ua_x g h; omega
 have ho20_w0 : reL (phi (idsL (cReln g0)) (cReln (mkTReln g0 (1)))) (cReln w0) = some (cReln w0):=re_same fun g hg h=>by
  skip
  have h1:=Gg0.lo g (by simpa only [idsL_cS] using hg); have h2:=uw0 g h; omega
 have ho20_y5 : reL (phi (idsL (cReln g0)) (cReln (mkTReln g0 (1)))) (cDb (mkTDb y5 (1))) = some (cDb (mkTDb y5 (1))):=re_same fun g hg h=>by
  rw [marksTDb.ids] at h
  have h1:=Gg0.lo g (by simpa only [idsL_cS] using hg); have h2:=u5 g h; omega
 have ho20_y6 : reL (phi (idsL (cReln g0)) (cReln (mkTReln g0 (1)))) (cQuery (mkTQuery y6 (1 + wtTDb y5))) = some (cQuery (mkTQuery y6 (1 + wtTDb y5))):=re_same fun g hg h=>by
  rw [marksTQuery.ids] at h
  have h1:=Gg0.lo g (by simpa only [idsL_cS] using hg); have h2:=u6 g h; omega
 have ho20_y7 : reL (phi (idsL (cReln g0)) (cReln (mkTReln g0 (1)))) (cDec (mkTDec y7 (1 + wtTDb y5 + wtTQuery y6))) = some (cDec (mkTDec y7 (1 + wtTDb y5 + wtTQuery y6))):=re_same fun g hg h=>by
  rw [marksTDec.ids] at h
  have h1:=Gg0.lo g (by simpa only [idsL_cS] using hg); have h2:=u7 g h; omega
 replace hre20:=reVL_map hre20
 replace ho20_a:=reVL_map ho20_a
 replace ho20_b:=reVL_map ho20_b
 replace ho20_x:=reVL_map ho20_x
 replace ho20_w0:=reVL_map ho20_w0
 replace ho20_y5:=reVL_map ho20_y5
 replace ho20_y6:=reVL_map ho20_y6
 replace ho20_y7:=reVL_map ho20_y7
 simp only [s6_18,s6_20,s6_22,cDb,cDec,cI,cQuery,cReln,cS,cI,cS,List.cons_append,List.nil_append,List.map_cons,List.map_nil,reVL_cons,reVL_nil,List.cons.injEq,and_true,reV_int,reV_str,true_and,mkTAtom,mkTDb,mkTDec,mkTQuery,mkTReln,mkTTab] at hre20 ho20_a ho20_b ho20_x ho20_w0 ho20_y5 ho20_y6 ho20_y7
 simp [hre20,ho20_a,ho20_b,ho20_x,ho20_w0,ho20_y5,ho20_y6,ho20_y7,s6_18,s6_20,s6_22,cDb,cDec,cI,cQuery,cReln,cS,cI,cS,mkTAtom,mkTDb,mkTDec,mkTQuery,mkTReln,mkTTab,show ¬ (1 + wtTReln g0 : Int) < 0 by omega,show (0 : Int) <= 1 + wtTReln g0 by omega]
 refine call_pure (w_laws_heldRelation (mkTReln g0 (1)) (1) (by omega) (by rw [marksTReln.wt]; omega) (ok_mkTReln _ _ kg0)) rfl (by simp) rfl fun hs21 hh21=>?_
 simp at hh21
 rw [marksTReln.hl,marksTReln.wt]
 simp [show ¬ (1 + wtTReln g0 : Int) < 0 by omega]
 refine cutT (X:=Reln) (fun h0 _=>plReln h0 = evP (plDb a) (plQuery b) (plDec x) /\ okReln h0) (fun h0=>[(8,.ptr 8 0 0),(13,.ptr 13 0 0),(18,.ptr 18 0 0),(9,.d (.bool (evB (plDb a) (plQuery b) (plDec x)))),(14,.d (.bool (evB (plDb a) (plQuery b) (plDec x)))),(19,.d (.bool (evB (plDb a) (plQuery b) (plDec x)))),(16,.d (.int .i64 (1 + wtTReln g0)))]) (fun h0=>[(8,some (.box ((cReln w0).map V.d))),(13,some (.box ((cReln (mkTReln g0 (1))).map V.d))),(18,some (.box ((cReln h0).map V.d)))]) ?_ ?_
 ·intro K hK
  simp [s6_38,cDb,cDec,cI,cQuery,cReln,cS,cI,cS]
  repeat' apply And.intro
  all_goals
   refine call_some (w_laws_toDatabase a k_a (by omega)) rfl (by simp) fun n22 hs22 r22 hn22 hm22 hp22 hr22=>?_
   obtain ⟨y22,rfl,p22,k22,G22⟩:=hp22
   have u22 : ∀ g ∈ idsL (cDb y22),g < hs22:=fun g hg=>hr22 g (by first | (rw [ids_agg]; exact hg) | (simpa only [V.ids,idsL_cS] using hg))
   simp at hn22
   have e22 : wtTDb y22 = wtTDb a:=by rw [wtTDb_pl,wtTDb_pl,p22]
   simp [s6_18,s6_20,s6_22,cDb,cDec,cI,cQuery,cReln,cS,cI,cS]
   repeat' apply And.intro
   all_goals
    refine call_some (w_laws_toQuery b k_b (by omega)) rfl (by simp) fun n23 hs23 r23 hn23 hm23 hp23 hr23=>?_
    obtain ⟨y23,rfl,p23,k23,G23⟩:=hp23
    have u23 : ∀ g ∈ idsL (cQuery y23),g < hs23:=fun g hg=>hr23 g (by first | (rw [ids_agg]; exact hg) | (simpa only [V.ids,idsL_cS] using hg))
    simp at hn23
    have e23 : wtTQuery y23 = wtTQuery b:=by rw [wtTQuery_pl,wtTQuery_pl,p23]
    simp [s6_18,s6_20,s6_22,cDb,cDec,cI,cQuery,cReln,cS,cI,cS]
    repeat' apply And.intro
    all_goals
     refine call_some (w_laws_toDecomposition x k_x (by omega)) rfl (by simp) fun n24 hs24 r24 hn24 hm24 hp24 hr24=>?_
     obtain ⟨y24,rfl,p24,k24,G24⟩:=hp24
     have u24 : ∀ g ∈ idsL (cDec y24),g < hs24:=fun g hg=>hr24 g (by first | (rw [ids_agg]; exact hg) | (simpa only [V.ids,idsL_cS] using hg))
     simp at hn24
     have e24 : wtTDec y24 = wtTDec x:=by rw [wtTDec_pl,wtTDec_pl,p24]
     simp [s6_18,s6_20,s6_22,cDb,cDec,cI,cQuery,cReln,cS,cI,cS]
     repeat' apply And.intro
     all_goals
      refine call_some (t_impl_EvaluateByDecomposition y22 y23 y24 (hln _ p24).1) rfl (by simp) fun n25 hs25 r25 hn25 hm25 hp25 hr25=>?_
      obtain ⟨h0,rfl,ph0,kh0,Gh0⟩:=hp25
      have uh0 : ∀ g ∈ idsL (cReln h0),g < hs25:=fun g hg=>hr25 g (by simp only [V.ids,idsVL,ids_agg,idsVL_map_d,idsL_cS,List.mem_append] at hg ⊢; simp [hg])
      have lh0:=Gh0.lo
      simp only [p22] at ph0
      simp only [p23] at ph0
      simp only [p24] at ph0
      simp at hn25
      simp [s6_18,s6_20,s6_22,cDb,cDec,cI,cQuery,cReln,cS,cI,cS,p22,p23,p24]
      exact hK h0 _ ⟨ph0,kh0⟩ rfl rfl (by simp <;> omega) (by simp [cDb,cDec,cI,cQuery,cReln,cS,cI,cS,mkTAtom,mkTDb,mkTDec,mkTQuery,mkTReln,mkTTab,p22,p23,p24]) (by simp [cDb,cDec,cI,cQuery,cReln,cS,cI,cS,mkTAtom,mkTDb,mkTDec,mkTQuery,mkTReln,mkTTab])
 intro h0 hsh th mh hh hhh
 obtain ⟨ph0,kh0⟩:=hh
 simp [s6_18,s6_20,s6_22,cDb,cDec,cI,cQuery,cReln,cS,cI,cS,mkTAtom,mkTDb,mkTDec,mkTQuery,mkTReln,mkTTab]
 refine call_pure (w_laws_eqRelation h0 w0 kh0) rfl (by simp) rfl fun hs26 hh26=>?_
 simp at hh26
 simp [s6_18,s6_20,s6_22,cDb,cDec,cI,cQuery,cReln,cS,cI,cS,ph0,pw0]
 refine call_pure (w_laws_heldRelation (mkTReln g0 (1)) (1) (by omega) (by rw [marksTReln.wt]; omega) (ok_mkTReln _ _ kg0)) rfl (by simp) rfl fun hs27 hh27=>?_
 simp at hh27
 rw [marksTReln.hl,marksTReln.wt]
 simp [show ¬ (1 + wtTReln g0 : Int) < 0 by omega]
end Go.Proofs.YtglilmkmkdkedaaGreatDoor
