/-
  A part of a proof of this seat: a value-level semantics of Go code without maps, walks, plain lemmas. It holds of all that its hypotheses name.
-/
import Derived.Test.YtgjfmjiildjelaaGreatDoorDJ1B1
set_option linter.unusedSimpArgs false
set_option linter.unusedVariables false
set_option linter.unnecessarySimpa false
namespace Go.Proofs.YtgjfmjiildjelaaGreatDoor
open Go.Vs Go.Proofs Go
set_option maxRecDepth 100000
set_option maxHeartbeats 1000000
section
attribute [local simp] aR aC ax ay pS cP cI cStr
theorem Bm {a : aH} (h1 : a.rel.length <= 1000000) (h2 : a.vars.length <= 1000000) : (fmtA a).length <= 2000010:=by
 have:=jd a.vars
 simp only [fmtA,Qw,List.length_singleton]; omega
theorem lW (q : ab) (hst : ∀ a ∈ q.atoms,a.rel.length <= maxLen) : VC Tryz.prog 130 [.agg ((au q).map V.d)] (fun _ r=>r = .d (.str (fmtQ q))):=by
 refine VC.ofL EP s130 Tryz.func130 fun B hl=>?_
 obtain ⟨n,l,o⟩:=q
 simp only at hst
 have hF : fmtQ ⟨n,l,o⟩ = if aw ⟨n,l,o⟩ then ([40] ++ jc o ++ [41]) ++ [61] ++ ir [44] (l.map fmtA) else []:=rfl
 simp [Tryz.f130,au]
 refine ag (bf ⟨n,l,o⟩ hst) (by simp [au]) rfl fun hs1 hh1=>?_
 simp at hh1
 cases hq : aw ⟨n,l,o⟩
 ·rw [if_neg (by rw [hq]; simp)] at hF
  simp [hF,au]
 rw [if_pos hq] at hF
 have hqb:=dG hq
 obtain ⟨hl4,ho5,hat⟩:=hqb
 simp only at hl4 ho5 hat
 have hvo:=jd o
 have hfl : ∀ a ∈ l,(fmtA a).length <= 2000010:=fun a ha=>by
  have:=hat a ha
  exact Bm (by omega) (by omega)
 simp [au]
 refine ag (iI o (by omega)) (by simp) rfl fun hs2 hh2=>?_
 simp at hh2
 simp [au]
 refine ⟨by omega,?_⟩
 obtain ⟨H,hH⟩ : ∃ H,H = ([40] ++ jc o ++ [41]) ++ [61]:=⟨_,rfl⟩
 have hHl : H.length <= 100:=by rw [hH]; simp; omega
 refine ae (X:=Nat) (fun i=>i <= l.length) (fun i=>[(1,.ptr 1 0 0),(3,.d (.str (H ++ ir [44] ((l.take i).map fmtA)))),(4,.d (.int .i64 i))]) (fun i=>[(1,some (.box [.d (.int .i64 n),.d (.pl (l.map aB)),.d (.pl (o.map cI))]))]) (fun i=>l.length - i) 0 (by simp) (by simp [ir,hH]) (by simp) ?_
 intro i hs t m hi hh
 by_cases hlt : i < l.length
 ·have hwi:=wr1 (i:=i) (by omega)
  have hjl:=zw [44] ((l.take i).map fmtA)
  have hst:=uZ fmtA 1 2000010 (l.take i) fun a ha=>hfl a (List.mem_of_mem_take ha)
  rw [Zq] at hst
  have hstp:=wj (sep:=[44]) (l:=l.map fmtA) (i:=i) (by simpa using hlt)
  rw [show (l.map fmtA).take i = (l.take i).map fmtA from List.map_take.symm,List.getElem_map] at hstp
  have hw1 : IntKind.i64.wrap 1 = 1:=aj (by omega) (by omega)
  have hm:=Jy hlt
  obtain ⟨ar,av,hA⟩ : ∃ ar av,l[i] = ⟨ar,av⟩:=⟨_,_,rfl⟩
  rw [hA] at hm hstp
  have hab:=hat _ hm
  simp only at hab
  have hvl:=jd av
  obtain ⟨J,hJ⟩ : ∃ J,J = ir [44] ((l.take i).map fmtA):=⟨_,rfl⟩
  rw [<- hJ] at hstp hjl ⊢
  simp only [List.length_singleton] at hjl
  have hJl : J.length <= 10000000:=by
   have : (2000010 + 1) * min i l.length <= 2000011 * 4:=Nat.mul_le_mul (Jv _) (by omega)
   omega
  refine anyQ fun Q=>?_
  by_cases h0 : i = 0
  ·subst h0
   simp [hlt,hA,aB,au]
   repeat' apply And.intro
   all_goals (try omega)
   all_goals
    refine ag (iI av (by omega)) (by simp) rfl fun hs4 hh4=>?_
    simp at hh4
    simp [hlt,hwi,hA,aB,au]
    repeat' apply And.intro
    all_goals (try omega)
    all_goals exact back (0 + 1) (by omega) (by omega) rfl (by simp <;> omega) (by simp [hstp,hw1,fmtA]) (by simp)
  ·have h0' : 0 < i:=by omega
   simp [hlt,h0',hA,aB,au]
   repeat' apply And.intro
   all_goals (try omega)
   all_goals
    refine ag (iI av (by omega)) (by simp) rfl fun hs4 hh4=>?_
    simp at hh4
    simp [hlt,hwi,hA,aB,au]
    repeat' apply And.intro
    all_goals (try omega)
    all_goals exact back (i + 1) (by omega) (by omega) rfl (by simp <;> omega) (by simp [hstp,h0,fmtA]) (by simp)
 ·simp [hlt,hF,Jj (show l.length <= i by omega),hH,au]
end
section
attribute [local simp] aR aC ax ay pS cP cI cStr
theorem ES (nm : List UInt8) (y : Ints) (l : List UInt8) (h1 : nm = (cutB 40 l).getD 0 []) (h2 : y.xs = lstV l) : cr ⟨nm,y⟩ = prsA l:=by
 simp only [cr,prsA,plS,aC,ax,h1,h2]
theorem sL {P : Program} {E : Md} {sc : Nat -> Tr} {a b : Code} {Q : Exit -> St -> Prop} {σ : St} (h : ∀ b',vwp P E sc (a.seq b') Q σ) : vwp P E sc (a.seq b) Q σ:=h b
theorem Ec {α β : Type} {c : α -> List D} {wh : α -> Prop} {ok : α -> Prop} {pl : α -> β} {l : List β} {B : Nat} {p : Nat × List α} {h h' : Nat} (H : CopI c wh ok pl l B p h) (hh : h <= h') : CopI c wh ok pl l B p h':=
 ⟨H.le,H.pl,H.ok,⟨H.good.nd,H.good.lo,fun g hg=>Xq (H.good.hi g hg) hh,H.good.wh⟩⟩
theorem l8 (s : List UInt8) (hb : s.length <= 1000) : VC Tryz.prog 103 [.d (.str s)]
  (fun n v=>∃ y : dQ,v = .tup [.agg ((az y).map V.d),.d (.bool (nU s))] /\ aO y = prsP s /\ ec y /\ Good (az y) (mT y) n /\ (∀ g,y.atoms.id = some g -> y.atoms.T = some (78,2)) /\ (∀ g,y.out.id = some g -> y.out.T = some (3,1))):=by
 refine VC.of E s103 Tryz.func103 fun B=>?_
 have h0 : ∀ n : Nat,aO ⟨0,nilS,nilS⟩ = ⟨0,[],[]⟩ /\ ec ⟨0,nilS,nilS⟩ /\ Good (az ⟨0,nilS,nilS⟩) (mT ⟨0,nilS,nilS⟩) n:=fun n=>
  ⟨by simp [aO,nilS,plS],⟨trivial,ch,ch⟩,by simp [az,cCnt,nilS,cS,cI,dSl,idsL,D.ids,idsLL],by simp [az,cCnt,nilS,cS,cI,dSl,idsL,D.ids,idsLL],⟨trivial,⟨⟨by simp [nilS],by simp [nilS]⟩,by simp [nilS]⟩,⟨⟨by simp [nilS],by simp [nilS]⟩,by simp [nilS]⟩⟩⟩
 simp [Tryz.f103,cD,cD]
 refine bb (VC.track (ju s 61 (by omega)) (by simp) (by simp [V.pn])) (by simp) (by simp) fun n1 hs1 r1 hn1 hm1 hp1 hr1=>?_
 obtain ⟨hq1,ht1⟩:=hp1
 obtain ⟨⟨wid,wT,w⟩,rfl,pw⟩:=uV wO hq1 ht1
 have pw : w = cutB 61 s:=by simpa [plS] using pw
 simp at hn1
 have hB : nU s = (decide (w.length = 2) && decide (fmtQ (prsC s) = s) && decide (s ≠ [])):=by rw [pw]; rfl
 by_cases hw2 : w.length = 2
 case neg=>
  have hw2' : ¬ (w.length : Int) = 2:=by omega
  have hBf : nU s = false:=by rw [hB]; simp [hw2]
  have hP : prsP s = ⟨0,[],[]⟩:=by rw [prsP,if_neg (by rw [hBf]; simp)]
  simp [hw2,hw2',hBf,hP,dSl,cS,cD]
  exact ⟨⟨0,nilS,nilS⟩,by simp [az,cS,dSl,nilS],(h0 B).1,(h0 B).2.1,(h0 B).2.2,by simp [nilS],by simp [nilS]⟩
 obtain ⟨w0,w1,rfl⟩ : ∃ w0 w1,w = [w0,w1]:=by
  match w,hw2 with
  | [a,b],_=>exact ⟨a,b,rfl⟩
 have hC : prsC s = ⟨prsM (cutB 44 w1),(cutB 44 w1).map prsA,lstV w0⟩:=by rw [prsC,<- pw]; rfl
 have hwl0 : w0.length <= 1000:=Zy (jL (c:=61) (s:=s) (by rw [<- pw]; simp)) hb
 have hwl1 : w1.length <= 1000:=Zy (jL (c:=61) (s:=s) (by rw [<- pw]; simp)) hb
 simp [dSl,cS,cD]
 refine bb (k8 w0 (by omega)) (by simp) (by simp) fun n2 hs2 r2 hn2 hm2 hp2 hr2=>?_
 obtain ⟨y0,rfl,p0,k0,G0,T0⟩:=hp2
 simp at hn2
 have u0 : ∀ g ∈ idsL (cS cI y0),g < hs2:=fun g hg=>hr2 g (by rw [bc] at hg; exact hg)
 simp [dSl,cS,cD]
 refine bb (VC.track (ju w1 44 (by omega)) (by simp) (by simp [V.pn])) (by simp) (by simp) fun n3 hs3 r3 hn3 hm3 hp3 hr3=>?_
 obtain ⟨hq3,ht3⟩:=hp3
 obtain ⟨⟨cid,cT,ls⟩,rfl,pl3⟩:=uV wO hq3 ht3
 have pl3 : ls = cutB 44 w1:=by simpa [plS] using pl3
 have hll : ls.length <= 1001:=by rw [pl3]; have:=AU 44 w1; omega
 have hlm : ∀ x ∈ ls,x.length <= 1000:=fun x hx=>by rw [pl3] at hx; exact Zy (jL hx) hwl1
 rw [<- pl3] at hC
 simp at hn3
 simp [dSl,cS]
 refine aE (X:=Nat × List Atom) (CopI aU kl pJ cr (ls.map prsA) hs3) (fun p=>[(0,.d (.str s)),(2,.ptr 2 0 0),(3,.d (.bool false)),(5,.ptr 5 0 0),(6,.d (.sl cid cT (ls.map cStr))),(7,.d (.int .i64 p.1))]) (fun p=>[(2,some (.box [.d (.int .i64 0),.d (.sl none none []),.d (.sl none none [])])),(5,some (.box [.d (.int .i64 (prsM (ls.take p.1))),.own 900 0 p.2.length,.d (dSl cI y0)])),(900,some (.row 78 2 (p.2.map aU)))]) (fun p=>ls.length - p.1) ?_ ?_
 ·refine (cz 5 1 900 78 2 [.d (.int .i64 0),.d (.sl none none []),.d (dSl cI y0)] (by omega) (by omega) (by omega) (by simp [dSl]) rfl).bind ?_
  rintro _ rfl
  exact Lead.of ⟨(0,[]),.zero,rfl,rfl,Jv _,by simp,by simp [dSl,prsM]⟩
 rintro ⟨i,ys⟩ hs t m hI hh
 have hle:=hI.le
 have hyl:=hI.len
 simp only [List.length_map] at hle
 by_cases hlt : i < ls.length
 ·have hwi:=wr1 (i:=i) (by omega)
  have hL : LenOk 40 (ys.length + 1):=⟨by omega,by simp only [maxLen]; omega⟩
  obtain ⟨li,hli⟩ : ∃ li,li = ls[i]:=⟨_,rfl⟩
  have hlil : li.length <= 1000:=by rw [hli]; exact hlm _ (Jy hlt)
  have hns:=zP hlt
  have hn5:=EY (ls.take i)
  rw [<- hli] at hns
  refine dx fun Q=>?_
  simp [hlt,<- hli,dSl]
  refine bb (VC.track (ju li 40 (by omega)) (by simp) (by simp [V.pn])) (by simp) (by simp) fun n4 hs4 r4 hn4 hm4 hp4 hr4=>?_
  obtain ⟨hq4,ht4⟩:=hp4
  obtain ⟨⟨did,dT,ds⟩,rfl,pd⟩:=uV wO hq4 ht4
  have pd : ds = cutB 40 li:=by simpa [plS] using pd
  obtain ⟨d0,dr,rfl⟩ : ∃ d0 dr,ds = d0 :: dr:=by
   have:=(jK 40 li []).2
   rw [pd]
   cases h : cutB 40 li with
   | nil=>exact absurd h this
   | cons a r=>exact ⟨a,r,rfl⟩
  have hd0 : d0.length <= 1000:=Zy (jL (c:=40) (s:=li) (by rw [<- pd]; simp)) hlil
  have hpa : ∀ y : Ints,y.xs = lstV li -> cr ⟨d0,y⟩ = prsA li:=fun y h=>ES d0 y li (by rw [<- pd]; rfl) h
  simp at hn4
  simp [hlt,<- hli,dSl,cS]
  refine cutT (X:=Ints) (fun y hs'=>y.xs = lstV li /\ okS okI y /\ (∃ m,hs4 <= m /\ m <= hs' /\ Good (aU ⟨d0,y⟩) (kl ⟨d0,y⟩) m) /\ ∀ g ∈ idsL (aU ⟨d0,y⟩),g < hs') (fun _=>[(0,.d (.str s)),(2,.ptr 2 0 0),(3,.d (.bool false)),(5,.ptr 5 0 0),(6,.d (.sl cid cT (ls.map cStr))),(7,.d (.int .i64 i))]) (fun y=>[(2,some (.box [.d (.int .i64 0),.d (.sl none none []),.d (.sl none none [])])),(5,some (.box [.d (.int .i64 (prsM (ls.take i))),.own 900 0 (ys ++ [(⟨d0,y⟩ : Atom)]).length,.d (dSl cI y0)])),(900,some (.row 78 2 ((ys ++ [(⟨d0,y⟩ : Atom)]).map aU)))]) ?_ ?_
  ·intro K hK
   simp [hlt,<- hli,dSl,cS,cD]
   repeat' apply And.intro
   all_goals
    refine bb (k8 li (by omega)) (by simp) (by simp) fun n5 hs5 r5 hn5' hm5 hp5 hr5=>?_
    obtain ⟨y,rfl,p5,k5,G5,T5⟩:=hp5
    simp at hn5'
    have u5 : ∀ g ∈ idsL (aU ⟨d0,y⟩),g < hs5:=fun g hg=>hr5 g (by
     rw [aU,cM] at hg
     have:=(Qq.1 hg).resolve_left (by simp [cStr,idsL,D.ids])
     rw [bc] at this; exact this)
    have Ga : Good (aU ⟨d0,y⟩) (kl ⟨d0,y⟩) n5:=Good.app (uc n5 d0) G5 fun g h h'=>by simp [cStr,idsL,D.ids] at h
    simp [hL,hlt,<- hli,dSl,cS,cD]
    exact hK y _ ⟨p5,k5,⟨n5,by omega,hm5,Ga⟩,u5⟩ rfl rfl (by simp <;> omega) (by simp) (by simp [dSl,aU,cStr,cS])
  rintro y hs5 t m ⟨py,ky,⟨m5,hm5,hm5',Ga⟩,uy⟩ hh5
  obtain ⟨ys2,hys2⟩ : ∃ ys2,ys2 = ys ++ [(⟨d0,y⟩ : Atom)]:=⟨_,rfl⟩
  have hI2:=hI.snoc (by simpa using hlt) (by rw [hpa y py,List.getElem_map,<- hli]) (show pJ (⟨d0,y⟩ : Atom) from ⟨show d0.length <= maxLen by simp only [maxLen]; omega,ky⟩) ⟨by omega,by omega⟩ hm5' Ga uy
  rw [<- hys2] at hI2 ⊢
  obtain ⟨n0,hn0⟩ : ∃ n0,n0 = prsM (ls.take i):=⟨_,rfl⟩
  rw [<- hn0] at hns hn5 ⊢
  simp [dSl,cS]
  refine ae (X:=Nat) (fun k=>k <= li.length) (fun k=>[(0,.d (.str s)),(2,.ptr 2 0 0),(3,.d (.bool false)),(5,.ptr 5 0 0),(6,.d (.sl cid cT (ls.map cStr))),(7,.d (.int .i64 i)),(9,.d (.int .i64 k))]) (fun k=>[(2,some (.box [.d (.int .i64 0),.d (.sl none none []),.d (.sl none none [])])),(5,some (.box [.d (.int .i64 (vcS n0 (li.take k))),.own 900 0 ys2.length,.d (dSl cI y0)])),(900,some (.row 78 2 (ys2.map aU)))]) (fun k=>li.length - k) 0 (by simp) (by simp) (by simp [dSl,vcS]) ?_
  intro k hs6 t m hk hh6
  by_cases hkl : k < li.length
  ·have hwk:=wr1 (i:=k) (by omega)
   have hst:=DE (n:=n0) hkl
   have hin:=wU (li.take k) hn5
   obtain ⟨nk,hnk⟩ : ∃ nk,nk = vcS n0 (li.take k):=⟨_,rfl⟩
   obtain ⟨c,hc⟩ : ∃ c,c = li[k]:=⟨_,rfl⟩
   rw [<- hnk,<- hc] at hst
   rw [<- hnk] at hin ⊢
   have hsl : (li.drop k).take 1 = [c]:=by rw [List.drop_eq_getElem_cons hkl,hc]; rfl
   refine anyQ fun Q=>?_
   simp [hlt,<- hli,hkl,dSl,cS,cD]
   refine ae (X:=Int × Int) (fun p=>VcI c nk p.1 p.2) (fun p=>[(0,.d (.str s)),(2,.ptr 2 0 0),(3,.d (.bool false)),(5,.ptr 5 0 0),(6,.d (.sl cid cT (ls.map cStr))),(7,.d (.int .i64 i)),(9,.d (.int .i64 k)),(10,.d (.int .i64 p.1))]) (fun p=>[(2,some (.box [.d (.int .i64 0),.d (.sl none none []),.d (.sl none none [])])),(5,some (.box [.d (.int .i64 p.2),.own 900 0 ys2.length,.d (dSl cI y0)])),(900,some (.row 78 2 (ys2.map aU)))]) (fun p=>(5 - p.1).toNat) (nk,nk) (VcI.zero hin) (by simp) (by simp [dSl]) ?_
   rintro ⟨v,cur⟩ hs7 t m hV hh7
   have hv5:=hV.le
   simp only at hv5
   by_cases hv : v < 5
   ·have hn:=hV.step hv
    have hwv : IntKind.i64.wrap (v + 1) = v + 1:=aj (by omega) (by omega)
    refine anyQ fun Q=>?_
    simp [hlt,<- hli,hkl,hwk,hv,dSl,cS,cD]
    repeat' apply And.intro
    all_goals (try omega)
    all_goals
     refine ag (dP v) (by simp) rfl fun hs8 hh8=>?_
     simp at hh8
     by_cases e : fL v = [c]
     ·rw [if_pos e] at hn
      simp [hlt,<- hli,hkl,hwk,hv,hwv,e,hsl,dSl,cS,cD]
      exact back (_,_) hn (by simp only; omega) rfl (by simp <;> omega) (by simp) (by simp [dSl])
     ·rw [if_neg e] at hn
      simp [hlt,<- hli,hkl,hwk,hv,hwv,e,hsl,dSl,cS,cD]
      exact back (_,_) hn (by simp only; omega) rfl (by simp <;> omega) (by simp) (by simp [dSl])
   ·have hd:=hV.done hv
    simp [hv,hwk,dSl,cS,cD]
    exact back (k + 1) (by omega) (by omega) rfl (by simp <;> omega) (by simp) (by simp [dSl,hst,hd])
  ·have hkl' : k = li.length:=by omega
   subst hkl'
   simp [hlt,<- hli,hwi,dSl,cS,cD]
   exact bg (i + 1,ys2) (Ec hI2 (by simp <;> omega)) (by simp only; omega) rfl (by simp <;> omega) (by simp) (by simp [dSl,hns])
 ·have hil : i = ls.length:=by omega
  have hall:=hI.all (by simp; omega)
  rw [hil,Jj (Jv _)]
  have hFq : ∀ g : Option Nat,aO ⟨prsM ls,⟨g,some (78,2),ys⟩,y0⟩ = prsC s:=fun g=>by
   rw [hC]
   simp only [aO,plS,hall,ax,p0,plI]
  have hsz : ∀ a ∈ (prsC s).atoms,a.rel.length <= maxLen:=fun a ha=>by
   rw [hC] at ha
   simp only [Xz] at ha
   obtain ⟨x,hx,rfl⟩:=ha
   have:=hlm x hx
   have h2 : ((cutB 40 x).getD 0 []).length <= x.length:=by
    have h3:=(jK 40 x []).2
    cases h : cutB 40 x with
    | nil=>simp
    | cons a r=>exact jL (c:=40) (s:=x) (by rw [h]; simp)
   simp only [prsA,maxLen]; omega
  have hpA : hpLL (ys.map aU) = false:=dg (fun a=>by simp) ys
  have hBe : nU s = (decide (fmtQ (prsC s) = s) && decide (s ≠ [])):=by rw [hB]; simp
  refine sL fun b'=>?_
  simp [dSl,cS,hil,cD]
  refine tG (post:=fun _ r=>r = .d (.str (fmtQ (prsC s)))) (by simp) (fun γ n hn hg=>⟨[.agg ((az ⟨prsM ls,⟨γ 900,some (78,2),ys⟩,y0⟩).map V.d)],by simp [hpA,az,cS,dSl,Jj],?_⟩) (by rintro _ _ rfl; simp [V.ids,D.ids,V.hp,D.hp]) fun n9 hs9 r9 hn9 hm9 hp9 hr9=>?_
  ·refine (lW (prsC s) hsz).er ?_
   simp only [rpL,rp,ym,Jg,qU,hFq]
  obtain rfl:=hp9
  replace hn9 : hs <= n9:=hn9
  have fin : ∀ (γ : Nat -> Option Nat) (hs' : Nat) (σ : St),σ.B = B -> σ.m 900 = some (.row 78 2 (ys.map aU)) -> σ.m 5 = some (.box [.d (.int .i64 (prsM ls)),.own 900 0 ys.length,.d (.sl y0.id y0.T (y0.xs.map cI))]) -> Gam σ γ hs' -> aO ⟨prsM ls,⟨γ 900,some (78,2),ys⟩,y0⟩ = prsC s /\ ec ⟨prsM ls,⟨γ 900,some (78,2),ys⟩,y0⟩ /\ Good (az ⟨prsM ls,⟨γ 900,some (78,2),ys⟩,y0⟩) (mT ⟨prsM ls,⟨γ 900,some (78,2),ys⟩,y0⟩) B:=fun γ hs' σ hσB hm9 hm5 hg=>by
   obtain ⟨q1,q2⟩:=bz hg hm9
   rw [hσB] at q1
   have q3:=ea hg hm9
   have qf : ∀ g,γ 900 = some g -> g ∉ (dSl cI y0).ids:=fun g hγ=>by
    have hb:=(hg.fr 900 78 2 _ g hm9 hγ).1.box 5 _ hm5
    simpa [V.ids,idsVL,D.ids,idsLL,dSl] using hb
   clear hg
   have hG:=hI.good
   have K2 : Good (cS aU ⟨γ 900,some (78,2),ys⟩) (whS kl ⟨γ 900,some (78,2),ys⟩) B:=df (fun g hg=>(q1 g hg).1) (by simpa using q2) q3 ⟨hG.nd,fun g hg=>Zy (by omega) (hG.lo g hg)⟩ hG.wh
   refine ⟨hFq _,⟨trivial,⟨by simp only [maxLen]; show ys.length <= _; omega,hI.ok⟩,k0⟩,?_⟩
   have K1:=Good.app (wb B (prsM ls)) K2 (fun g h h'=>by simp [cI,idsL,D.ids] at h)
   have K:=Good.app K1 (G0.le (show B <= n2 by omega)) (fun g h h'=>by
    have h0:=u0 g h'
    rw [cM] at h
    rcases Qq.1 h with h | h
    ·simp [cI,idsL,D.ids] at h
    ·rw [bc] at h h'
     simp only [dSl,D.ids,Qq] at h
     rcases h with h | h
     ·exact qf g (by cases hk : γ 900 with
       | none=>rw [hk] at h; simp at h
       | some z=>rw [hk] at h; simp at h; rw [h]) h'
     ·have:=hG.lo g h; omega)
   exact ⟨K.nd,K.lo,K.wh.1.1,K.wh.1.2,K.wh.2⟩
  by_cases hf : fmtQ (prsC s) = s
  case neg=>
   have hBf : nU s = false:=by rw [hBe]; simp [hf]
   have hP : prsP s = ⟨0,[],[]⟩:=by rw [prsP,if_neg (by rw [hBf]; simp)]
   simp [hf,hBf,hP,dSl,cS,cD]
   exact ⟨⟨0,nilS,nilS⟩,by simp [az,cS,dSl,nilS],(h0 B).1,(h0 B).2.1,(h0 B).2.2,by simp [nilS],by simp [nilS]⟩
  by_cases hs0 : s = []
  ·have hBf : nU s = false:=by rw [hBe]; simp [hs0]
   have hP : prsP s = ⟨0,[],[]⟩:=by rw [prsP,if_neg (by rw [hBf]; simp)]
   have hf':=eq_true hf
   have hs0':=eq_true hs0
   simp [hf',hs0',hBf,hP,dSl,cS,cD]
   exact ⟨⟨0,nilS,nilS⟩,by simp [az,cS,dSl,nilS],(h0 B).1,(h0 B).2.1,(h0 B).2.2,by simp [nilS],by simp [nilS]⟩
  have hBf : nU s = true:=by rw [hBe]; simp [hs0,hf]
  have hP : prsP s = prsC s:=by rw [prsP,if_pos hBf]
  have hf':=eq_true hf
  have hs0':=eq_false hs0
  simp [hf',hs0',hBf,hP,dSl,cS,cD]
  intro γ hs' h1' hg
  have hfin:=fin γ hs' _ rfl (by simp) (by simp) hg
  clear hg
  exact ⟨⟨prsM ls,⟨γ 900,some (78,2),ys⟩,y0⟩,by simp [az,cS,dSl,hpA,Jj],hfin.1,hfin.2.1,hfin.2.2,fun _ _=>rfl,fun _ _=>T0⟩
end
structure QryC (tA tI : Nat) (b : Sl Int) (n : Nat) (r : V) (cs : List V) : Prop where
 ex : ∃ (c' : Nat × Int) (y : dQ),r = .agg ((az y).map V.d) /\ ec y /\ Good (az y) (mT y) n /\ aw (aO y) = true /\ iE (aO y) /\ ((∀ g,y.atoms.id = some g -> y.atoms.T = some (tA,2)) /\ (∀ g,y.out.id = some g -> y.out.T = some (tI,1))) /\ cs = (curD b c').map V.d /\ curO b c'
section
attribute [local simp] pS dSl cP cI cW
theorem kj (b : Sl Int) (c : Nat × Int) (hb : b.xs.length <= 1048576) (hc : curO b c) : VX Tryz.prog 88 [] [.ptr 1000 0 0] (some ((curD b c).map V.d)) (fun n r cs _=>QryC 78 3 b n r cs):=by
 refine VX.of E s88 Tryz.func88 ?_ ?_ fun B hB=>?_
 ·simp
 ·rintro cs h
  cases h
  simp [curD]
 simp [Tryz.f88,ee,ee,curD]
 refine di c E123 (iH b c jl hb hc (by simp [jl]) (by simp [jl])) (by simp) (by simp [curD]) (by simp [jl,cStr]) fun r0 c0 hs0 hh0 hq0 hl0 o0=>?_
 obtain ⟨s,rfl,hs⟩:=hq0
 have hsl:=zC s hs
 have hB0 : B <= hs0:=hh0
 simp [ee,curD]
 refine bb (l8 s (by omega)) (by simp) (by simp) fun n1 hs1 r1 hn1 hm1 hp1 hr1=>?_
 obtain ⟨q,rfl,pq,kq,Gq,TA,TI⟩:=hp1
 have hn1' : hs0 <= n1:=hn1
 have okq:=B4 s hs
 have smq:=uk s hs
 rw [<- pq] at okq smq
 obtain ⟨qn,⟨qaid,qaT,qa⟩,⟨qoid,qoT,qo⟩⟩:=q
 have hfin : ∀ c' : Nat × Int,curO b c' -> QryC 78 3 b B (.agg ((az ⟨qn,⟨qaid,qaT,qa⟩,⟨qoid,qoT,qo⟩⟩).map V.d)) ((curD b c').map V.d):=fun c' ho=>⟨⟨c',_,rfl,kq,Gq.le (by omega),okq,smq,⟨TA,TI⟩,rfl,ho⟩⟩
 simp [az,cS,ee,curD]
 refine aW c0 E53 (fx b c0 3 hb o0 (by omega)) (by simp) (by simp [curD]) (by simp) (by simp) fun r2 c2 hs2 hh2 hq2 hl2 o2=>?_
 obtain ⟨u,rfl⟩:=hq2
 have hh2' : hs1 <= hs2:=hh2
 cases u
 ·simp [bt,az,cS,ee,curD]
  intro γ hs' h1 hg
  clear hg
  simpa [az,cS,curD] using hfin c2 o2
 simp [az,cS,ee,curD]
 refine aW c2 E89 (aD b c2 4 hb o2 (by omega)) (by simp) (by simp [curD]) (by simp) (by simp) fun r3 c3 hs3 hh3 hq3 hl3 o3=>?_
 obtain ⟨N,rfl,N0,N1,_⟩:=hq3
 have N1:=N1 (by omega)
 have hh3' : hs2 <= hs3:=hh3
 have hwN : IntKind.i64.wrap (1 + N) = 1 + N:=aj (by omega) (by omega)
 simp [hwN,ee,curD]
 refine aW c3 E89 (aD b c3 4 hb o3 (by omega)) (by simp) (by simp [curD]) (by simp) (by simp) fun r4 c4 hs4 hh4 hq4 hl4 o4=>?_
 obtain ⟨M,rfl,M0,M1,_⟩:=hq4
 have M1:=M1 (by omega)
 have hh4' : hs3 <= hs4:=hh4
 obtain ⟨M,rfl⟩ : ∃ k : Nat,M = k:=⟨M.toNat,by omega⟩
 have hwM : IntKind.i64.wrap (1 + (M : Int)) = ((M + 1 : Nat) : Int):=by rw [aj (by omega) (by omega)]; omega
 obtain ⟨N',hN'⟩ : ∃ N' : Int,N' = 1 + N:=⟨_,rfl⟩
 simp [hwM,<- hN',az,cS,curD]
 refine aE (X:=(Nat × Int) × List Atom × Nat) (fun p h=>curO b p.1 /\ p.2.1.length + p.2.2 <= 4 /\ e8 aU kl B h p.2.1 /\ ∀ y ∈ p.2.1,pJ y) (fun p=>[(0,.ptr 1000 0 0),(2,.ptr 2 0 0),(4,.ptr 4 0 0),(6,.ptr 6 0 0),(7,.d (.int .i64 p.2.2))]) (fun p=>[(1000,some (.box ((curD b p.1).map V.d))),(2,some (.box [.d (.int .i64 0),.d (.sl none none []),.d (.sl none none [])])),(4,some (.box ((az ⟨qn,⟨qaid,qaT,qa⟩,⟨qoid,qoT,qo⟩⟩).map V.d))),(6,some (.box [.d (.int .i64 N'),.own 900 0 p.2.1.length,.d (.sl none none [])])),(900,some (.row 78 2 (p.2.1.map aU)))]) (fun p=>p.2.2) ?_ ?_
 ·refine (cz 6 1 900 78 2 [.d (.int .i64 N'),.d (.sl none none []),.d (.sl none none [])] (by omega) (by omega) (by omega) (by simp) rfl).bind ?_
  rintro _ rfl
  exact Lead.of ⟨(c4,[],M + 1),⟨o4,by simp; omega,e8.nil,by simp⟩,rfl,rfl,Jv _,by simp,by simp [curD,az,cS]⟩
 rintro ⟨c5,ys,k⟩ hs t m ⟨o5,hyl,hG,hyk⟩ hh
 simp only at o5 hyl hG hyk
 have hh' : hs4 <= hs:=hh
 cases k with
 | succ k =>
   obtain ⟨u,hu⟩ : ∃ u : Nat,u = k + 1:=⟨_,rfl⟩
   have hup : 0 < u:=by omega
   have hwm : IntKind.i64.wrap ((u : Int) - 1) = k:=by rw [aj (by omega) (by omega)]; omega
   have hL : LenOk 40 (ys.length + 1):=⟨by omega,by simp only [maxLen]; omega⟩
   rw [<- hu] at hyl ⊢
   refine dx fun Q=>?_
   simp [hup,az,cS,curD]
   refine aW c5 E89 (aD b c5 5 hb o5 (by omega)) (by simp) (by simp [curD]) (by simp) (by simp) fun r6 c6 hs6 hh6 hq6 hl6 o6=>?_
   obtain ⟨x,rfl,x0,x1,_⟩:=hq6
   have x1:=x1 (by omega)
   have hh6' : hs <= hs6:=hh6
   obtain ⟨j,rfl⟩ : ∃ j : Nat,x = j:=⟨x.toNat,by omega⟩
   have hj : j < nms.length:=by rw [mq]; omega
   have hj5 : j < 5:=by omega
   obtain ⟨nm,hnm⟩ : ∃ nm,nm = nms[j]'hj:=⟨_,rfl⟩
   have hnl : nm.length <= 10:=by rw [hnm]; exact xX _ (Jy hj)
   have eN : [[D.str [114]],[D.str [115]],[D.str [116]],[D.str [117]],[D.str [118]]] = nms.map cStr:=rfl
   obtain ⟨M2,hM2⟩ : ∃ M2 : Nat,IntKind.i64.wrap (2 + IntKind.i64.wrap ((j : Int) / 4)) = M2 /\ M2 <= 3:=by
    have h5 : j = 0 \/ j = 1 \/ j = 2 \/ j = 3 \/ j = 4:=by omega
    rcases h5 with rfl | rfl | rfl | rfl | rfl
    ·exact ⟨2,by decide,by omega⟩
    ·exact ⟨2,by decide,by omega⟩
    ·exact ⟨2,by decide,by omega⟩
    ·exact ⟨2,by decide,by omega⟩
    ·exact ⟨3,by decide,by omega⟩
   obtain ⟨hM2,hM3⟩:=hM2
   simp [eN,hj,hj5,<- hnm,hM2,mq,cStr,az,cS,curD]
   refine aE (X:=(Nat × Int) × List Int × Nat) (fun p h=>(curO b p.1 /\ p.2.1.length + p.2.2 <= 3)) (fun p=>[(0,.ptr 1000 0 0),(2,.ptr 2 0 0),(4,.ptr 4 0 0),(6,.ptr 6 0 0),(7,.d (.int .i64 u)),(9,.ptr 9 0 0),(10,.d (.int .i64 p.2.2))]) (fun p=>[(1000,some (.box ((curD b p.1).map V.d))),(2,some (.box [.d (.int .i64 0),.d (.sl none none []),.d (.sl none none [])])),(4,some (.box ((az ⟨qn,⟨qaid,qaT,qa⟩,⟨qoid,qoT,qo⟩⟩).map V.d))),(6,some (.box [.d (.int .i64 N'),.own 900 0 ys.length,.d (.sl none none [])])),(900,some (.row 78 2 (ys.map aU))),(9,some (.box [.d (.str nm),.own 901 0 p.2.1.length])),(901,some (.row 3 1 (p.2.1.map cI)))]) (fun p=>p.2.2) ?_ ?_
   ·refine (cz 9 1 901 3 1 [.d (.str nm),.d (.sl none none [])] (by omega) (by omega) (by omega) (by simp) rfl).bind ?_
    rintro _ rfl
    exact Lead.of ⟨(c6,[],M2),⟨o6,by simp; omega⟩,rfl,rfl,Jv _,by simp,by simp [curD,az,cS]⟩
   rintro ⟨c7,vs,k2⟩ hs7 t m ⟨o7,hvl⟩ hh7
   simp only at o7 hvl
   have hh7' : hs6 <= hs7:=hh7
   cases k2 with
   | succ k2 =>
     obtain ⟨u2,hu2⟩ : ∃ u2 : Nat,u2 = k2 + 1:=⟨_,rfl⟩
     have hup2 : 0 < u2:=by omega
     have hwm2 : IntKind.i64.wrap ((u2 : Int) - 1) = k2:=by rw [aj (by omega) (by omega)]; omega
     have hL2 : LenOk 8 (vs.length + 1):=⟨by omega,by simp only [maxLen]; omega⟩
     rw [<- hu2] at hvl ⊢
     refine dx fun Q=>?_
     simp [hup2,az,cS,curD]
     refine cutT (X:=(Nat × Int) × Int) (fun p _=>curO b p.1) (fun _=>[(0,.ptr 1000 0 0),(2,.ptr 2 0 0),(4,.ptr 4 0 0),(6,.ptr 6 0 0),(7,.d (.int .i64 u)),(9,.ptr 9 0 0),(10,.d (.int .i64 u2))]) (fun p=>[(1000,some (.box ((curD b p.1).map V.d))),(2,some (.box [.d (.int .i64 0),.d (.sl none none []),.d (.sl none none [])])),(4,some (.box ((az ⟨qn,⟨qaid,qaT,qa⟩,⟨qoid,qoT,qo⟩⟩).map V.d))),(6,some (.box [.d (.int .i64 N'),.own 900 0 ys.length,.d (.sl none none [])])),(900,some (.row 78 2 (ys.map aU))),(9,some (.box [.d (.str nm),.own 901 0 (vs ++ [p.2]).length])),(901,some (.row 3 1 ((vs ++ [p.2]).map cI)))]) ?_ ?_
     ·intro K hK
      simp [hup2,az,cS,curD,ee]
      repeat' apply And.intro
      all_goals
       refine aW c7 E89 (aD b c7 N' hb o7 (by omega)) (by simp) (by simp [curD]) (by simp) (by simp) fun r8 c8 hs8 hh8 hq8 hl8 o8=>?_
       obtain ⟨v,rfl,_,_,_⟩:=hq8
       simp [hL2,hup2,Jj,az,cS,curD,ee]
       exact hK (c8,v) _ o8 rfl rfl (by simpa using hh8) (by simp) (by simp [curD,az,cS])
     rintro ⟨c8,v⟩ hs8 t m o8 hh8
     simp only at o8
     simp [hwm2,az,cS,curD]
     exact bg (c8,vs ++ [v],k2) ⟨o8,by simp; omega⟩ (by simp only; omega) rfl (by simp <;> omega) (by simp) (by simp [curD,az,cS])
   | zero =>
     have hpI : hpLL (vs.map cI) = false:=cL _
     simp [az,cS,curD]
     rw [vp (k':=901) (ks:=[]) _ _ _ (by simp) (by simp)]
     intro γ hs8 h1 hg
     simp only at h1
     obtain ⟨q1,q2⟩:=bz hg (k:=901) (T:=3) (sz:=1) (es:=vs.map cI) (by simp)
     have q3:=iR hg (k:=901) (T:=3) (sz:=1) (es:=vs.map cI) (k2:=900) (T2:=78) (sz2:=2) (es2:=ys.map aU) (by simp) (by simp)
     clear hg
     have hid : ∀ L : List Int,idsLL (L.map cI) = []:=fun L=>by simp
     simp [vpre,vnext,veff,vval,aJ,St.frzs,St.frz,Vs.frz,hpI,hL,hwm,Jj]
     have hgi : Good (cS cI (⟨γ 901,some (3,1),vs⟩ : Ints)) (whS whI ⟨γ 901,some (3,1),vs⟩) B:=eh (fun g hg=>(q1 g hg).1) (by simpa using q2)
     have hy : ∀ g,g ∈ idsL (aU ⟨nm,⟨γ 901,some (3,1),vs⟩⟩) -> γ 901 = some g:=fun g hg=>by
      rw [aU,cM] at hg
      have hg:=(Qq.1 hg).resolve_left (by simp [cStr,idsL,D.ids])
      rw [bc] at hg
      rcases aK.1 hg with h | h
      ·exact h
      ·simp only at h; rw [hid] at h; simp at h
     have hGa : Good (aU ⟨nm,⟨γ 901,some (3,1),vs⟩⟩) (kl ⟨nm,⟨γ 901,some (3,1),vs⟩⟩) B:=Good.app (uc B nm) hgi fun g h h'=>by simp [cStr,idsL,D.ids] at h
     refine bg (c7,ys ++ [⟨nm,⟨γ 901,some (3,1),vs⟩⟩],k) ⟨o7,by simp; omega,?_,?_⟩ (by simp only; omega) rfl (by simp <;> omega) (by simp) (by simp [curD,aU,cStr,az,cS,Jj])
     ·exact e8.snoc2 hG (by simp <;> omega) hGa (fun g hg=>q3 g (hy g hg)) (fun g hg=>(q1 g (hy g hg)).2)
     ·intro z hz
      rcases Qq.1 hz with hz | hz
      ·exact hyk z hz
      ·rw [Qg.1 hz]
       exact ⟨show nm.length <= maxLen by simp only [maxLen]; omega,by show vs.length <= maxLen; simp only [maxLen]; omega,fun _ _=>trivial⟩
 | zero =>
   have hN5 : 1 <= N' /\ N' <= 4:=by omega
   refine sL fun b'=>?_
   simp [az,cS,curD]
   refine wm (X:=(Nat × Int) × Ints × Nat) (fun p h=>(curO b p.1 /\ (p.2.2 : Int) <= N' /\ p.2.1.xs.length <= p.2.2) /\ okS okI p.2.1 /\ Good (cS cI p.2.1) (whS whI p.2.1) B /\ (∀ g ∈ idsL (cS cI p.2.1),g < h /\ g ∉ idsLL (ys.map aU)) /\ ∀ g,p.2.1.id = some g -> p.2.1.T = some (3,1)) (fun p=>[(0,.ptr 1000 0 0),(2,.ptr 2 0 0),(4,.ptr 4 0 0),(6,.ptr 6 0 0),(11,.d (.int .i64 p.2.2))]) (fun p=>[(1000,some (.box ((curD b p.1).map V.d))),(2,some (.box [.d (.int .i64 0),.d (.sl none none []),.d (.sl none none [])])),(4,some (.box ((az ⟨qn,⟨qaid,qaT,qa⟩,⟨qoid,qoT,qo⟩⟩).map V.d))),(6,some (.box [.d (.int .i64 N'),.own 900 0 ys.length,.d (dSl cI p.2.1)])),(900,some (.row 78 2 (ys.map aU)))]) (fun p=>5 - p.2.2) (c5,nilS,0) ⟨⟨o5,by simp; omega,by simp [nilS]⟩,ch,gw B,fun g hg=>by rw [bc] at hg; simp [nilS,dSl,D.ids,idsLL] at hg,by simp [nilS]⟩ (by simp) (by simp [curD,az,cS,nilS]) ?_
   rintro ⟨c6,out,i⟩ hs6 t m ⟨⟨o6,hiN,hol⟩,hok,hGo,hgo,hTo⟩ hh6
   simp only at o6 hiN hol hok hGo hgo hTo
   by_cases hlt : (i : Int) < N'
   ·have hwi:=wr1 (i:=i) (by omega)
    refine dx fun Q=>?_
    simp [hlt,az,cS,curD,ee]
    refine aW c6 E53 (fx b c6 2 hb o6 (by omega)) (by simp) (by simp [curD]) (by simp) (by simp) fun r7 c7 hs7 hh7 hq7 hl7 o7=>?_
    obtain ⟨u,rfl⟩:=hq7
    have hh7' : hs6 <= hs7:=hh7
    cases u
    ·simp [hwi,az,cS,curD,ee]
     exact bg (c7,out,i + 1) ⟨⟨o7,by simp only; omega,by simp only; omega⟩,hok,hGo,fun g hg=>⟨by have:=(hgo g hg).1; simp <;> omega,(hgo g hg).2⟩,hTo⟩ (by simp only; omega) rfl (by simp <;> omega) (by simp) (by simp [curD,az,cS])
    ·have hL : LenOk 8 (1 + out.xs.length):=⟨by omega,by simp only [maxLen]; omega⟩
     have hL' : LenOk 8 (out.xs.length + 1):=⟨by omega,by simp only [maxLen]; omega⟩
     simp [hwi,hL,hL',Jj,az,cS,curD,ee]
     refine jG.lead (fD 73 (T:=3) (sz:=1) (es:=((i : Int) :: out.xs).map cI) (by simp)) ?_
     rintro _ ⟨γ,hs8,h8,hg,rfl⟩
     obtain ⟨q1,q2⟩:=bz hg (k:=73) (T:=3) (sz:=1) (es:=((i : Int) :: out.xs).map cI) (by simp)
     have q3:=iR hg (k:=73) (T:=3) (sz:=1) (es:=((i : Int) :: out.xs).map cI) (k2:=900) (T2:=78) (sz2:=2) (es2:=ys.map aU) (by simp) (by simp)
     clear hg
     simp only at h8 q1
     have hpo : hpLL (out.xs.map cI) = false:=cL _
     have hy : ∀ g,g ∈ idsL (cS cI (⟨γ 73,some (3,1),(i : Int) :: out.xs⟩ : Ints)) -> γ 73 = some g:=fun g hg=>by
      rw [bc] at hg
      rcases aK.1 hg with h | h
      ·exact h
      ·have hid : ∀ L : List Int,idsLL (L.map cI) = []:=fun L=>by simp
       simp only at h
       rw [hid] at h
       cases h
     refine bg (c7,⟨γ 73,some (3,1),(i : Int) :: out.xs⟩,i + 1) ⟨⟨o7,by simp only; omega,by simp only [Qv]; omega⟩,⟨by simp only [Qv,maxLen]; omega,fun _ _=>trivial⟩,eh (fun g hg=>(q1 g hg).1) (by simpa using q2),fun g hg=>⟨by have:=(q1 g (hy g hg)).2; simpa using this,q3 g (hy g hg)⟩,fun _ _=>rfl⟩ (by simp only; omega) rfl (by simp <;> omega) (by simp) (by simp [hpo,Vs.frz,St.frz,Nat.add_comm 1,Jj,curD,az,cS])
   ·have hlt':=hlt
    refine sL fun b'=>?_
    simp [hlt,az,cS,curD,ee]
    have hpA : hpLL (ys.map aU) = false:=dg (fun a=>by simp) ys
    have hQe : ∀ g : Option Nat,aO ⟨N',⟨g,some (78,2),ys⟩,out⟩ = ⟨N',ys.map cr,out.xs⟩:=fun g=>by
     simp only [aO,plS,ax,plI]
    have hsz : ∀ a ∈ (⟨N',ys.map cr,out.xs⟩ : ab).atoms,a.rel.length <= maxLen:=fun a ha=>by
     obtain ⟨y,hy,rfl⟩:=Xz.1 ha
     exact (hyk y hy).1
    refine tG (post:=fun _ r=>r = .d (.bool (aw ⟨N',ys.map cr,out.xs⟩))) (by simp) (fun γ n hn hg=>⟨[.agg ((az ⟨N',⟨γ 900,some (78,2),ys⟩,out⟩).map V.d)],by simp [hpA,az,cS,dSl,Jj],?_⟩) (by rintro _ _ rfl; simp [V.ids,D.ids,V.hp,D.hp]) fun n9 hs9 r9 hn9 hm9 hp9 hr9=>?_
    ·refine (bf ⟨N',ys.map cr,out.xs⟩ hsz).er ?_
     simp only [rpL,rp,ym,Jg,qU,hQe]
    obtain rfl:=hp9
    replace hn9 : hs6 <= n9:=hn9
    cases hv : aw ⟨N',ys.map cr,out.xs⟩
    ·simp [bt,az,cS,ee,curD]
     intro γ hs' h1 hg
     clear hg
     simpa [az,cS,curD] using hfin c6 o6
    simp [bt,az,cS,ee,curD]
    intro γ hs' h1 hg
    obtain ⟨q1,q2⟩:=bz hg (k:=900) (T:=78) (sz:=2) (es:=ys.map aU) (by simp)
    have q3:=ea hg (k:=900) (T:=78) (sz:=2) (es:=ys.map aU) (by simp)
    have qf : ∀ g,γ 900 = some g -> g ∉ idsL (cS cI out):=fun g hγ=>by
     have hb:=(hg.fr 900 78 2 (ys.map aU) g (by simp) hγ).1.box 6 [.d (.int .i64 N'),.own 900 0 ys.length,.d (dSl cI out)] (by simp)
     rw [bc]
     simpa [V.ids,idsVL,D.ids,idsLL,dSl] using hb
    clear hg
    have K2 : Good (cS aU ⟨γ 900,some (78,2),ys⟩) (whS kl ⟨γ 900,some (78,2),ys⟩) B:=df (fun g hg=>(q1 g hg).1) (by simpa using q2) q3 ⟨hG.nd,hG.lo⟩ hG.wh
    have K1:=Good.app (wb B N') K2 (fun g h h'=>by simp [cI,idsL,D.ids] at h)
    have K:=Good.app K1 hGo (fun g h h'=>by
     rw [cM] at h
     rcases Qq.1 h with h | h
     ·simp [cI,idsL,D.ids] at h
     ·rw [bc] at h
      rcases aK.1 h with h | h
      ·exact qf g h h'
      ·exact (hgo g h').2 h)
    have hfx : QryC 78 3 b B (.agg ((az ⟨N',⟨γ 900,some (78,2),ys⟩,out⟩).map V.d)) ((curD b c6).map V.d):=⟨⟨c6,_,rfl,⟨trivial,⟨by simp only [maxLen]; show ys.length <= _; omega,hyk⟩,hok⟩,⟨K.nd,K.lo,K.wh.1.1,K.wh.1.2,K.wh.2⟩,by rw [hQe]; exact hv,by rw [hQe]; exact .inl (by simp only; omega),⟨fun _ _=>rfl,hTo⟩,rfl,o6⟩⟩
    simpa [hpA,az,cS,curD,Jj] using hfx
end
theorem tH {tA tI : Nat} {P : Program} {E : Md} {args : List Operand} {f : FuncId} {rest As : List V} {k : Nat} {dst : Option Tmp} {K : St -> Prop} {σ : St} {b : Sl Int} (c : Nat × Int) (hE : E f = true)
  (hc : VX P f [] (.ptr 1000 0 0 :: As) (some ((curD b c).map V.d)) (fun n r cs _=>QryC tA tI b n r cs)) (hvs : args.map σ.ev = .ptr k 0 0 :: rest) (hm : σ.m k = some (.box ((curD b c).map V.d)))
  (hr : rpL σ.m rest = some As) (hk : keysVL rest = [])
  (hK : ∀ (y : dQ) c' n hs',σ.hs <= n -> n <= hs' -> ec y -> Good (az y) (mT y) n -> (∀ g ∈ idsL (az y),g < hs') -> aw (aO y) = true -> iE (aO y) -> (∀ g,y.atoms.id = some g -> y.atoms.T = some (tA,2)) -> (∀ g,y.out.id = some g -> y.out.T = some (tI,1)) -> curO b c' -> K ({ σ with hs:=hs',m:=upd σ.m k (some (.box ((curD b c').map V.d))) }.put dst (.agg ((az y).map V.d)))) : b9 P E f args (.ptr k 0 0 :: rest) dst K σ:=by
 refine l3 hE hvs hm hr (by simp [curD,dSl]) hc fun r cs' ws n hs' h1 h2 h3 h4 h5 h9=>?_
 obtain ⟨c',y,rfl,h6,h7,h8,h10,⟨h11,h12⟩,rfl,ho⟩:=h3.ex
 have : keysVL rest ++ keysVL ((curD b c).map V.d) = []:=by rw [hk]; simp [curD]
 rw [this]
 exact hK y c' n hs' h1 h2 h6 h7 (fun g hg=>h9 g (by rw [mg]; exact hg)) h8 h10 h11 h12 ho
structure QryA (b : Sl Int) (r : V) (cs : List V) : Prop where
 ex : ∃ (c' : Nat × Int) (y : dQ),r = .agg ((az y).map V.d) /\ ec y /\ QA (aO y) /\ cs = (curD b c').map V.d /\ curO b c'
section
attribute [local simp] pS dSl cP cI cW
theorem yU (t : Atom) : (aU t).length = 2:=by simp [aU,cStr,cS,cI]
theorem CO {g : Nat} {T : TypeId × Nat} {es es' : List (List D)} (h : es'.map List.length = es.map List.length) : reV (one g (.sl (some g) (some T) es')) (.d (.sl (some g) (some T) es)) = .d (.sl (some g) (some T) es'):=by
 have h1 : reD (one g (.sl (some g) (some T) es')) (.sl (some g) (some T) es) = some (.sl (some g) (some T) es'):=by
  simp only [reD,one,if_true]
  rw [if_pos]
  exact ⟨trivial,rfl,trivial,h⟩
 simp only [reV,h1]
theorem td (b : Sl Int) (c : Nat × Int) (hb : b.xs.length <= 1048576) (hc : curO b c) : VX Tryz.prog 91 [] [.ptr 1000 0 0] (some ((curD b c).map V.d)) (fun _ r cs _=>QryA b r cs):=by
 refine VX.of E s91 Tryz.func91 ?_ ?_ fun B hB=>?_
 ·simp
 ·rintro cs h
  cases h
  simp [curD]
 simp [Tryz.f91,curD]
 refine tH c E88 (kj b c hb hc) (by simp) (by simp [curD]) (by simp) (by simp) fun q c0 n0 hs0 hn0 hm0 kq Gq uq okq smq TA TI o0=>?_
 obtain ⟨qn,⟨qaid,qaT,qa⟩,⟨qoid,qoT,qo⟩⟩:=q
 have hnB : B <= n0:=hn0
 have hQ : aO ⟨qn,⟨qaid,qaT,qa⟩,⟨qoid,qoT,qo⟩⟩ = ⟨qn,qa.map cr,qo⟩:=by simp only [aO,plS,ax,plI]
 rw [hQ] at okq smq
 have hsm:=dG okq
 have hqv:=mA okq
 simp only [List.length_map] at hsm hqv
 obtain ⟨hal,hol,hat⟩:=hsm
 obtain ⟨⟨ar,⟨avid,avT,av⟩⟩,ra,rfl⟩ : ∃ a ra,qa = a :: ra:=by
  cases qa with
  | nil=>simp at hqv
  | cons a r=>exact ⟨a,r,rfl⟩
 have hav : 1 <= av.length:=by
  have:=(hqv.1 (cr ⟨ar,⟨avid,avT,av⟩⟩) (by simp)).1
  simpa [cr,plS] using this
 obtain ⟨v0,rv,rfl⟩ : ∃ v rv,av = v :: rv:=by
  cases av with
  | nil=>simp at hav
  | cons a r=>exact ⟨a,r,rfl⟩
 obtain ⟨_,hok1,hok2⟩:=kq
 have wh1:=Gq.wh.2.1
 have wh2:=Gq.wh.2.2
 obtain ⟨ga,rfl⟩ : ∃ ga,qaid = some ga:=by
  cases hq : qaid with
  | none=>have:=wh1.1.nil hq; simp at this
  | some g=>exact ⟨g,rfl⟩
 obtain rfl : qaT = some (78,2):=TA ga rfl
 have wh3:=wh1.2 ⟨ar,⟨avid,avT,v0 :: rv⟩⟩ (by simp)
 obtain ⟨gv,rfl⟩ : ∃ gv,avid = some gv:=by
  cases hq : avid with
  | none=>have:=wh3.2.1.nil hq; simp at this
  | some g=>exact ⟨g,rfl⟩
 obtain ⟨Tv,rfl⟩ : ∃ Tv,avT = some Tv:=Zx.1 (wh3.2.1.some (by simp))
 have eI : idsL (az ⟨qn,⟨some ga,some (78,2),⟨ar,⟨some gv,some Tv,v0 :: rv⟩⟩ :: ra⟩,⟨qoid,qoT,qo⟩⟩) = ga :: gv :: (idsLL (ra.map aU) ++ qoid.toList):=by
  simp [az,aU,cStr,cS,idsL,D.ids,idsLL]
 have hnd:=Gq.nd
 have hlo:=Gq.lo
 rw [eI] at hnd hlo
 simp only [List.nodup_cons,Zz,Qq,not_or] at hnd
 obtain ⟨⟨n1,n2,n3⟩,⟨n4,n5⟩,n6⟩:=hnd
 have n7:=(List.nodup_append.1 n6).2.2
 have b1 : B <= ga:=by have:=hlo ga (by simp); omega
 have b2 : B <= gv:=by have:=hlo gv (by simp); omega
 have b3 : ∀ g,qoid = some g -> B <= g:=fun g hg=>by have:=hlo g (by simp [hg]); omega
 have n3' : qoid ≠ some ga:=fun h=>n3 (by simp [h])
 have n5' : qoid ≠ some gv:=fun h=>n5 (by simp [h])
 have hn5:=bq okq
 simp only at hn5
 have hwn : IntKind.i64.wrap (qn + 1) = qn + 1:=aj (by omega) (by omega)
 have okA:=hok1.2 ⟨ar,⟨some gv,some Tv,v0 :: rv⟩⟩ (by simp)
 have okR : ∀ a ∈ ra,pJ a:=fun a ha=>hok1.2 a (by simp [ha])
 have hal2 : ra.length <= 3:=by simp only [Qv] at hal; omega
 have eC : aU ⟨ar,⟨some gv,some Tv,v0 :: rv⟩⟩ = [.str ar,.sl (some gv) (some Tv) ([.int .i64 v0] :: rv.map cI)]:=by simp [aU,cStr,cS]
 have hcur : ∀ f : Nat -> Option D,(∀ j,B <= j \/ f j = none) -> reV f (.d (.sl b.id b.T (b.xs.map cW))) = .d (.sl b.id b.T (b.xs.map cW)):=fun f hf=>dd _ (fun j hj=>by
  rcases hf j with h | h
  ·have:=hB j (.inr (by simpa [curD] using hj)); omega
  ·exact h) (by simp [gC])
 simp [az,cS,eC,curD]
 refine aW c0 E89 (aD b c0 14 hb o0 (by omega)) (by simp) (by simp [curD]) (by simp) (by simp) fun r2 c2 hs2 hh2 hq2 hl2 o2=>?_
 obtain ⟨u,rfl,u0,u1,_⟩:=hq2
 refine kD [(0,.ptr 1000 0 0),(2,.ptr 2 0 0),(3,.ptr 3 0 0),(7,.d (.int .i64 u))] [(1000,some (.box ((curD b c2).map V.d))),(2,some (.box [.d (.int .i64 0),.d (.sl none none []),.d (.sl none none [])])),(3,some (.box [.d (.int .i64 qn),.d (.sl (some ga) (some (78,2)) ([.str ar,.sl (some gv) (some Tv) ([.int .i64 v0] :: rv.map cI)] :: ra.map aU)),.d (.sl qoid qoT (qo.map cI))]))] (by simp) (by simp [curD,az,cS]) fun t m=>?_
 have fin : ∀ (c' : Nat × Int) (y : dQ),curO b c' -> ec y -> QA (aO y) -> QryA b (.agg ((az y).map V.d)) ((curD b c').map V.d):=fun c' y h1 h2 h3=>⟨⟨c',y,rfl,h2,h3,rfl,h1⟩⟩
 by_cases e0 : u = 0
 ·subst e0
  simp [hwn,curD]
  refine di c2 E121 (ca b c2 [0,6,qn + 1] hb o2 (by simp) (by simp)) (by simp) (by simp [curD]) (by simp) fun r3 c3 hs3 hh3 hq3 hl3 o3=>?_
  obtain ⟨v,rfl,hv⟩:=hq3
  simp [bt,curD]
  intro γ hs' h1 hg
  clear hg
  have:=fin c3 ⟨v,⟨some ga,some (78,2),⟨ar,⟨some gv,some Tv,v0 :: rv⟩⟩ :: ra⟩,⟨qoid,qoT,qo⟩⟩ o3 ⟨trivial,hok1,hok2⟩ (by have:=QA.n okq hv; simpa only [aO,plS,ax,plI] using this)
  simpa [az,cS,curD,eC] using this
 by_cases e1 : u = 1
 ·subst e1
  have hp0 : hpLL (ra.map aU) = false:=dg (fun a=>by simp) ra
  have L0 : LenOk 8 1:=⟨by omega,by simp only [maxLen]; omega⟩
  have L1 : LenOk 40 (ra.length + 1 + 1):=⟨by omega,by simp only [maxLen]; omega⟩
  have k1 : ∀ j,B <= j \/ kphi (some ga) j = none:=fun j=>by
   by_cases h : j = ga
   ·left; omega
   ·right; simp only [kphi]; rw [if_neg (by simpa using Ne.symm h)]
  have kC:=hcur _ k1
  have kO : reV (kphi (some ga)) (.d (.sl qoid qoT (qo.map cI))) = .d (.sl qoid qoT (qo.map cI)):=dd (.d (dSl cI ⟨qoid,qoT,qo⟩)) fun j hj=>by
   have hne : j ≠ ga:=fun e=>by
    rcases aK.1 hj with h | h
    ·subst e; exact n3' h
    ·simp at h
   simp only [kphi]; rw [if_neg (by simpa using Ne.symm hne)]
  have f1 : ga ∉ idsLL ([.str ar,.sl (some gv) (some Tv) ([.int .i64 v0] :: rv.map cI)] :: ra.map aU):=by simp [idsLL,idsL,D.ids]; exact ⟨n1,n2⟩
  have F0 : ∀ (nm : List UInt8) (g24 : Nat),g24 ≠ ga -> ga ∉ idsLL [[.str nm,.sl (some g24) (some (3,1)) [[.int .i64 0]]]]:=fun nm g24 h=>by simp [idsLL,idsL,D.ids]; exact Ne.symm h
  have KE : ∀ (nm : List UInt8) (g24 : Nat),g24 ≠ ga -> reLL (kphi (some ga)) ([.str ar,.sl (some gv) (some Tv) ([.int .i64 v0] :: rv.map cI)] :: (ra.map aU ++ [[.str nm,.sl (some g24) (some (3,1)) [[.int .i64 0]]]])) = some ([.str ar,.sl (some gv) (some Tv) ([.int .i64 v0] :: rv.map cI)] :: (ra.map aU ++ [[.str nm,.sl (some g24) (some (3,1)) [[.int .i64 0]]]])):=fun nm g24 h=>by
   have e : [.str ar,.sl (some gv) (some Tv) ([.int .i64 v0] :: rv.map cI)] :: (ra.map aU ++ [[.str nm,.sl (some g24) (some (3,1)) [[D.int .i64 0]]]]) = ((⟨ar,⟨some gv,some Tv,v0 :: rv⟩⟩ : Atom) :: ra ++ [(⟨nm,⟨some g24,some (3,1),[0]⟩⟩ : Atom)]).map aU:=by simp [aU,cStr,cS]
   refine kK _ (fun j hj=>?_) (by rw [e]; exact tkLL_map _ (by simp))
   have hne : j ≠ ga:=fun e=>by
    subst e
    rw [<- List.cons_append,cm] at hj
    rcases Qq.1 hj with h2 | h2
    ·exact f1 h2
    ·exact F0 nm g24 h h2
   simp only [kphi]; rw [if_neg (by simpa using Ne.symm hne)]
  simp [curD]
  repeat' apply And.intro
  all_goals
   refine di c2 E123 (iH b c2 [[],[119],[114]] hb o2 (by simp) (by simp)) (by simp) (by simp [curD]) (by simp [cStr]) fun r3 c3 hs3 hh3 hq3 hl3 o3=>?_
   obtain ⟨nm,rfl,hnm⟩:=hq3
   have hnl : nm.length <= 10:=by
    simp only [Zz,List.not_mem_nil,or_false] at hnm
    rcases hnm with rfl | rfl | rfl <;> simp
   simp [curD]
   rw [vp (k':=24) (ks:=[]) _ _ _ (by simp) (by simp)]
   intro γ hs4 h1 hg
   obtain ⟨q1,q2⟩:=bz hg (k:=24) (T:=3) (sz:=1) (es:=[[.int .i64 0]]) (by simp)
   obtain ⟨g24,h24⟩:=Option.ne_none_iff_exists'.1 (q2 (by simp))
   have qf : g24 ≠ ga:=fun e=>by
    have hb:=(hg.fr 24 3 1 [[.int .i64 0]] g24 (by simp) h24).1.box 3 [.d (.int .i64 qn),.d (.sl (some ga) (some (78,2)) ([.str ar,.sl (some gv) (some Tv) ([.int .i64 v0] :: rv.map cI)] :: ra.map aU)),.d (.sl qoid qoT (qo.map cI))] (by simp)
    simp [idsVL,V.ids,D.ids,e] at hb
   clear hg
   have f0:=F0 nm g24 qf
   have kE:=KE nm g24 qf
   simp [vpre,vnext,veff,vval,aJ,St.frzs,St.frz,Vs.frz,hpLL,hpL,D.hp,h24,St.kill,b1,f0,f1,L1,kC,kO,kE,bt,Jj,curD]
   refine ⟨fun a _=>yU a,?_⟩
   intro γ2 hs' h1' hg
   clear hg
   have:=fin c3 ⟨qn,⟨γ2 27,some (78,2),⟨ar,⟨some gv,some Tv,v0 :: rv⟩⟩ :: ra ++ [⟨nm,⟨some g24,some (3,1),[0]⟩⟩]⟩,⟨qoid,qoT,qo⟩⟩ o3 ⟨trivial,⟨by simp [maxLen]; omega,fun a ha=>by
    rcases Qq.1 ha with h | h
    ·rcases Zz.1 h with h | h
     ·rw [h]; exact okA
     ·exact okR a h
    ·rw [Qg.1 h]; exact ⟨by show nm.length <= maxLen; simp only [maxLen]; omega,by simp [maxLen],fun _ _=>trivial⟩⟩,hok2⟩ (by
     have:=QA.atom okq smq hnl
     simpa [aO,cr,plS,ax,plI,fH] using this)
   simpa [az,cS,curD,aU,cStr] using this
 by_cases e2 : u = 2
 ·subst e2
  have L0 : LenOk 8 1:=⟨by omega,by simp only [maxLen]; omega⟩
  have hp0 : hpLL (qo.map cI) = false:=cL _
  have hol' : qo.length <= 5:=hol
  have L1 : LenOk 8 (qo.length + 1):=⟨by omega,by simp only [maxLen]; omega⟩
  simp [curD]
  repeat' apply And.intro
  all_goals
   refine aW c2 E89 (aD b c2 6 hb o2 (by omega)) (by simp) (by simp [curD]) (by simp) (by simp) fun r3 c3 hs3 hh3 hq3 hl3 o3=>?_
   obtain ⟨x,rfl,x0,x1,_⟩:=hq3
   have x1:=x1 (by omega)
   have hwx : IntKind.i64.wrap (x - 1) = x - 1:=aj (by omega) (by omega)
   have done:=fun g T=>fin c3 ⟨qn,⟨some ga,some (78,2),⟨ar,⟨some gv,some Tv,v0 :: rv⟩⟩ :: ra⟩,⟨g,T,qo ++ [x - 1]⟩⟩ o3 ⟨trivial,hok1,⟨by simp only [Qw,List.length_singleton,maxLen]; omega,fun _ _=>trivial⟩⟩ (by have:=QA.out (v:=x - 1) okq smq; simpa only [aO,plS,ax,plI] using this)
   cases hq : qoid with
   | none =>
     have hq0 : qo = []:=by have:=wh2.1.nil hq; simpa using this
     subst hq0
     cases qoT with
     | none =>
       simp [hwx,L0,bt,curD]
       intro γ hs' h1 hg
       clear hg
       simpa [az,cS,curD,eC] using done (γ 37) (some (3,1))
     | some T =>
       simp [hwx,L0,bt,curD]
       intro γ hs' h1 hg
       clear hg
       simpa [az,cS,curD,eC] using done (γ 37) (some (3,1))
   | some go =>
     obtain rfl : qoT = some (3,1):=TI go hq
     have hgo:=b3 go hq
     have k1 : ∀ j,B <= j \/ kphi (some go) j = none:=fun j=>by
      by_cases h : j = go
      ·left; omega
      ·right; simp only [kphi]; rw [if_neg (by simpa using Ne.symm h)]
     have kC:=hcur _ k1
     have kA : reV (kphi (some go)) (.d (.sl (some ga) (some (78,2)) ([.str ar,.sl (some gv) (some Tv) ([.int .i64 v0] :: rv.map cI)] :: ra.map aU))) = .d (.sl (some ga) (some (78,2)) ([.str ar,.sl (some gv) (some Tv) ([.int .i64 v0] :: rv.map cI)] :: ra.map aU)):=dd _ (fun j hj=>by
      have hne : j ≠ go:=fun e=>by
       subst e
       simp [V.ids,D.ids,idsLL,idsL] at hj
       rcases hj with h | h | h
       ·subst h; exact n3' hq
       ·subst h; exact n5' hq
       ·exact n7 j h j (by simp [hq]) rfl
      simp only [kphi]; rw [if_neg (by simpa using Ne.symm hne)]) (by simp [V.tk,D.tk,tkLL,tkL,tkLL_map])
     have kE : reLL (kphi (some go)) (qo.map cI ++ [[.int .i64 (x - 1)]]) = some (qo.map cI ++ [[.int .i64 (x - 1)]]):=by
      have e : qo.map cI ++ [[D.int .i64 (x - 1)]] = (qo ++ [x - 1]).map cI:=by simp
      rw [e]
      have hid : ∀ L : List Int,idsLL (L.map cI) = []:=fun L=>by simp
      exact kK _ (fun j hj=>by rw [hid] at hj; cases hj) (tkLL_map _ (by simp))
     have f9 : go ∉ idsLL [[D.int .i64 (x - 1)]]:=by simp [idsLL,idsL,D.ids]
     simp [hwx,St.kill,hgo,L1,kC,kA,kE,f9,bt,Jj,curD]
     intro γ hs' h1 hg
     clear hg
     simpa [az,cS,curD,eC] using done (γ 37) (some (3,1))
 by_cases e3 : u = 3
 ·subst e3
  have eR:=CO (g:=ga) (T:=(78,2)) (es:=[.str ar,.sl (some gv) (some Tv) ([.int .i64 v0] :: rv.map cI)] :: ra.map aU) (es':=[.str ar,.sl none none []] :: ra.map aU) (by simp)
  have eC3 : ∀ d,reV (one ga d) (.d (.sl b.id b.T (b.xs.map cW))) = .d (.sl b.id b.T (b.xs.map cW)):=fun d=>hcur _ fun j=>by
   by_cases h : j = ga
   ·left; omega
   ·exact .inr (bU h)
  have eO3 : ∀ d,reV (one ga d) (.d (.sl qoid qoT (qo.map cI))) = .d (.sl qoid qoT (qo.map cI)):=fun d=>dd (.d (dSl cI ⟨qoid,qoT,qo⟩)) fun j hj=>bU fun e=>by
   rcases aK.1 hj with h | h
   ·subst e; exact n3' h
   ·simp at h
  simp [b1,n1,n2,idsLL,idsL,D.ids,eR,eC3,eO3,bt,curD]
  intro γ hs' h1 hg
  clear hg
  have:=fin c2 ⟨qn,⟨some ga,some (78,2),⟨ar,nilS⟩ :: ra⟩,⟨qoid,qoT,qo⟩⟩ o2 ⟨trivial,⟨hok1.1,fun a ha=>by
   rcases Zz.1 ha with h | h
   ·rw [h]; exact ⟨okA.1,ch⟩
   ·exact okR a h⟩,hok2⟩ (by
    have:=QA.set (a':=⟨ar,[]⟩) okq smq rfl (by simp) (.inl rfl)
    simpa [aO,cr,plS,ax,plI,fH,nilS] using this)
  simpa [az,cS,curD,aU,cStr,nilS] using this
 by_cases e4 : u = 4
 ·subst e4
  have eC4 : ∀ d,reV (one gv d) (.d (.sl b.id b.T (b.xs.map cW))) = .d (.sl b.id b.T (b.xs.map cW)):=fun d=>hcur _ fun j=>by
   by_cases h : j = gv
   ·left; omega
   ·exact .inr (bU h)
  have eO4 : ∀ d,reV (one gv d) (.d (.sl qoid qoT (qo.map cI))) = .d (.sl qoid qoT (qo.map cI)):=fun d=>dd (.d (dSl cI ⟨qoid,qoT,qo⟩)) fun j hj=>bU fun e=>by
   rcases aK.1 hj with h | h
   ·subst e; exact n5' h
   ·simp at h
  have eR : ∀ x : Int,reV (one gv (.sl (some gv) (some Tv) ([.int .i64 x] :: rv.map cI))) (.d (.sl (some ga) (some (78,2)) ([.str ar,.sl (some gv) (some Tv) ([.int .i64 v0] :: rv.map cI)] :: ra.map aU))) = .d (.sl (some ga) (some (78,2)) ([.str ar,.sl (some gv) (some Tv) ([.int .i64 x] :: rv.map cI)] :: ra.map aU)):=fun x=>by
   have h1 : reLL (one gv (.sl (some gv) (some Tv) ([.int .i64 x] :: rv.map cI))) (ra.map aU) = some (ra.map aU):=kK _ (fun j hj=>bU fun e=>n4 (e ▸ hj)) (tkLL_map _ (by simp))
   have h2 : one gv (.sl (some gv) (some Tv) ([.int .i64 x] :: rv.map cI)) ga = none:=bU n1
   have h3 : one gv (.sl (some gv) (some Tv) ([.int .i64 x] :: rv.map cI)) gv = some (.sl (some gv) (some Tv) ([.int .i64 x] :: rv.map cI)):=by simp [one]
   simp [reV,reD,reLL,reL,h1,h2,h3]
  simp [curD]
  repeat' apply And.intro
  all_goals
   refine di c2 E121 (ca b c2 [-1,5] hb o2 (by simp) (by simp)) (by simp) (by simp [curD]) (by simp) fun r3 c3 hs3 hh3 hq3 hl3 o3=>?_
   obtain ⟨x,rfl,hx⟩:=hq3
   simp [b2,n1,n2,idsLL,idsL,D.ids,eR,eC4,eO4,bt,curD]
   intro γ hs' h1 hg
   clear hg
   have:=fin c3 ⟨qn,⟨some ga,some (78,2),⟨ar,⟨some gv,some Tv,x :: rv⟩⟩ :: ra⟩,⟨qoid,qoT,qo⟩⟩ o3 ⟨trivial,⟨hok1.1,fun a ha=>by
    rcases Zz.1 ha with h | h
    ·rw [h]; exact ⟨okA.1,by have:=okA.2.1; simpa using this,fun _ _=>trivial⟩
    ·exact okR a h⟩,hok2⟩ (by
     have:=QA.set (a':=⟨ar,x :: rv⟩) okq smq rfl (by simp [cr,plS]) (.inr ⟨x,by simp,by simp only [Zz,List.not_mem_nil,or_false] at hx; omega⟩)
     simpa [aO,cr,plS,ax,plI,fH] using this)
   simpa [az,cS,curD,aU,cStr] using this
 simp [bt,e0,e1,e2,e3,e4,curD]
 intro γ hs' h1 hg
 clear hg
 have:=fin c2 ⟨qn,⟨some ga,some (78,2),⟨ar,⟨some gv,some Tv,v0 :: rv⟩⟩ :: ra⟩,⟨qoid,qoT,qo⟩⟩ o2 ⟨trivial,hok1,hok2⟩ (by have:=QA.of okq smq; simpa only [aO,plS,ax,plI] using this)
 simpa [az,cS,curD,eC] using this
end
section
attribute [local simp] pS dSl cP cI cW
end
structure IntC (tI : Nat) (b : Sl Int) (n : Nat) (r : V) (cs : List V) : Prop where
 ex : ∃ (c' : Nat × Int) (y : Ints),r = .d (dSl cI y) /\ y.xs.length <= 5 /\ okS okI y /\ Good (cS cI y) (whS whI y) n /\ (∀ g,y.id = some g -> y.T = some (tI,1)) /\ cs = (curD b c').map V.d /\ curO b c'
theorem qL {tI : Nat} {P : Program} {E : Md} {args : List Operand} {f : FuncId} {rest As : List V} {k : Nat} {dst : Option Tmp} {K : St -> Prop} {σ : St} {b : Sl Int} (c : Nat × Int) (hE : E f = true)
  (hc : VX P f [] (.ptr 1000 0 0 :: As) (some ((curD b c).map V.d)) (fun n r cs _=>IntC tI b n r cs)) (hvs : args.map σ.ev = .ptr k 0 0 :: rest) (hm : σ.m k = some (.box ((curD b c).map V.d)))
  (hr : rpL σ.m rest = some As) (hk : keysVL rest = [])
  (hK : ∀ (y : Ints) c' n hs',σ.hs <= n -> n <= hs' -> y.xs.length <= 5 -> okS okI y -> Good (cS cI y) (whS whI y) n -> (∀ g ∈ idsL (cS cI y),g < hs') -> (∀ g,y.id = some g -> y.T = some (tI,1)) -> curO b c' -> K ({ σ with hs:=hs',m:=upd σ.m k (some (.box ((curD b c').map V.d))) }.put dst (.d (dSl cI y)))) : b9 P E f args (.ptr k 0 0 :: rest) dst K σ:=by
 refine l3 hE hvs hm hr (by simp [curD,dSl]) hc fun r cs' ws n hs' h1 h2 h3 h4 h5 h9=>?_
 obtain ⟨c',y,rfl,h6,h7,h8,h10,rfl,ho⟩:=h3.ex
 have : keysVL rest ++ keysVL ((curD b c).map V.d) = []:=by rw [hk]; simp [curD]
 rw [this]
 exact hK y c' n hs' h1 h2 h6 h7 h8 (fun g hg=>h9 g (by rw [bc] at hg; simpa [V.ids] using hg)) h10 ho
theorem BD (l : List Int) (n : Nat) (hl : l.length < n) : ∃ f : Nat,f < n /\ (f : Int) ∉ l:=by
 by_cases h : ∃ f : Nat,f < n /\ (f : Int) ∉ l
 ·exact h
 ·have h2 : ∀ x ∈ aI n,x ∈ l:=fun x hx=>by
   rw [b8] at hx
   have:=fun e=>h ⟨x.toNat,by omega,e⟩
   rw [show ((x.toNat : Nat) : Int) = x by omega] at this
   exact Xv this
  have:=rj (aI n) l (cC (gy n)) h2
  rw [bJ] at this; omega
section
attribute [local simp] pS dSl cP cI cW
theorem ki (b : Sl Int) (c : Nat × Int) (n : Int) (hb : b.xs.length <= 1048576) (hc : curO b c) (hn : n <= 5) : VX Tryz.prog 114 [] [.ptr 1000 0 0,.d (.int .i64 n)] (some ((curD b c).map V.d)) (fun m r cs _=>IntC 3 b m r cs):=by
 refine VX.of E sZ Tryz.func114 ?_ ?_ fun B hB=>?_
 ·simp
 ·rintro cs h
  cases h
  simp [curD]
 simp [Tryz.f114,curD]
 refine ae (X:=(Nat × Int) × List Int) (fun p=>curO b p.1 /\ (p.2.length : Int) <= max n 0) (fun p=>[(0,.ptr 1000 0 0),(1,.d (.int .i64 n)),(5,.own 7 0 p.2.length)]) (fun p=>[(1000,some (.box ((curD b p.1).map V.d))),(7,some (.row 3 1 (p.2.map cI)))]) (fun p=>5 - p.2.length) (c,[]) ⟨hc,by simp; omega⟩ (by simp) (by simp [curD]) ?_
 rintro ⟨c1,l⟩ hs t m ⟨ho,hl⟩ hh
 simp only at ho hl
 by_cases hlt : (l.length : Int) < n
 ·have hL : LenOk 8 (l.length + 1):=⟨by omega,by simp only [maxLen]; omega⟩
  refine anyQ fun Q=>?_
  simp [hlt,curD]
  refine aW c1 E89 (aD b c1 n hb ho (by omega)) (by simp) (by simp [curD]) (by simp) (by simp) fun r1 c2 hs1 hh1 hq1 hl1 o1=>?_
  obtain ⟨x,rfl,x0,x1,_⟩:=hq1
  have x1:=x1 (by omega)
  obtain ⟨k0,rfl⟩ : ∃ k : Nat,x = k:=⟨x.toNat,by omega⟩
  obtain ⟨N,rfl⟩ : ∃ N : Nat,n = N:=⟨n.toNat,by omega⟩
  obtain ⟨f,hf,hfl⟩:=BD l N (by omega)
  simp [hlt,curD]
  refine ae (X:=Nat) (fun k=>k < N) (fun k=>[(0,.ptr 1000 0 0),(1,.d (.int .i64 N)),(5,.own 7 0 l.length),(6,.d (.int .i64 k))]) (fun _=>[(1000,some (.box ((curD b c2).map V.d))),(7,some (.row 3 1 (l.map cI)))]) (fun k=>if k <= f then f - k else f + N - k) k0 (by omega) (by simp) (by simp [curD]) ?_
  intro k hs2 t m hk hh2
  have hh2' : hs1 <= hs2:=hh2
  have hh1' : hs <= hs1:=hh1
  have hge:=eH l k
  have hwk:=wr1 (i:=k) (by omega)
  by_cases hm : (k : Int) ∈ l
  ·have h8 : 0 <= idxL l k:=by simpa [hm] using hge
   have hkf : k ≠ f:=fun e=>hfl (e ▸ hm)
   obtain ⟨k',hrm,hk'⟩ : ∃ k' : Nat,((k : Int) + 1).tmod (N : Int) = (k' : Int) /\ k' = (k + 1) % N:=⟨(k + 1) % N,by rw [Int.tmod_eq_emod_of_nonneg (by omega)]; exact (Int.natCast_emod (k + 1) N).symm,rfl⟩
   have hN0 : N ≠ 0:=by omega
   have hk1 : (k + 1) % N = if k + 1 < N then k + 1 else 0:=by
    split
    ·rename_i h; exact Nat.mod_eq_of_lt h
    ·rw [show k + 1 = N by omega,Nat.mod_self]
   refine anyQ fun Q2=>?_
   simp
   refine ag (cb l k) (by simp [Jj]) rfl fun hs3 hh3=>?_
   simp at hh3
   simp [h8,hwk,hrm,hN0]
   refine back k' (by rw [hk',hk1]; split <;> omega) (by rw [hk',hk1]; (repeat' split) <;> omega) rfl (by simp <;> omega) (by simp) (by simp [curD])
  ·have h8 : ¬ 0 <= idxL l k:=by simpa [hm] using hge
   simp
   refine ag (cb l k) (by simp [Jj]) rfl fun hs3 hh3=>?_
   simp at hh3
   simp [h8,hL,Jj]
   exact back (c2,l ++ [(k : Int)]) ⟨o1,by simp; omega⟩ (by simp; omega) rfl (by simp <;> omega) (by simp) (by simp [curD])
 ·simp [hlt,curD,bt]
  intro γ hs' h1 hg
  obtain ⟨q1,q2⟩:=bz hg (k:=7) (T:=3) (sz:=1) (es:=l.map cI) (by simp)
  clear hg
  refine ⟨⟨c1,⟨γ 7,some (3,1),l⟩,by simp [Jj],by simp only; omega,⟨by simp only [maxLen]; omega,fun _ _=>trivial⟩,eh (fun g hg=>(q1 g hg).1) (by simpa using q2),fun _ _=>rfl,by simp [curD],ho⟩⟩
end
theorem erI (l : List Int) : erLL (l.map cI) = l.map cI:=by
 have:=bW eE l
 simpa [aR,ax] using this
@[simp] theorem start5 (a b c d e : V) (B : Nat) : St.start [a, b, c, d, e] B = ⟨B, B, [], upd (upd (upd (upd (upd (fun _ => .tup []) 4 e) 3 d) 2 c) 1 b) 0 a, fun _ => none⟩ := by
  simp only [St.start,St.mk.injEq,true_and,and_true]
  funext i; match i with | 0=>rfl | 1=>rfl | 2=>rfl | 3=>rfl | 4=>rfl | _ + 5=>rfl
section
attribute [local simp] aR aC ax ay pS cP cI
theorem jN (l : List Int) (hb : l.length <= 4294967296) :
  VC Tryz.prog 76 [.d (pS cI l)] (fun n r=>∃ g : Option Nat,r = .d (.sl g (some (3,1)) (l.map cI)) /\ (l = [] -> True) /\ (∀ k,g = some k -> n <= k) /\ (g = none -> l = [])):=by
 refine VC.of E sZ Tryz.func76 fun B=>?_
 have hL : LenOk 8 l.length:=⟨by omega,by simp only [maxLen]; omega⟩
 have hp : hpLL (l.map cI) = false:=cL l
 simp [Tryz.f76,hL,hp,Jj]
 intro γ hs' h1 hg
 obtain ⟨q1,q2⟩:=bz hg (k:=3) (T:=3) (sz:=1) (es:=l.map cI) (by simp)
 clear hg
 refine ⟨fun k hk=>(q1 k hk).1,fun h=>?_⟩
 exact Xv fun hl=>q2 (by simpa using hl) h
def avI (vs : List Int) (i : Nat) : List Int:=(aI i).filter fun v=>vs.contains v
theorem tn (vs : List Int) : avI vs 0 = []:=rfl
theorem dv (a : aH) : VC Tryz.prog 56 [.agg ((aB a).map V.d)] (fun _ r=>r = .d (pS cI (aS a.vars))):=by
 obtain ⟨nm,vs⟩:=a
 refine VC.ofL EP sZ Tryz.func56 fun B hl=>?_
 simp [Tryz.f56,aB,cStr]
 refine aE (X:=Nat) (fun i _=>i <= 5) (fun i=>[(1,.ptr 1 0 0),(3,.own 15 0 (avI vs i).length),(4,.d (.int .i64 i))]) (fun i=>[(1,some (.box [.d (.str nm),.d (.pl (vs.map cI))])),(15,some (.row 3 1 ((avI vs i).map cI)))]) (fun i=>5 - i) ?_ ?_
 ·refine (bA 3 15 3 1 (by omega) (by omega) (by simp)).bind ?_
  rintro _ rfl
  exact Lead.of ⟨0,by omega,rfl,rfl,Jv _,by simp [tn],by simp [tn]⟩
 intro i hs t m hi hh
 by_cases hlt : i < 5
 ·have hwi:=wr1 (i:=i) (by omega)
  have hlz : (i : Int) < 5:=by omega
  have hlen : (avI vs i).length <= i:=by
   have:=Xy (fun v=>vs.contains v) (aI i)
   rw [bJ] at this
   exact this
  have hL : LenOk 8 ((avI vs i).length + 1):=⟨by omega,by simp only [maxLen]; omega⟩
  have hs' : avI vs (i + 1) = avI vs i ++ if vs.contains (i : Int) then [(i : Int)] else []:=by
   rw [avI,avI,en,List.filter_append]
   cases h : vs.contains (i : Int) <;> simp only [List.filter_cons,List.filter_nil,h] <;> rfl
  obtain ⟨L,hLd⟩ : ∃ L,L = avI vs i:=⟨_,rfl⟩
  rw [<- hLd] at hL hs' hlen ⊢
  refine dx fun Q=>?_
  simp [hlz]
  refine ag (cX ⟨nm,vs⟩ i) (by simp [aB,cStr]) rfl fun hs1 hh1=>?_
  simp at hh1
  cases hc : vs.contains (i : Int)
  ·rw [hc] at hs'
   simp only [Zv,if_false,List.append_nil] at hs'
   simp [hwi]
   refine bg (i + 1) (by omega) (by omega) rfl (by simp <;> omega) ?_ ?_
   ·rw [hs']; simp
   ·rw [hs']; simp
  ·rw [hc] at hs'
   simp only [if_true] at hs'
   simp [hwi,hL,Jj]
   refine bg (i + 1) (by omega) (by omega) rfl (by simp <;> omega) ?_ ?_
   ·rw [hs']; simp
   ·rw [hs']; simp
 ·have hn : i = 5:=by omega
  subst hn
  have e : avI vs 5 = aS vs:=rfl
  rw [e]
  simp [Jj]
theorem n8 (u a r b s : List Int) (hu : u.length <= 1000) (hua : ∀ v ∈ u,v ∈ a \/ v ∈ b) (hr : r.length = a.length) (hs : s.length = b.length) :
  VC Tryz.prog 78 [.d (pS cI u),.d (pS cI a),.d (pS cI r),.d (pS cI b),.d (pS cI s)] (fun _ v=>v = .tup [.d (pS cI (if glB u a r b s then glR u a r b s else [])),.d (.bool (glB u a r b s))]):=by
 refine VC.ofL EP s78 Tryz.func78 fun B hl=>?_
 simp [Tryz.f78]
 refine ae (X:=Nat) (fun i=>i <= u.length /\ bP (glV a r b s) u i) (fun i=>[(1,.d (.pl (a.map cI))),(2,.d (.pl (r.map cI))),(3,.d (.pl (b.map cI))),(4,.d (.pl (s.map cI))),(12,.own 17 0 i),(18,.d (.pl (u.map cI))),(19,.d (.int .i64 u.length)),(20,.d (.int .i64 i))]) (fun i=>[(17,some (.row 3 1 ((glR (u.take i) a r b s).map cI)))]) (fun i=>u.length - i) 0 ⟨by simp,aQ⟩ (by simp) (by simp [glR]) ?_
 rintro i hs0 t m ⟨hi,hal⟩ hh
 by_cases hlt : i < u.length
 ·have hwi:=wr1 (i:=i) (by omega)
  have hL : LenOk 8 (i + 1):=⟨by omega,by simp only [maxLen]; omega⟩
  have hgl : (glR (u.take i) a r b s).length = i:=by simp [glR]; omega
  have hst : glR (u.take (i + 1)) a r b s = glR (u.take i) a r b s ++ [if a.contains u[i] then bX a r u[i] else bX b s u[i]]:=by
   rw [Jz hlt]; simp only [glR,Zj,Qz,List.map_nil]
  obtain ⟨G,hG⟩ : ∃ G,G = glR (u.take i) a r b s:=⟨_,rfl⟩
  rw [<- hG] at hst hgl ⊢
  have hm:=hua _ (Jy hlt)
  obtain ⟨v,hv⟩ : ∃ v,v = u[i]:=⟨_,rfl⟩
  rw [<- hv] at hm hst
  have key : ∀ (x y : List Int),y.length = x.length -> v ∈ x -> ∃ p : Nat,idxL x v = p /\ ∃ h : p < y.length,bX x y v = y[p]:=fun x y hl hx=>by
   have h1:=(iS hx).1
   have h0 : 0 <= idxL x v:=by rw [idxL,if_pos hx]; omega
   exact ⟨(idxL x v).toNat,(Int.toNat_of_nonneg h0).symm,by omega,by rw [bX,ak _ (by omega)]⟩
  have kno : ∀ x : List Int,v ∉ x -> idxL x v = -1:=fun x hx=>by rw [idxL,if_neg hx]
  simp [hlt,<- hv]
  refine ag (dC a v) (by simp) rfl fun hs1 hh1=>?_
  simp at hh1
  simp
  refine ag (dC b v) (by simp) rfl fun hs2 hh2=>?_
  simp at hh2
  by_cases hva : v ∈ a
  ·obtain ⟨p,hpa,hp,hpr⟩:=key a r hr hva
   have hca : a.contains v = true:=Zw.2 hva
   rw [hca,if_pos rfl,hpr] at hst
   by_cases hvb : v ∈ b
   ·obtain ⟨q,hqb,hq,hqr⟩:=key b s hs hvb
    have hcb : b.contains v = true:=Zw.2 hvb
    have hgv : glV a r b s v = decide (r[p] = s[q]):=by rw [glV,hca,hcb,hpr,hqr]; simp
    by_cases he : r[p] = s[q]
    ·simp [hpa,hqb,hp,hq,he,hwi,hL,hgl,Jj]
     exact back (i + 1) ⟨by omega,aM hal hlt (by rw [<- hv,hgv]; simp [he])⟩ (by omega) rfl (by simp <;> omega) (by simp) (by simp [hst,he])
    ·have hbad:=bn (p:=glV a r b s) hlt (by rw [<- hv,hgv]; simp [he])
     have hg : glB u a r b s = false:=hbad
     simp [hpa,hqb,hp,hq,he,hg]
   ·have hqb:=kno b hvb
    have hcb : b.contains v = false:=by simpa using hvb
    have hgv : glV a r b s v = true:=by rw [glV,hcb]; simp
    simp [hpa,hqb,hp,hwi,hL,hgl,Jj]
    exact back (i + 1) ⟨by omega,aM hal hlt (by rw [<- hv,hgv])⟩ (by omega) rfl (by simp <;> omega) (by simp) (by simp [hst])
  ·have hpa:=kno a hva
   have hca : a.contains v = false:=by simpa using hva
   have hvb:=hm.resolve_left hva
   obtain ⟨q,hqb,hq,hqr⟩:=key b s hs hvb
   rw [hca,hqr] at hst
   simp only [Zv,if_false] at hst
   have hgv : glV a r b s v = true:=by rw [glV,hca]; simp
   simp [hpa,hqb,hq,hwi,hL,hgl,Jj]
   exact back (i + 1) ⟨by omega,aM hal hlt (by rw [<- hv,hgv])⟩ (by omega) rfl (by simp <;> omega) (by simp) (by simp [hst])
 ·have hd:=aP hal (by omega)
  have hg : glB u a r b s = true:=hd
  have hn : i = u.length:=by omega
  subst hn
  simp [hg,Jj,glR]
end
section
attribute [local simp] aR aC ax ay pS cP cI dSl
theorem Ab {a b : List Int} {i : Nat} (h : i < b.length) : uniL a (b.take (i + 1)) = insI (uniL a (b.take i)) b[i]:=by
 rw [Jz h,uniL,List.foldl_append]; rfl
theorem BQ (l : List Int) (n : Int) : (insI l n).length <= l.length + 1:=by
 rw [insI]
 split
 ·omega
 ·simp only [Qw,Zq,Qv,List.length_drop]; omega
theorem vd (a : List Int) : ∀ (b : List Int),(uniL a b).length <= a.length + b.length:=by
 intro b
 induction b generalizing a with
 | nil=>simp [uniL]
 | cons x r ih =>
   have h1:=ih (insI a x)
   have h2:=BQ a x
   have : uniL a (x :: r) = uniL (insI a x) r:=rfl
   rw [this,Qv]; omega
theorem mJ (a b : Ints) (hl : a.xs.length + b.xs.length <= 1000) : VC Tryz.prog 77 [.d (dSl cI a),.d (dSl cI b)] (fun n r=>∃ y : Ints,r = .d (dSl cI y) /\ y.xs = uniL a.xs b.xs /\ okS okI y /\ Good (cS cI y) (whS whI y) n):=by
 refine VC.ofB E s77 Tryz.func77 fun B hB=>?_
 obtain ⟨aid,aT,al⟩:=a
 obtain ⟨bid,bT,bl⟩:=b
 simp only at hl
 have hbB : ∀ g,bid = some g -> g < B:=fun g h=>hB g (by simp [idsVL,V.ids,D.ids,h])
 simp [Tryz.f77]
 refine bb ((jN al (by omega)).er (As:=[.d (dSl cI ⟨aid,aT,al⟩)]) (by simp [erI])) (by simp) (by simp) fun n1 hs1 r1 hn1 hm1 hp1 hr1=>?_
 obtain ⟨g1,rfl,_,hg1,hg1n⟩:=hp1
 have hi1 : ∀ k,g1 = some k -> k < hs1:=fun k hk=>hr1 k (by simp [V.ids,D.ids,hk])
 simp at hn1
 simp
 refine aE (X:=Nat × Option Nat) (fun p h=>p.1 <= bl.length /\ (∀ g,p.2 = some g -> B <= g /\ g < h) /\ (p.2 = none -> uniL al (bl.take p.1) = [])) (fun p=>[(5,.d (.sl p.2 (some (3,1)) ((uniL al (bl.take p.1)).map cI))),(11,.d (.sl bid bT (bl.map cI))),(12,.d (.int .i64 bl.length)),(13,.d (.int .i64 p.1))]) (fun _=>[]) (fun p=>bl.length - p.1) ?_ ?_
 ·exact Lead.of ⟨(0,g1),⟨by simp,fun g hg=>⟨by have:=hg1 g hg; omega,hi1 g hg⟩,fun h=>by simpa [uniL] using hg1n h⟩,rfl,rfl,Jv _,by simp [uniL],by simp⟩
 rintro ⟨i,id⟩ hs t m ⟨hi,hid,hnone⟩ hh
 simp only at hi hid hnone
 by_cases hlt : i < bl.length
 ·have hwi:=wr1 (i:=i) (by omega)
  have hst:=Ab (a:=al) hlt
  have hul:=vd al (bl.take i)
  rw [Zq] at hul
  obtain ⟨l,hld⟩ : ∃ l,l = uniL al (bl.take i):=⟨_,rfl⟩
  obtain ⟨n,hn⟩ : ∃ n,n = bl[i]:=⟨_,rfl⟩
  rw [<- hld,<- hn] at hst
  rw [<- hld] at hul hnone ⊢
  refine dx fun Q=>?_
  simp [hlt,<- hn]
  refine ae (X:=Nat) (fun k=>k <= l.length /\ bP (fun x=>decide (x < n)) l k) (fun k=>[(5,.d (.sl id (some (3,1)) (l.map cI))),(7,.d (.int .i64 n)),(8,.d (.int .i64 k)),(11,.d (.sl bid bT (bl.map cI))),(12,.d (.int .i64 bl.length)),(13,.d (.int .i64 i))]) (fun _=>[]) (fun k=>l.length - k) 0 ⟨by simp,aQ⟩ (by simp) (by simp) ?_
  rintro k hs2 t2 m2 ⟨hk,hal⟩ hh2
  by_cases hkl : k < l.length
  ·by_cases hless : l[k] < n
   ·have hwk:=wr1 (i:=k) (by omega)
    refine anyQ fun Q=>?_
    simp [hkl,hless,hwk]
    exact back (k + 1) ⟨by omega,aM hal hkl (by simp [hless])⟩ (by omega) rfl (by simp <;> omega) (by simp) (by simp)
   have hK : (l.takeWhile fun x=>decide (x < n)).length = k:=js hal hk fun h=>by simp [hless]
   by_cases heq : l[k] = n
   ·have hins : insI l n = l:=by rw [insI,hK,ak _ hkl,if_pos heq]
    simp [hkl,hless,heq,hwi,show ¬ (k : Int) = l.length by omega]
    refine bg (i + 1,id) ⟨by simp only; omega,fun g hg=>?_,fun h=>?_⟩ (by simp only; omega) rfl (by simp <;> omega) (by simp [hst,hins]) (by simp)
    ·have:=hid g hg; exact ⟨this.1,by simp; omega⟩
    ·rw [hst,hins]; exact hnone h
   ·have hins : insI l n = l.take k ++ n :: l.drop k:=by rw [insI,hK,ak _ hkl,if_neg heq]
    simp [hkl,hless,heq,hwi,show ¬ (k : Int) = l.length by omega,show k <= l.length by omega]
    have hki : k <= l.length:=hk
    have L1 : LenOk 8 (k + 1):=⟨by omega,by simp only [maxLen]; omega⟩
    have L1' : LenOk 8 1:=⟨by omega,by simp only [maxLen]; omega⟩
    have L2 : LenOk 8 (k + 1 + (l.length - k)):=⟨by omega,by simp only [maxLen]; omega⟩
    have L2' : LenOk 8 (1 + l.length):=⟨by omega,by simp only [maxLen]; omega⟩
    have hmn : min k l.length = k:=by omega
    have hpl : ∀ L : List Int,hpLL (L.map cI) = false:=fun L=>cL L
    repeat' apply And.intro
    all_goals
     refine bb ((jN (l.take k) (by simp; omega)).er (by simp only [<- List.map_take]; simp [-List.map_take,erI])) (by simp) (by simp) fun n2 hs3 r2 hn2 hm2 hp2 hr2=>?_
     obtain ⟨g2,rfl,_,hg2,hg2n⟩:=hp2
     have hn2' : hs2 <= n2:=hn2
     have hins2 : l.take k ++ n :: l.drop k = insI l n:=hins.symm
     cases g2 with
     | none =>
       have hk0 : k = 0:=by
        have:=congrArg List.length (hg2n rfl)
        simp only [Zq,List.length_nil] at this
        by_cases h : l.length = 0
        ·omega
        ·omega
       subst hk0
       have hins3 : insI l n = n :: l:=by simpa using hins
       simp [L1',L2',hwi,Jj]
       refine jG.lead (fD 49 (T:=3) (sz:=1) (es:=(n :: l).map cI) (by simp)) ?_
       rintro _ ⟨γ,hs',h2,hg,rfl⟩
       obtain ⟨q1,q2⟩:=bz hg (k:=49) (T:=3) (sz:=1) (es:=(n :: l).map cI) (by simp)
       clear hg
       simp only at h2 q1
       have hp0:=hpl (n :: l)
       have hp1:=hpl l
       refine bg (i + 1,γ 49) ⟨by simp only; omega,fun g hg=>?_,fun h=>absurd h (q2 (by simp))⟩ (by simp only; omega) rfl (by simp <;> omega) (by simp [hst,hins3,hp0,hp1,Vs.frz,St.frz,Nat.add_comm 1,Jj]) (by simp)
       exact ⟨(q1 g hg).1,by simpa using (q1 g hg).2⟩
     | some g =>
       have hgn:=hg2 g rfl
       have kg : ∀ j,j < n2 -> kphi (some g) j = none:=fun j hj=>by simp only [kphi]; rw [if_neg (by simp; omega)]
       have e5 : reV (kphi (some g)) (.d (.sl id (some (3,1)) (l.map cI))) = .d (.sl id (some (3,1)) (l.map cI)):=dd (.d (dSl cI ⟨id,some (3,1),l⟩)) fun j hj=>kg j (by
        rcases aK.1 hj with h | h
        ·have:=(hid j h).2; omega
        ·simp at h)
       have eD : ∀ (T0 : Option (TypeId × Nat)) (L : List Int),reV (kphi (some g)) (.d (.sl id T0 (L.map cI))) = .d (.sl id T0 (L.map cI)):=fun T0 L=>dd (.d (dSl cI ⟨id,T0,L⟩)) fun j hj=>kg j (by
        rcases aK.1 hj with h | h
        ·have:=(hid j h).2; omega
        ·simp at h)
       have e11 : reV (kphi (some g)) (.d (.sl bid bT (bl.map cI))) = .d (.sl bid bT (bl.map cI)):=dd (.d (dSl cI ⟨bid,bT,bl⟩)) fun j hj=>kg j (by
        rcases aK.1 hj with h | h
        ·have:=hbB j h; omega
        ·simp at h)
       have hgB : B <= g:=by omega
       have hids : ∀ L : List Int,g ∉ idsLL (L.map cI):=fun L=>by simp
       simp [hgB,L1,L2,hmn,hwi,St.kill,e5,e11,eD,<- List.map_take,<- List.map_drop,Jj]
       refine ⟨by simp [idsLL,idsL,D.ids],?_⟩
       have a1 : k + 1 + (l.length - k) = l.length + 1:=by omega
       have hil : (insI l n).length = l.length + 1:=by rw [hins]; simp; omega
       refine jG.lead (fD 49 (T:=3) (sz:=1) (es:=(insI l n).map cI) (by rw [hins]; simp [List.map_take,List.map_drop])) ?_
       rintro _ ⟨γ,hs',h2,hg,rfl⟩
       obtain ⟨q1,q2⟩:=bz hg (k:=49) (T:=3) (sz:=1) (es:=(insI l n).map cI) (by rw [hins]; simp [List.map_take,List.map_drop])
       clear hg
       simp only at h2 q1
       have hp0:=hpl (insI l n)
       refine bg (i + 1,γ 49) ⟨by simp only; omega,fun g hg=>?_,fun h=>absurd h (q2 (by rw [hins]; simp))⟩ (by simp only; omega) rfl (by simp <;> omega) ?_ (by simp)
       ·exact ⟨(q1 g hg).1,by simpa using (q1 g hg).2⟩
       ·simp [hst,hp0,hil,a1,Vs.frz,St.frz,Jj]
  ·have hkn : k = l.length:=by omega
   subst hkn
   have hK : (l.takeWhile fun x=>decide (x < n)).length = l.length:=js hal hk fun h=>absurd h hkl
   have hins : insI l n = l ++ [n]:=by
    have h0 : l.getD l.length (n + 1) ≠ n:=by simp [List.getD]; omega
    rw [insI,hK,if_neg h0]; simp
   simp [hwi]
   have L1 : LenOk 8 (l.length + 1):=⟨by omega,by simp only [maxLen]; omega⟩
   have L1' : LenOk 8 1:=⟨by omega,by simp only [maxLen]; omega⟩
   have hpl : ∀ L : List Int,hpLL (L.map cI) = false:=fun L=>cL L
   repeat' apply And.intro
   all_goals
    refine bb ((jN l (by omega)).er (by simp [erI,Jj])) (by simp) (by simp) fun n2 hs3 r2 hn2 hm2 hp2 hr2=>?_
    obtain ⟨g2,rfl,_,hg2,hg2n⟩:=hp2
    have hn2' : hs2 <= n2:=hn2
    cases g2 with
    | none =>
      have hl0 : l = []:=hg2n rfl
      subst hl0
      have hins3 : insI [] n = [n]:=by simpa using hins
      simp [L1',hwi,Jj]
      refine jG.lead (fD 49 (T:=3) (sz:=1) (es:=[n].map cI) (by simp)) ?_
      rintro _ ⟨γ,hs',h2,hg,rfl⟩
      obtain ⟨q1,q2⟩:=bz hg (k:=49) (T:=3) (sz:=1) (es:=[n].map cI) (by simp)
      clear hg
      simp only at h2 q1
      have hp0:=hpl [n]
      refine bg (i + 1,γ 49) ⟨by simp only; omega,fun g hg=>?_,fun h=>absurd h (q2 (by simp))⟩ (by simp only; omega) rfl (by simp <;> omega) (by simp [hst,hins3,hp0,Vs.frz,St.frz,Jj]) (by simp)
      exact ⟨(q1 g hg).1,by simpa using (q1 g hg).2⟩
    | some g =>
      have hgn:=hg2 g rfl
      have kg : ∀ j,j < n2 -> kphi (some g) j = none:=fun j hj=>by simp only [kphi]; rw [if_neg (by simp; omega)]
      have eD : ∀ (T0 : Option (TypeId × Nat)) (L : List Int),reV (kphi (some g)) (.d (.sl id T0 (L.map cI))) = .d (.sl id T0 (L.map cI)):=fun T0 L=>dd (.d (dSl cI ⟨id,T0,L⟩)) fun j hj=>kg j (by
       rcases aK.1 hj with h | h
       ·have:=(hid j h).2; omega
       ·simp at h)
      have e11 : reV (kphi (some g)) (.d (.sl bid bT (bl.map cI))) = .d (.sl bid bT (bl.map cI)):=dd (.d (dSl cI ⟨bid,bT,bl⟩)) fun j hj=>kg j (by
       rcases aK.1 hj with h | h
       ·have:=hbB j h; omega
       ·simp at h)
      have eD0 : ∀ (T0 : Option (TypeId × Nat)),reV (kphi (some g)) (.d (.sl id T0 [])) = .d (.sl id T0 []):=fun T0=>eD T0 []
      have hgB : B <= g:=by omega
      simp [hgB,L1,hwi,St.kill,eD,eD0,e11,Jj]
      refine ⟨by simp [idsLL,idsL,D.ids],?_⟩
      refine jG.lead (fD 49 (T:=3) (sz:=1) (es:=(insI l n).map cI) (by rw [hins]; simp)) ?_
      rintro _ ⟨γ,hs',h2,hg,rfl⟩
      obtain ⟨q1,q2⟩:=bz hg (k:=49) (T:=3) (sz:=1) (es:=(insI l n).map cI) (by rw [hins]; simp)
      clear hg
      simp only at h2 q1
      have hp0:=hpl (insI l n)
      have hil : (insI l n).length = l.length + 1:=by rw [hins]; simp
      refine bg (i + 1,γ 49) ⟨by simp only; omega,fun g hg=>?_,fun h=>absurd h (q2 (by rw [hins]; simp))⟩ (by simp only; omega) rfl (by simp <;> omega) ?_ (by simp)
      ·exact ⟨(q1 g hg).1,by simpa using (q1 g hg).2⟩
      ·simp [hst,hp0,hil,Vs.frz,St.frz,Jj]
 ·have hn : i = bl.length:=by omega
  subst hn
  simp [hlt,Jj]
  have hul:=vd al bl
  exact ⟨⟨id,some (3,1),uniL al bl⟩,⟨rfl,rfl,rfl⟩,rfl,⟨by simp only [maxLen]; omega,by simp [okI]⟩,eh (fun g hg=>(hid g hg).1) (fun h hn=>h (by simpa using hnone hn))⟩
end
section
attribute [local simp] aR aC ax ay pS cP cI
theorem nS (row cols : List Int) (hb : cols.length <= 4294967296) (hc : ∀ c ∈ cols,0 <= c /\ c < row.length) : VC Tryz.prog 81 [.d (pS cI row),.d (pS cI cols)] (fun _ r=>r = .d (pS cI (bp cols row))):=by
 refine VC.ofL EP sZ Tryz.func81 fun B hl=>?_
 simp [Tryz.f81]
 refine ae (X:=Nat) (fun i=>i <= cols.length) (fun i=>[(0,.d (.pl (row.map cI))),(5,.own 8 0 i),(9,.d (.pl (cols.map cI))),(10,.d (.int .i64 cols.length)),(11,.d (.int .i64 i))])
  (fun i=>[(8,some (.row 3 1 ((bp (cols.take i) row).map cI)))]) (fun i=>cols.length - i) 0 (by simp) (by simp) (by simp [bp]) ?_
 intro i hs t m hi hh
 by_cases hlt : i < cols.length
 ·have hwi:=wr1 (i:=i) (by omega)
  have h1:=hc _ (Jy hlt)
  have hst:=pM hlt hc
  obtain ⟨k,hk⟩ : ∃ k : Nat,cols[i] = (k : Int):=⟨cols[i].toNat,by omega⟩
  have hkl : k < row.length:=by omega
  have hL : LenOk 8 (i + 1):=⟨by omega,by simp only [maxLen]; omega⟩
  have hpl : (bp (cols.take i) row).length = i:=by rw [dp,Zq]; omega
  simp only [hk,Int.toNat_natCast] at hst
  simp [hlt,hk,hkl,hL,hwi,hpl]
  exact back (i + 1) (by omega) (by omega) rfl (by simp <;> omega) (by simp) (by simp [hst])
 ·have hn : i = cols.length:=by omega
  subst hn
  simp [Jj,dp]
theorem qz (l : List (List Int)) (h1 : l.length <= 4294967296) (h2 : ∀ r ∈ l,r.length <= 4294967296) : VC Tryz.prog 79 [.d (pS (cP cI) l)] (fun _ r=>r = .d (pS (cP cI) (srtU l))):=
 VC.plain (iB _ l (Jv _) h1 h2) (fun n r h=>by
  obtain ⟨y,rfl,hp,_,_⟩:=h
  have e:=iQ (c:=cS cI) (e:=cP cI) (pl:=plS plI) (fun s=>iQ eE s) y
  rw [hp] at e
  simp only [cS,cP,erL,List.cons.injEq,and_true] at e
  simp only [rp,e,pS]) (by rw [pS]; rfl)
theorem kU (d : PDb) (a : aH) (hlk : lkB d a.rel = true) (har : (lkR d a.rel).ar = a.vars.length) (hv5 : a.vars.length <= 5) (hv : ∀ v ∈ a.vars,0 <= v /\ v < 5) :
  VC Tryz.prog 97 [.agg ((eDb d).map V.d),.agg ((aB a).map V.d)] (fun _ r=>r = .agg ((ao ⟨(aS a.vars).length,abR d a⟩).map V.d)):=by
 have hr:=um hlk
 have hr16:=kH hlk
 obtain ⟨dl,hdl⟩ : ∃ dl,dl = d.tabs:=⟨_,rfl⟩
 have hde : (eDb d).map V.d = [V.d (.pl (dl.map eTab))]:=by rw [hdl]; simp [eDb]
 obtain ⟨nm,vs⟩:=a
 simp only at hlk har hv5 hv hr hr16
 have hav : (aS vs).length <= 5:=by
  have:=Xy (fun v=>vs.contains v) (aI 5)
  rw [bJ] at this
  exact this
 have hAVm : ∀ c ∈ aS vs,0 <= c /\ c < ((5 : Nat) : Int):=fun c hc=>by
  have:=(List.mem_filter.1 hc).1
  have:=b8.1 this
  omega
 have hrl:=fun (t : List Int) (ht : t ∈ (lkR d nm).rows)=>(bK hr ht).1
 refine VC.ofL EP s97 Tryz.func97 fun B hl=>?_
 simp [Tryz.f97,aB,cStr,hde]
 refine aF (dv ⟨nm,vs⟩) (by simp [aB,cStr]) fun hs1 hh1 hl1=>?_
 simp at hh1
 obtain ⟨AV,hAV⟩ : ∃ AV,AV = aS vs:=⟨_,rfl⟩
 rw [<- hAV] at hl1 hav hAVm ⊢
 simp
 refine aF (fe d nm) (by simp [hde]) fun hs2 hh2 hl2=>?_
 simp at hh2
 obtain ⟨R,hR⟩ : ∃ R,R = lkR d nm:=⟨_,rfl⟩
 have hab : abR d ⟨nm,vs⟩ = srtU (abL vs R.rows):=by rw [hR]; rfl
 rw [<- hR] at hl2 har hr16 hrl ⊢
 rw [hab,hlk]
 obtain ⟨ra,rl⟩:=R
 simp only at har hr16 hrl
 subst har
 have hco : eA 5 vs = true:=by
  simp only [eA,Jq,Xj,Jk,inR]
  refine ⟨hv5,fun v hm=>?_⟩
  have:=hv v hm
  have hw : IntKind.i64.wrap (5 - 1) = 4:=by decide
  rw [hw]; omega
 simp [ao]
 refine ag (iy 5 vs) (by simp) rfl fun hs3 hh3=>?_
 simp at hh3
 rw [hco]
 simp
 refine aE (X:=Nat) (fun i _=>i <= rl.length) (fun i=>[(3,.ptr 3 0 0),(4,.ptr 4 0 0),(5,.d (.pl (AV.map cI))),(6,.ptr 6 0 0),(9,.own 92 0 (abL vs (rl.take i)).length),(47,.d (.pl (rl.map (cP cI)))),(48,.d (.int .i64 rl.length)),(49,.d (.int .i64 i))])
  (fun i=>[(3,some (.box [.d (.str nm),.d (.pl (vs.map cI))])),(4,some (.box [.d (.int .i64 0),.d (.sl none none [])])),(6,some (.box [.d (.int .i64 AV.length),.d (.sl none none [])])),(92,some (.row 28 1 ((abL vs (rl.take i)).map (cP cI))))]) (fun i=>rl.length - i) ?_ ?_
 ·refine (bA 9 92 28 1 (by omega) (by omega) (by simp)).bind ?_
  rintro _ rfl
  exact Lead.of ⟨0,by omega,rfl,rfl,Jv _,by simp [abL],by simp [abL]⟩
 intro i hs t m hi hh
 by_cases hlt : i < rl.length
 ·have hwi:=wr1 (i:=i) (by omega)
  have hst:=At (vs:=vs) hlt
  have hal:=xh vs (rl.take i)
  rw [Zq] at hal
  obtain ⟨row,hrow⟩ : ∃ row,row = rl[i]:=⟨_,rfl⟩
  have hrvl : row.length = vs.length:=by
   have:=hrl _ (Jy hlt)
   rw [<- hrow] at this; omega
  rw [<- hrow] at hst
  obtain ⟨AL,hAL⟩ : ∃ AL,AL = abL vs (rl.take i):=⟨_,rfl⟩
  rw [<- hAL] at hst hal ⊢
  have hL : LenOk 24 (AL.length + 1):=⟨by omega,by simp only [maxLen]; omega⟩
  have L5 : LenOk 8 5:=⟨by omega,by simp only [maxLen]; omega⟩
  refine dx fun Q=>?_
  simp [hlt,<- hrow,L5]
  refine ae (X:=Nat) (fun j=>j <= vs.length) (fun j=>[(3,.ptr 3 0 0),(4,.ptr 4 0 0),(5,.d (.pl (AV.map cI))),(6,.ptr 6 0 0),(9,.own 92 0 AL.length),(11,.d (.pl (row.map cI))),(12,.own 53 0 5),(13,.d (.bool (fitJ vs row j))),(47,.d (.pl (rl.map (cP cI)))),(48,.d (.int .i64 rl.length)),(49,.d (.int .i64 i)),(55,.d (.pl (vs.map cI))),(56,.d (.int .i64 vs.length)),(57,.d (.int .i64 j))])
   (fun j=>[(3,some (.box [.d (.str nm),.d (.pl (vs.map cI))])),(4,some (.box [.d (.int .i64 0),.d (.sl none none [])])),(6,some (.box [.d (.int .i64 AV.length),.d (.sl none none [])])),(53,some (.row 3 1 ((valJ vs row j).map cI))),(92,some (.row 28 1 (AL.map (cP cI))))]) (fun j=>vs.length - j) 0 (by simp) (by simp [zh]) (by simp [Ah]) ?_
  intro j hs4 t m hj hh4
  by_cases hjl : j < vs.length
  ·have hwj:=wr1 (i:=j) (by omega)
   have hjr : j < row.length:=by omega
   have hvj:=hv _ (Jy hjl)
   obtain ⟨v,hve⟩ : ∃ v : Nat,vs[j] = (v : Int):=⟨vs[j].toNat,by omega⟩
   have hv5' : v < 5:=by omega
   have hix:=(iS (Jy hjl)).1
   obtain ⟨p,hp⟩ : ∃ p : Nat,idxL vs (v : Int) = (p : Int):=by
    rw [<- hve]
    have:=eH vs vs[j]
    have h2 : vs.contains vs[j] = true:=by simp
    rw [h2] at this
    exact ⟨(idxL vs vs[j]).toNat,by have:=of_decide_eq_true this; omega⟩
   have hpr : p < row.length:=by rw [hve,hp] at hix; omega
   have hf:=zg vs row j
   have hvs:=Ag (vs:=vs) (row:=row) hjl hjr
   have hvl:=vj vs row j
   rw [ak _ hjl,ak _ hjr,bX,hve,hp,Int.toNat_natCast,ak _ hpr] at hf
   rw [hve,Int.toNat_natCast] at hvs
   simp [hjl,hve]
   refine ag (dC vs v) (by simp) rfl fun hs5 hh5=>?_
   simp at hh5
   rw [hp]
   cases hfj : fitJ vs row j
   ·rw [hfj] at hf
    simp [hwj,hjr,hpr,hv5',hvl,-List.map_set]
    exact back (j + 1) (by omega) (by omega) rfl (by simp <;> omega) (by simp [hf]) (by rw [hvs]; simp)
   ·rw [hfj] at hf
    simp [hwj,hjr,hpr,hv5',hvl,-List.map_set]
    exact back (j + 1) (by omega) (by omega) rfl (by simp <;> omega) (by simp [hf]) (by rw [hvs]; simp)
  ·have hn : j = vs.length:=by omega
   subst hn
   have hvl5:=vj vs row vs.length
   rw [vi hrvl] at hvl5
   rw [Bk hrvl,vi hrvl]
   cases hfr : fitR vs row
   ·simp [hwi]
    refine bg (i + 1) (by omega) (by omega) rfl (by simp <;> omega) ?_ ?_
    ·rw [hst,hfr]; simp
    ·rw [hst,hfr]; simp
   ·simp [hwi]
    refine aF (nS (valL vs row) AV (by omega) (fun c hc=>by rw [hvl5]; exact hAVm c hc)) (by simp [Jj,hvl5]) fun hs5 hh5 hl5=>?_
    simp at hh5
    simp [hwi,hL,Jj]
    refine bg (i + 1) (by omega) (by omega) rfl (by simp <;> omega) ?_ ?_
    ·rw [hst,hfr]; simp [hAV]
    ·rw [hst,hfr]; simp [hAV]
 ·have hn : i = rl.length:=by omega
  subst hn
  simp
  refine aF (qz (abL vs rl) (by have:=xh vs rl; omega) (fun r hr=>by have:=GY r hr; omega)) (by simp [Jj]) fun hs5 hh5 hl5=>?_
  simp at hh5
  simp
end
section
attribute [local simp] aR aC ax ay pS cP cI
theorem l7 (a b : List Int) (hl : a.length + b.length <= 1000) : VC Tryz.prog 77 [.d (pS cI a),.d (pS cI b)] (fun n r=>∃ y : Ints,r = .d (dSl cI y) /\ y.xs = uniL a b /\ okS okI y /\ Good (cS cI y) (whS whI y) n):=by
 refine VC.untrack (mJ ⟨none,none,[]⟩ ⟨none,none,[]⟩ (by simp)) (by simp [pnVL,V.pn,D.pn]) fun As h1 h2 h3=>?_
 obtain ⟨x,y,rfl,⟨hx,tx,_⟩,hy,ty,_⟩:=CX h1 h2 h3
 obtain ⟨s,rfl,e1⟩:=uV tk_I hx tx
 obtain ⟨t,rfl,e2⟩:=uV tk_I hy ty
 simp [plS] at e1 e2
 have:=mJ s t (by rw [e1,e2]; exact hl)
 rw [e1,e2] at this
 exact this
theorem sA (a b : List Int) (hl : a.length + b.length <= 1000) : VC Tryz.prog 77 [.d (pS cI a),.d (pS cI b)] (fun _ r=>r = .d (pS cI (uniL a b))):=by
 refine VC.plain (l7 a b hl) (fun n r h=>?_) (by rw [pS]; rfl)
 obtain ⟨y,rfl,e1,_,_⟩:=h
 have e:=iQ (c:=cI) (e:=cI) (pl:=plI) eE y
 simp [plS,e1,cS,erL] at e
 simp only [rp,e,pS]
theorem kV (d : PDb) (a : aH) (hlk : lkB d a.rel = true) (har : (lkR d a.rel).ar = a.vars.length) (hv5 : a.vars.length <= 5) (hv : ∀ v ∈ a.vars,0 <= v /\ v < 5) :
  VC Tryz.prog 58 [.agg ((eDb d).map V.d),.agg ((aB a).map V.d)] (fun _ r=>r = .agg ((aX ⟨aS a.vars,⟨(aS a.vars).length,abR d a⟩⟩).map V.d)):=by
 obtain ⟨dl,hdl⟩ : ∃ dl,dl = d.tabs:=⟨_,rfl⟩
 have hde : (eDb d).map V.d = [V.d (.pl (dl.map eTab))]:=by rw [hdl]; simp [eDb]
 obtain ⟨nm,vs⟩:=a
 refine VC.ofL EP s58 Tryz.func58 fun B hl=>?_
 simp [Tryz.f58,aB,cStr,hde]
 refine aF (dv ⟨nm,vs⟩) (by simp [aB,cStr]) fun hs1 hh1 hl1=>?_
 simp at hh1
 simp
 refine aF (kU d ⟨nm,vs⟩ hlk har hv5 hv) (by simp [aB,cStr,hde]) fun hs2 hh2 hl2=>?_
 simp at hh2
 simp [ao,aX]
theorem mQ (d : PDb) (q : ab) : VC Tryz.prog 54 [.agg ((eDb d).map V.d),.agg ((au q).map V.d)] (fun _ r=>r = .d (.bool (cf d q))):=by
 obtain ⟨dl,hdl⟩ : ∃ dl,dl = d.tabs:=⟨_,rfl⟩
 have hde : (eDb d).map V.d = [V.d (.pl (dl.map eTab))]:=by rw [hdl]; simp [eDb]
 have hqe : (au q).map V.d = [V.d (.int .i64 q.n),V.d (.pl (q.atoms.map aB)),V.d (.pl (q.out.map cI))]:=by simp [au]
 refine VC.ofL EP sZ Tryz.func54 fun B hl=>?_
 simp [Tryz.f54,hde,hqe]
 refine ag (dO q) (by simp [hqe]) rfl fun hs1 hh1=>?_
 simp at hh1
 cases hq : aw q
 ·simp [cf,hq]
 simp
 refine ag (eZ d) (by simp [hde]) rfl fun hs2 hh2=>?_
 simp at hh2
 cases hd : dbOk d
 ·simp [cf,hq,hd]
 simp
 have hb : ∀ b,cf d q = b ↔ (q.atoms.all fun a=>lkB d a.rel && decide ((lkR d a.rel).ar = a.vars.length)) = b:=fun b=>by simp only [cf,hq,hd,Bool.true_and]
 refine ae (X:=Nat) (fun i=>i <= q.atoms.length /\ bP (fun a=>lkB d a.rel && decide ((lkR d a.rel).ar = a.vars.length)) q.atoms i) (fun i=>[(2,.ptr 2 0 0),(3,.ptr 3 0 0),(18,.d (.pl (q.atoms.map aB))),(19,.d (.int .i64 q.atoms.length)),(20,.d (.int .i64 i))])
  (fun i=>[(2,some (.box [.d (.pl (dl.map eTab))])),(3,some (.box [.d (.int .i64 q.n),.d (.pl (q.atoms.map aB)),.d (.pl (q.out.map cI))]))]) (fun i=>q.atoms.length - i) 0 ⟨by simp,aQ⟩ (by simp) (by simp) ?_
 rintro i hs t m ⟨hi,hat⟩ hh
 have hal : q.atoms.length <= 4:=pP hq
 by_cases hlt : i < q.atoms.length
 ·have hwi:=wr1 (i:=i) (by omega)
  obtain ⟨⟨nm,vs⟩,ha⟩ : ∃ a,a = q.atoms[i]:=⟨_,rfl⟩
  have hnot:=fun h=>bn (l:=q.atoms) (p:=fun a=>lkB d a.rel && decide ((lkR d a.rel).ar = a.vars.length)) hlt h
  have hst:=aM hat hlt
  rw [<- ha] at hnot hst
  simp [hlt,<- ha,aB,cStr]
  refine aF (fe d nm) (by simp [hde]) fun hs3 hh3 hl3=>?_
  simp at hh3
  cases hlk : lkB d nm
  ·have:=hnot (by simp [hlk])
   simp [this,hb,ao]
  by_cases har : (lkR d nm).ar = vs.length
  ·simp [hwi,har,ao]
   exact back (i + 1) ⟨by omega,hst (by simp [hlk,har])⟩ (by omega) rfl (by simp <;> omega) (by simp) (by simp)
  ·have:=hnot (by simp [hlk,har])
   simp [this,har,hb,ao]
 ·have:=aP hat (by omega)
  simp [hlt,this,hb]
end
section
attribute [local simp] aR aC ax ay pS cP cI cU8 cB
end
section
attribute [local simp] aR aC ax ay pS cP cI cU8 cB
end
section
attribute [local simp] aR aC ax ay pS cP cI cU8 cB
theorem kf (l : List Int) : VC Tryz.prog 160 [.d (pS cI l)] (fun _ r=>r = .d (.bool (cJ l l.length && decide (l.length <= 5)))):=by
 refine VC.ofL EP s160 Tryz.func160 fun B hl=>?_
 simp [pS,maxLen] at hl
 simp [Tryz.f160]
 refine ae (X:=Nat) (kY l l.length) (fun i=>[(0,.d (.pl (l.map cI))),(3,.d (.int .i64 i))]) (fun _=>[]) (fun i=>l.length - i) 0 .zero (by simp) (by simp) ?_
 intro i hs t m hi hh
 have hil:=hi.le
 by_cases hlt : i < l.length
 ·have hwi:=wr1 (i:=i) (by omega)
  simp [hlt]
  refine ag (bB l[i] 0 (IntKind.i64.wrap (l.length - 1))) (by simp) rfl fun hs1 hh1=>?_
  simp at hh1
  cases h1 : inR l[i] 0 (IntKind.i64.wrap (l.length - 1))
  ·simp [lR hlt h1]
  simp [hil,hlt,<- List.map_take]
  refine ag (cb (l.take i) l[i]) (by simp) rfl fun hs2 hh2=>?_
  simp at hh2
  have hge:=eH (l.take i) l[i]
  by_cases h2 : l[i] ∈ l.take i
  ·have e : 0 <= idxL (l.take i) l[i]:=by simpa [h2] using hge
   simp [e,lS hlt h2]
  have e : ¬ 0 <= idxL (l.take i) l[i]:=by simpa [h2] using hge
  simp [e,hwi]
  exact back (i + 1) (hi.step hlt h1 h2) (by omega) rfl (by simp <;> omega) (by simp) (by simp)
 ·have hd:=hi.done (by omega)
  simp [hlt,hd]
  omega
theorem kX (q : ab) (o : List Int) (hst : ∀ a ∈ q.atoms,a.rel.length <= maxLen) : VC Tryz.prog 139 [.agg ((au q).map V.d),.d (pS cI o)] (fun _ r=>r = .d (.bool (iv q o))):=by
 have hqe : (au q).map V.d = [V.d (.int .i64 q.n),V.d (.pl (q.atoms.map aB)),V.d (.pl (q.out.map cI))]:=by simp [au]
 refine VC.ofL EP sZ Tryz.func139 fun B hl=>?_
 simp [Tryz.f139,hqe,iv]
 refine ag (bf q hst) (by simp [hqe]) rfl fun hs1 hh1=>?_
 simp at hh1
 cases hq : aw q
 ·simp
 have h5:=bq hq
 by_cases hn : (o.length : Int) = q.n
 ·simp [hn]
  refine ag (kf o) (by simp) rfl fun hs2 hh2=>?_
  simp [hn]
  omega
 ·simp [hn]
end
theorem Aw {α : Type} {p : α -> Bool} {l : List α} {i : Nat} (h : i < l.length) : (l.take (i + 1)).any p = ((l.take i).any p || p l[i]):=by
 rw [Jz h,List.any_append]; simp
def nbT (v w : Int) (l : List aH) (j : Nat) : Bool:=!(decide (w = v)) && (l.take j).any fun a=>a.vars.contains v && a.vars.contains w
theorem Cf (v w : Int) (l : List aH) : nbT v w l 0 = false:=by simp [nbT]
theorem EK (q : ab) (v w : Int) : nbT v w q.atoms q.atoms.length = nbrB q v w:=by simp only [nbT,nbrB,List.take_length]
theorem Ce {v w : Int} {l : List aH} {j : Nat} (h : j < l.length) : nbT v w l (j + 1) = (nbT v w l j || (!(decide (w = v)) && (l[j].vars.contains v && l[j].vars.contains w))):=by
 rw [nbT,Aw h,nbT]; cases decide (w = v) <;> simp
section
attribute [local simp] aR aC ax ay pS cP cI cU8 cB
theorem nD (q : ab) (v : Int) (hst : ∀ a ∈ q.atoms,a.rel.length <= maxLen) : VC Tryz.prog 161 [.agg ((au q).map V.d),.d (.int .i64 v)] (fun _ r=>r = .d (pS cI (nbrL q v))):=by
 have hqe : (au q).map V.d = [V.d (.int .i64 q.n),V.d (.pl (q.atoms.map aB)),V.d (.pl (q.out.map cI))]:=by simp [au]
 refine VC.ofL EP sZ Tryz.func161 fun B hl=>?_
 simp [Tryz.f161,hqe]
 clear hl
 refine ae (X:=Nat) (OrdI q) (fun i=>[(1,.d (.int .i64 v)),(2,.ptr 2 0 0),(5,.own 9 0 ((aI i).filter (nbrB q v)).length),(6,.d (.int .i64 i))]) (fun i=>[(2,some (.box [.d (.int .i64 q.n),.d (.pl (q.atoms.map aB)),.d (.pl (q.out.map cI))])),(9,some (.row 3 1 (((aI i).filter (nbrB q v)).map cI)))]) (fun i=>q.n.toNat - i) 0 ⟨by omega,fun h=>by omega⟩ (by simp [bD]) (by simp [bD]) ?_
 intro i hs t m ⟨hi,hi0⟩ hh
 by_cases hlt : (i : Int) < q.n
 ·cases h1 : aw q
  ·have h0 : i = 0:=by by_cases h : 0 < i; rw [hi0 h] at h1; cases h1; omega
   subst h0
   simp [show (0 : Int) < q.n by omega]
   refine ag (bf q hst) (by simp [hqe]) rfl fun hs1 hh1=>?_
   simp [nbrL,h1,bD]
  have hn:=bq h1
  have hwi:=wr1 (i:=i) (by omega)
  have hal:=pP h1
  have hln:=Xy (nbrB q v) (aI i)
  rw [bJ] at hln
  have hL : LenOk 8 (((aI i).filter (nbrB q v)).length + 1):=⟨by omega,by simp only [maxLen]; omega⟩
  have hsn : (aI (i + 1)).filter (nbrB q v) = (aI i).filter (nbrB q v) ++ if nbrB q v i then [(i : Int)] else []:=by
   rw [en,List.filter_append]; cases e : nbrB q v i <;> simp [e]
  obtain ⟨F,hF⟩ : ∃ F,F = (aI i).filter (nbrB q v):=⟨_,rfl⟩
  rw [<- hF] at hsn hL ⊢
  obtain ⟨l,hl⟩ : ∃ l,l = q.atoms:=⟨_,rfl⟩
  have hst' : ∀ a ∈ l,a.rel.length <= maxLen:=hl ▸ hst
  have hnb : nbT v i l l.length = nbrB q v i:=by rw [hl]; exact EK q v i
  rw [<- hl] at hal ⊢
  refine anyQ fun Q=>?_
  simp [hlt]
  refine ag (bf q hst) (by simp [hqe,<- hl]) rfl fun hs1 hh1=>?_
  simp at hh1
  simp [h1]
  refine ae (X:=Nat) (fun j=>j <= l.length) (fun j=>[(1,.d (.int .i64 v)),(2,.ptr 2 0 0),(5,.own 9 0 F.length),(6,.d (.int .i64 i)),(7,.d (.bool (nbT v i l j))),(8,.d (.int .i64 j))]) (fun j=>[(2,some (.box [.d (.int .i64 q.n),.d (.pl (l.map aB)),.d (.pl (q.out.map cI))])),(9,some (.row 3 1 (F.map cI)))]) (fun j=>l.length - j) 0 (by omega) (by simp [Cf]) (by simp) ?_
  intro j hs2 t2 m2 hj hh2
  by_cases hjl : j < l.length
  ·have hwj:=wr1 (i:=j) (by omega)
   have hN':=Ce (v:=v) (w:=i) hjl
   have hax:=hst' _ (Jy hjl)
   obtain ⟨⟨nm,vs⟩,ha⟩ : ∃ a,a = l[j]:=⟨_,rfl⟩
   rw [<- ha] at hN' hax
   simp only at hN'
   obtain ⟨N,hN⟩ : ∃ N,N = nbT v i l j:=⟨_,rfl⟩
   rw [<- hN] at hN' ⊢
   cases N with
   | true =>
     simp [hjl,hwj]
     simp only [Bool.true_or] at hN'
     exact back (j + 1) (by omega) (by omega) rfl (by simp <;> omega) (by simp [hN']) (by simp)
   | false =>
     by_cases hiv : (i : Int) = v
     ·simp [hjl,hwj,eq_true hiv]
      have hN2 : nbT v i l (j + 1) = false:=by rw [hN']; simp [eq_true hiv]
      exact back (j + 1) (by omega) (by omega) rfl (by simp <;> omega) (by simp [hN2]) (by simp)
     simp [hjl,eq_false hiv,<- ha,aB,cStr]
     refine ag (cZ ⟨nm,vs⟩ v) (by simp [aB,cStr]) rfl fun hs3 hh3=>?_
     simp at hh3
     cases hc : vs.contains v
     ·rw [hc] at hN'
      simp [hwj]
      have hN2 : nbT v i l (j + 1) = false:=by rw [hN']; simp
      exact back (j + 1) (by omega) (by omega) rfl (by simp <;> omega) (by simp [hN2]) (by simp)
     rw [hc] at hN'
     simp [hjl,<- ha,aB,cStr]
     refine ag (cZ ⟨nm,vs⟩ i) (by simp [aB,cStr]) rfl fun hs4 hh4=>?_
     simp at hh4
     simp [hwj]
     have hN2 : nbT v i l (j + 1) = vs.contains (i : Int):=by rw [hN']; simp [eq_false hiv]
     exact back (j + 1) (by omega) (by omega) rfl (by simp <;> omega) (by simp [hN2]) (by simp)
  ·have hn : j = l.length:=by omega
   subst hn
   rw [hnb]
   cases hb : nbrB q v i
   ·rw [hb] at hsn
    simp only [Zv,if_false,List.append_nil] at hsn
    simp [hwi]
    exact back (i + 1) ⟨by omega,fun _=>h1⟩ (by omega) rfl (by simp <;> omega) (by simp [hsn]) (by simp [hsn])
   ·rw [hb] at hsn
    simp only [if_true] at hsn
    simp [hwi,hL]
    exact back (i + 1) ⟨by omega,fun _=>h1⟩ (by omega) rfl (by simp <;> omega) (by simp [hsn]) (by simp [hsn])
 ·have hd : (aI i).filter (nbrB q v) = nbrL q v:=by
   cases h1 : aw q
   ·have h0 : i = 0:=by by_cases h : 0 < i; rw [hi0 h] at h1; cases h1; omega
    subst h0; simp [nbrL,h1,bD]
   ·have hn:=bq h1
    have : i = q.n.toNat:=by omega
    subst this; simp [nbrL,h1]
  simp [hlt,hd,Jj]
end
theorem BJ : ∀ l : List Bool,hpLL (l.map cB) = false
 | []=>rfl
 | b :: l=>by simp [hpLL,hpL,D.hp,cB,BJ l]
section
attribute [local simp] aR aC ax ay pS cP cI
theorem nc (q : ab) (N : Nat) (hN : q.n = (N : Int)) (hq : aw q = true) (hst : ∀ a ∈ q.atoms,a.rel.length <= maxLen) : VC Tryz.prog 140 [.agg ((au q).map V.d)]
  (fun n r=>∃ g : Nat,r = .d (.sl (some g) (some (4,1)) ((mtx N (nbrB q)).map cB)) /\ n <= g):=by
 have hn5:=bq hq
 rw [hN] at hn5
 have h15 : 1 <= N /\ N <= 5:=by omega
 have hqe : (au q).map V.d = [V.d (.int .i64 N),V.d (.pl (q.atoms.map aB)),V.d (.pl (q.out.map cI))]:=by simp [au,hN]
 refine VC.of E sZ Tryz.func140 fun B=>?_
 have hsq:=Gv h15.2
 obtain ⟨S,hS⟩ : ∃ S,S = N * N:=⟨_,rfl⟩
 rw [<- hS] at hsq
 have hS0 : 0 < S:=by rw [hS]; exact Nat.mul_pos h15.1 h15.1
 have hwS : IntKind.i64.wrap ((N : Int) * (N : Int)) = (S : Int):=by
  rw [hS,aj (by rw [<- Int.natCast_mul,<- hS]; omega) (by rw [<- Int.natCast_mul,<- hS]; omega),Int.natCast_mul]
 have hLS : LenOk 1 S:=⟨by omega,by simp only [maxLen]; omega⟩
 have hrep:=Hy q hS
 have hml : ∀ f,(mtx N f).length = S:=fun f=>by rw [jm,hS]
 simp [Tryz.f140,hqe,hwS,hLS,hrep,-jm]
 refine ae (X:=Nat) (fun i=>i <= N) (fun i=>[(1,.ptr 1 0 0),(3,.d (.int .i64 N)),(4,.own 13 0 S),(5,.d (.int .i64 i))]) (fun i=>[(1,some (.box [.d (.int .i64 N),.d (.pl (q.atoms.map aB)),.d (.pl (q.out.map cI))])),(13,some (.row 4 1 ((mtx N (jnA q i)).map cB)))]) (fun i=>N - i) 0 (by omega) (by simp) (by simp) ?_
 intro i hs t m hi hh
 by_cases hlt : i < N
 ·have hwi:=wr1 (i:=i) (by omega)
  have hall:=EC hq hN hlt
  have hnl : ∀ x ∈ nbrL q i,0 <= x /\ x < N:=fun x hx=>by
   rw [nbrL,if_pos hq,List.mem_filter,b8] at hx
   have:=hx.1; rw [hN] at this; omega
  have hnk : (nbrL q i).length <= 5:=by
   rw [nbrL,if_pos hq]
   have:=Xy (nbrB q i) (aI q.n.toNat)
   rw [bJ] at this; omega
  obtain ⟨l,hl⟩ : ∃ l,l = nbrL q i:=⟨_,rfl⟩
  rw [<- hl] at hall hnl hnk
  refine anyQ fun Q=>?_
  simp [hlt]
  refine aF (nD q i hst) (by simp [hqe]) fun hs1 hh1 hl1=>?_
  simp at hh1
  rw [<- hl]
  simp
  refine ae (X:=Nat) (fun j=>j <= l.length) (fun j=>[(1,.ptr 1 0 0),(3,.d (.int .i64 N)),(4,.own 13 0 S),(5,.d (.int .i64 i)),(6,.d (.pl (l.map cI))),(7,.d (.int .i64 j))]) (fun j=>[(1,some (.box [.d (.int .i64 N),.d (.pl (q.atoms.map aB)),.d (.pl (q.out.map cI))])),(13,some (.row 4 1 ((mtx N (jnB q i l j)).map cB)))]) (fun j=>l.length - j) 0 (by omega) (by simp) (by simp [BY]) ?_
  intro j hs2 t2 m2 hj hh2
  by_cases hjl : j < l.length
  ·have hwj:=wr1 (i:=j) (by omega)
   have hr:=hnl _ (Jy hjl)
   obtain ⟨b,hb⟩ : ∃ b : Nat,l[j] = (b : Int):=⟨l[j].toNat,by omega⟩
   have hbN : b < N:=by omega
   have hix:=Cd h15.2 hlt hbN
   have hset:=BX (q:=q) (i:=i) (n:=N) hjl hb hbN
   rw [<- hS] at hix
   obtain ⟨R,hR⟩ : ∃ R,R = i * N:=⟨_,rfl⟩
   rw [<- hR] at hix hset
   obtain ⟨K,hK⟩ : ∃ K,K = R + b:=⟨_,rfl⟩
   rw [<- hK] at hix hset
   have hw1 : IntKind.i64.wrap ((i : Int) * (N : Int)) = (R : Int):=by
    rw [aj (by rw [<- Int.natCast_mul,<- hR]; omega) (by rw [<- Int.natCast_mul,<- hR]; omega),<- Int.natCast_mul,<- hR]
   have hw2 : IntKind.i64.wrap ((R : Int) + (b : Int)) = (K : Int):=by rw [aj (by omega) (by omega)]; omega
   have hKS:=hix.1
   have hset2 : ((mtx N (jnB q i l j)).map cB).set K [D.bool true] = (mtx N (jnB q i l (j + 1))).map cB:=by
    rw [<- hset,List.map_set]; rfl
   simp [hjl,hb,hw1,hw2,hKS,hwj,hml,-jm,-List.map_set]
   exact back (j + 1) (by omega) (by omega) rfl (by simp <;> omega) (by simp) (by simp [hset2,-jm,-List.map_set])
  ·have hn : j = l.length:=by omega
   subst hn
   simp [hwi]
   exact back (i + 1) (by omega) (by omega) rfl (by simp <;> omega) (by simp) (by simp [hall])
 ·have hn : i = N:=by omega
  subst hn
  have hfin : mtx i (jnA q i) = mtx i (nbrB q):=EB q [] i
  have hlen:=hml (nbrB q)
  rw [hfin]
  simp
  intro γ hs' h1 hg
  obtain ⟨q1,q2⟩:=bz hg (k:=13) (T:=4) (sz:=1) (es:=(mtx i (nbrB q)).map cB) (by simp)
  clear hg
  have hne : γ 13 ≠ none:=q2 fun h=>by
   have h3 : ((mtx i (nbrB q)).map cB).length = S:=by rw [List.length_map,hlen]
   rw [h] at h3; simp at h3; omega
  cases hg : γ 13 with
  | none=>exact absurd hg hne
  | some g =>
    refine ⟨_,?_,g,rfl,(q1 g hg).1⟩
    simp [Jj,BJ]
    exact ⟨Nat.le_of_eq hS,hS,Jj (by simp [hS])⟩
end
def okIT (T : Nat) (y : Ints) : Prop:=okS okI y /\ y.T = some (T,1)
section
attribute [local simp] aR aC ax ay pS cP cI
theorem da (q : ab) (o : List Int) (hst : ∀ a ∈ q.atoms,a.rel.length <= maxLen) : VC Tryz.prog 113 [.agg ((au q).map V.d),.d (pS cI o)]
  (fun n r=>∃ y : Dec,r = .tup [.agg ((cDec y).map V.d),.d (.bool (iv q o))] /\ fG y = dcP q o /\ JR y /\ Good (cDec y) (vA y) n /\ (iv q o = true -> y.bags.T = some (28,1) /\ y.par.T = some (3,1) /\ ∀ z ∈ y.bags.xs,z.T = some (3,1))):=by
 have hqe : (au q).map V.d = [V.d (.int .i64 q.n),V.d (.pl (q.atoms.map aB)),V.d (.pl (q.out.map cI))]:=by simp [au]
 refine VC.of E s113 Tryz.func113 fun B=>?_
 simp [Tryz.f113,hqe]
 refine ag (kX q o hst) (by simp [hqe]) rfl fun hs1 hh1=>?_
 simp at hh1
 cases hok : iv q o
 ·simp
  exact ⟨⟨nilS,nilS⟩,by simp [cDec,nilS,cS,dSl],by simp [dcP,hok,fG,nilS,plS],⟨ch,ch⟩,zr B⟩
 have od:=xY hok
 have h5:=od.n5
 obtain ⟨N,hN⟩ : ∃ N : Nat,q.n = (N : Int):=⟨q.n.toNat,by omega⟩
 have hol : o.length = N:=by have:=od.len; omega
 rw [hN] at h5
 have h15 : 1 <= N /\ N <= 5:=by omega
 have hqe2 : (au q).map V.d = [V.d (.int .i64 N),V.d (.pl (q.atoms.map aB)),V.d (.pl (q.out.map cI))]:=by simp [au,hN]
 have hsq:=Gv h15.2
 obtain ⟨S,hS⟩ : ∃ S,S = N * N:=⟨_,rfl⟩
 rw [<- hS] at hsq
 have hml : ∀ f,(mtx N f).length = S:=fun f=>by rw [jm,hS]
 have hwN : IntKind.i64.wrap ((N : Int) - 1) = ((N - 1 : Nat) : Int):=by rw [aj (by omega) (by omega)]; omega
 simp [hN]
 refine vR (nc q N hN od.qok hst) (by simp [hqe2]) fun r2 n2 hs2 hn2 hm2 hp2=>?_
 obtain ⟨g2,rfl,hg2⟩:=hp2
 refine ⟨4,1,(mtx N (nbrB q)).map cB,by omega,.inr ⟨g2,rfl,hg2,by simp [Gs]⟩,?_⟩
 simp at hn2
 simp [hml,-jm]
 refine aE (X:=Nat × List Ints) (fun p h=>CopI (cS cI) (whS whI) (okIT 3) (plS plI) ((List.range N).map (cw q o)) B p h) (fun p=>[(1,.d (.pl (o.map cI))),(4,.ptr 4 0 0),(6,.d (.int .i64 N)),(7,.own 25 0 S),(8,.ptr 8 0 0),(9,.d (.int .i64 p.1))]) (fun p=>[(4,some (.box [.d (.sl none none []),.d (.sl none none [])])),(8,some (.box [.own 901 0 p.1,.own 902 0 p.1])),(25,some (.row 4 1 ((mtx N (dcM q o p.1)).map cB))),(901,some (.row 28 1 (p.2.map (cS cI)))),(902,some (.row 3 1 (((List.range p.1).map (dcUp q o)).map cI)))]) (fun p=>N - p.1) ?_ ?_
 ·refine (cz 8 0 901 28 1 [.d (.sl none none []),.d (.sl none none [])] (by omega) (by omega) (by omega) (by simp) rfl).bind ?_
  rintro _ rfl
  refine (cz 8 1 902 3 1 [.own 901 0 0,.d (.sl none none [])] (by omega) (by omega) (by omega) (by simp) rfl).bind ?_
  rintro _ rfl
  exact Lead.of ⟨(0,[]),.zero,rfl,rfl,Jv _,by simp,by simp [dcM0]⟩
 rintro ⟨i,ys⟩ hs t m hI0 hh
 have hi:=hI0.le
 have hyl:=hI0.len
 simp only [List.length_map,List.length_range] at hi
 simp only
 by_cases hlt : i < N
 ·have hwi:=wr1 (i:=i) (by omega)
  have hio : i < o.length:=by omega
  obtain ⟨US,hUS⟩ : ∃ US,US = (List.range i).map (dcUp q o):=⟨_,rfl⟩
  have hUl : US.length = i:=by rw [hUS]; simp
  have hU1 : (List.range (i + 1)).map (dcUp q o) = US ++ [dcUp q o i]:=by rw [hUS,List.range_succ,Zj]; rfl
  rw [<- hUS]
  have hoi:=od.rng _ (Jy hio)
  obtain ⟨c,hc⟩ : ∃ c : Nat,o[i] = (c : Int):=⟨o[i].toNat,by omega⟩
  have hcN : c < N:=by omega
  have hgd : o.getD i 0 = (c : Int):=by rw [ak _ hio,hc]
  have hbd : cw q o i = (aI N).filter (dcI q o i):=by rw [cw,hN]; rfl
  have hbgl : (cw q o i).length <= N:=by
   have:=Xy (dcI q o i) (aI N)
   rw [bJ] at this; rw [hbd]; exact this
  have hbgm : ∀ x ∈ cw q o i,0 <= x /\ x < N:=fun x hx=>by
   rw [hbd,List.mem_filter,b8] at hx; omega
  have hbgn : (cw q o i).Nodup:=cC ni
  have hfA:=Em (q:=q) (o:=o) (n:=N) (i:=i) hN
  have hup:=Ed q o i
  obtain ⟨bag,hbag⟩ : ∃ bag,bag = cw q o i:=⟨_,rfl⟩
  obtain ⟨f,hf⟩ : ∃ f,f = dcM q o i:=⟨_,rfl⟩
  obtain ⟨U,hU⟩ : ∃ U,U = dcUp q o i:=⟨_,rfl⟩
  rw [<- hbag] at hbd hbgl hbgm hbgn hfA hup
  rw [<- hU] at hU1 hup
  rw [<- hf] at hfA ⊢
  refine dx fun Q=>?_
  simp [hlt]
  refine ae (X:=Nat) (fun k=>k <= N) (fun k=>[(1,.d (.pl (o.map cI))),(4,.ptr 4 0 0),(6,.d (.int .i64 N)),(7,.own 25 0 S),(8,.ptr 8 0 0),(9,.d (.int .i64 i)),(10,.own 32 0 ((aI k).filter (dcI q o i)).length),(11,.d (.int .i64 ((i + 1 : Nat) : Int))),(12,.d (.bool true)),(13,.d (.int .i64 k))]) (fun k=>[(4,some (.box [.d (.sl none none []),.d (.sl none none [])])),(8,some (.box [.own 901 0 i,.own 902 0 i])),(25,some (.row 4 1 ((mtx N (f)).map cB))),(901,some (.row 28 1 (ys.map (cS cI)))),(902,some (.row 3 1 (US.map cI))),(32,some (.row 3 1 (((aI k).filter (dcI q o i)).map cI)))]) (fun k=>N - k) 0 (by omega) (by simp [bD,hwi]) (by simp [bD]) ?_
  intro k hs3 t3 m3 hk hh3
  by_cases hkN : k < N
  ·have hwk:=wr1 (i:=k) (by omega)
   have hix:=Cd h15.2 hcN hkN
   rw [<- hS] at hix
   have hLk : (mtx N f).length = S:=hml f
   obtain ⟨R,hR⟩ : ∃ R,R = c * N:=⟨_,rfl⟩
   rw [<- hR] at hix
   obtain ⟨K,hK⟩ : ∃ K,K = R + k:=⟨_,rfl⟩
   rw [<- hK] at hix
   have hw1 : IntKind.i64.wrap ((c : Int) * (N : Int)) = (R : Int):=by
    rw [aj (by rw [<- Int.natCast_mul,<- hR]; omega) (by rw [<- Int.natCast_mul,<- hR]; omega),<- Int.natCast_mul,<- hR]
   have hw2 : IntKind.i64.wrap ((R : Int) + (k : Int)) = (K : Int):=by rw [aj (by omega) (by omega)]; omega
   have hKS:=hix.1
   have hget : (mtx N f)[K]'(by omega) = f c k:=by
    subst hK; subst hR; exact sw hkN _
   obtain ⟨L,hL⟩ : ∃ L,L = mtx N f:=⟨_,rfl⟩
   simp only [<- hL] at hget hLk ⊢
   have hst2 : (aI (k + 1)).filter (dcI q o i) = (aI k).filter (dcI q o i) ++ if dcI q o i k then [(k : Int)] else []:=by
    rw [en,List.filter_append]; cases e : dcI q o i k <;> simp [e]
   have hfl:=Xy (dcI q o i) (aI k)
   rw [bJ] at hfl
   have hLL : LenOk 8 (((aI k).filter (dcI q o i)).length + 1):=⟨by omega,by simp only [maxLen]; omega⟩
   have hdI : dcI q o i k = (decide ((k : Int) = c) || (f c k && !(o.take i).contains (k : Int))):=by rw [dcI,hgd,hf]
   obtain ⟨W,hW⟩ : ∃ W,W = (aI k).filter (dcI q o i):=⟨_,rfl⟩
   rw [<- hW] at hst2 hLL ⊢
   by_cases hkc : k = c
   ·have e : dcI q o i k = true:=by rw [hdI,decide_eq_true (by omega)]; rfl
    rw [e,if_pos rfl] at hst2
    simp [hkN,hio,hc,eq_true hkc,hwk,hLL]
    exact back (k + 1) (by omega) (by omega) rfl (by simp <;> omega) (by simp [hst2,hwi]) (by simp [hst2])
   have hkc2 : ¬ (k : Int) = c:=by omega
   cases hfv : f c k
   ·have e : dcI q o i k = false:=by rw [hdI,hfv,decide_eq_false hkc2]; rfl
    rw [e,if_neg (by simp),List.append_nil] at hst2
    rw [hfv] at hget
    simp [hkN,hio,hc,eq_false hkc,hw1,hw2,hKS,hLk,hget,hwk,cB]
    exact back (k + 1) (by omega) (by omega) rfl (by simp <;> omega) (by simp [hst2,hwi]) (by simp [hst2])
   have e2 : dcI q o i k = !(o.take i).contains (k : Int):=by rw [hdI,hfv,decide_eq_false hkc2]; simp
   rw [hfv] at hget
   simp [hkN,hio,hc,eq_false hkc,hw1,hw2,hKS,hLk,hget,show i <= o.length by omega,<- List.map_take,cB]
   refine ag (cb (o.take i) k) (by simp) rfl fun hs4 hh4=>?_
   simp at hh4
   have hge:=eH (o.take i) k
   cases hct : (o.take i).contains (k : Int)
   ·have hi0 : idxL (o.take i) k < 0:=by rw [hct,decide_eq_false_iff_not] at hge; omega
    have e3 : dcI q o i k = true:=by rw [e2,hct]; rfl
    rw [e3,if_pos rfl] at hst2
    simp [hi0,hwk,hLL]
    exact back (k + 1) (by omega) (by omega) rfl (by simp <;> omega) (by simp [hst2,hwi]) (by simp [hst2])
   ·have hi0 : ¬ idxL (o.take i) k < 0:=by rw [hct,Xj] at hge; omega
    have e3 : dcI q o i k = false:=by rw [e2,hct]; rfl
    rw [e3,if_neg (by simp),List.append_nil] at hst2
    simp [hi0,hwk]
    exact back (k + 1) (by omega) (by omega) rfl (by simp <;> omega) (by simp [hst2,hwi]) (by simp [hst2])
  have hkn : k = N:=by omega
  subst hkn
  rw [<- hbd]
  simp [-bM]
  rw [bM _ _ _ rfl]
  refine ⟨by simp,fun h=>by simp at h,fun _=>?_⟩
  simp
  refine aE (X:=(Nat × Bool × Nat) × Option Nat) (fun p h=>UpI o bag i p.1 /\ (∀ g,p.2 = some g -> (B <= g /\ g ∉ idsLL (ys.map (cS cI))) /\ g < h) /\ (bag ≠ [] -> p.2 ≠ none)) (fun p=>[(1,.d (.pl (o.map cI))),(4,.ptr 4 0 0),(6,.d (.int .i64 k)),(7,.own 25 0 S),(8,.ptr 8 0 0),(9,.d (.int .i64 i)),(10,.d (.sl p.2 (some (3,1)) (bag.map cI))),(11,.d (.int .i64 p.1.1)),(12,.d (.bool p.1.2.1)),(14,.d (.int .i64 p.1.2.2))]) (fun p=>[(4,some (.box [.d (.sl none none []),.d (.sl none none [])])),(8,some (.box [.own 901 0 i,.own 902 0 i])),(25,some (.row 4 1 ((mtx k (f)).map cB))),(901,some (.row 28 1 (ys.map (cS cI)))),(902,some (.row 3 1 (US.map cI)))]) (fun p=>k + 1 - p.1.2.2) ?_ ?_
  ·refine (fD 32 (T:=3) (sz:=1) (es:=bag.map cI) (by simp)).bind ?_
   rintro _ ⟨γ,hs4,h4,hg,rfl⟩
   obtain ⟨q1,q2⟩:=bz hg (k:=32) (T:=3) (sz:=1) (es:=bag.map cI) (by simp)
   have q3:=iR hg (k:=32) (T:=3) (sz:=1) (es:=bag.map cI) (k2:=901) (T2:=28) (sz2:=1) (es2:=ys.map (cS cI)) (by simp) (by simp)
   clear hg
   have hp0:=cL bag
   exact Lead.of ⟨((i + 1,true,i + 1),γ 32),⟨.zero hio,fun g hg=>⟨⟨(q1 g hg).1,q3 g hg⟩,by simpa using (q1 g hg).2⟩,fun h=>q2 (by simpa using h)⟩,rfl,rfl,by simp <;> omega,by simp [hwi,hp0,Vs.frz,St.frz,Jj],by simp [Vs.frz,St.frz]⟩
  rintro ⟨⟨u,s,k2⟩,g0⟩ hs5 t5 m5 ⟨hI,hgf,hgn⟩ hh5
  simp only at hI hgf hgn
  have hh5' : hs3 <= hs5:=hh5
  have hh3' : hs <= hs3:=hh3
  have hle:=hI.le
  simp only at hle
  by_cases hgo : k2 < k /\ s = true
  ·obtain ⟨hk2,rfl⟩:=hgo
   have hk2o : k2 < o.length:=by omega
   have hwk2:=wr1 (i:=k2) (by omega)
   simp [hk2,hk2o]
   refine ag (cb bag o[k2]) (by simp [erI]) rfl fun hs6 hh6=>?_
   simp at hh6
   have hge:=eH bag o[k2]
   cases hct : bag.contains o[k2]
   ·have hi0 : ¬ 0 <= idxL bag o[k2]:=by rw [hct,decide_eq_false_iff_not] at hge; exact hge
    simp [hi0,hwk2]
    exact bg ((u,true,k2 + 1),g0) ⟨hI.miss hk2o hct,fun g hg=>⟨(hgf g hg).1,by have:=(hgf g hg).2; simp only; omega⟩,hgn⟩ (by simp only; omega) rfl (by simp <;> omega) (by simp) (by simp)
   ·have hi0 : 0 <= idxL bag o[k2]:=by rw [hct,Xj] at hge; exact hge
    simp [hi0,hwk2]
    exact bg ((k2,false,k2 + 1),g0) ⟨hI.hit hk2o hct,fun g hg=>⟨(hgf g hg).1,by have:=(hgf g hg).2; simp only; omega⟩,hgn⟩ (by simp only; omega) rfl (by simp <;> omega) (by simp) (by simp)
  have hdone : u = upV o bag i:=hI.done fun h=>hgo ⟨by omega,h.2⟩
  rw [<- hdone] at hup
  have hcase : ((i = k - 1) = True /\ U = -1) \/ ((i = k - 1) = False /\ U = (u : Int)):=by
   by_cases e : i + 1 = o.length
   ·rw [if_pos e] at hup; exact .inl ⟨eq_true (by omega),hup⟩
   ·rw [if_neg e] at hup; exact .inr ⟨eq_false (by omega),hup⟩
  have hcond : ((k2 < k) = True /\ s = false) \/ ((k2 < k) = False):=by
   by_cases e : k2 < k
   ·exact .inl ⟨eq_true e,by cases s; rfl; exact absurd ⟨e,rfl⟩ hgo⟩
   ·exact .inr (eq_false e)
  have hU2 : (List.range (i + 1)).map (cI ∘ dcUp q o) = US.map cI ++ [[D.int IntKind.i64 U]]:=by rw [<- List.map_map,hU1,Zj]; simp
  have hLB : LenOk 24 (i + 1):=⟨by omega,by simp only [maxLen]; omega⟩
  have hLU : LenOk 8 (i + 1):=⟨by omega,by simp only [maxLen]; omega⟩
  have hf0:=Bh bag f k
  rcases hcond with ⟨hc1,rfl⟩ | hc1
  all_goals rcases hcase with ⟨hc2,hup2⟩ | ⟨hc2,hup2⟩
  all_goals
   simp [hc1,hc2,hwN]
   refine ae (X:=Nat) (fun a=>a <= bag.length) (fun a=>[(1,.d (.pl (o.map cI))),(4,.ptr 4 0 0),(6,.d (.int .i64 k)),(7,.own 25 0 S),(8,.ptr 8 0 0),(9,.d (.int .i64 i)),(10,.d (.sl g0 (some (3,1)) (bag.map cI))),(11,.d (.int .i64 U)),(15,.d (.int .i64 a))]) (fun a=>[(4,some (.box [.d (.sl none none []),.d (.sl none none [])])),(8,some (.box [.own 901 0 i,.own 902 0 i])),(25,some (.row 4 1 ((mtx k (ffA bag f a)).map cB))),(901,some (.row 28 1 (ys.map (cS cI)))),(902,some (.row 3 1 (US.map cI)))]) (fun a=>bag.length - a) 0 (by omega) (by simp [hup2]) (by simp [hf0]) ?_
   intro a hs7 t7 m7 ha hh7
   by_cases hal : a < bag.length
   ·have hwa:=wr1 (i:=a) (by omega)
    have hba:=hbgm _ (Jy hal)
    obtain ⟨x,hx⟩ : ∃ x : Nat,bag[a] = (x : Int):=⟨bag[a].toNat,by omega⟩
    have hxN : x < k:=by omega
    have hB0:=Bj bag f k a
    have hBa:=En f k hal
    refine anyQ fun Q=>?_
    simp [hal]
    refine ae (X:=Nat) (fun b=>b <= bag.length) (fun b=>[(1,.d (.pl (o.map cI))),(4,.ptr 4 0 0),(6,.d (.int .i64 k)),(7,.own 25 0 S),(8,.ptr 8 0 0),(9,.d (.int .i64 i)),(10,.d (.sl g0 (some (3,1)) (bag.map cI))),(11,.d (.int .i64 U)),(15,.d (.int .i64 a)),(16,.d (.int .i64 b))]) (fun b=>[(4,some (.box [.d (.sl none none []),.d (.sl none none [])])),(8,some (.box [.own 901 0 i,.own 902 0 i])),(25,some (.row 4 1 ((mtx k (ffB bag f a b)).map cB))),(901,some (.row 28 1 (ys.map (cS cI)))),(902,some (.row 3 1 (US.map cI)))]) (fun b=>bag.length - b) 0 (by omega) (by simp) (by simp [hB0]) ?_
    intro b hs8 t8 m8 hb hh8
    by_cases hbl : b < bag.length
    ·have hwb:=wr1 (i:=b) (by omega)
     have hbb:=hbgm _ (Jy hbl)
     obtain ⟨y,hy⟩ : ∃ y : Nat,bag[b] = (y : Int):=⟨bag[b].toNat,by omega⟩
     have hyN : y < k:=by omega
     have hix:=Cd h15.2 hxN hyN
     rw [<- hS] at hix
     obtain ⟨R,hR⟩ : ∃ R,R = x * k:=⟨_,rfl⟩
     rw [<- hR] at hix
     obtain ⟨K,hK⟩ : ∃ K,K = R + y:=⟨_,rfl⟩
     rw [<- hK] at hix
     have hw1 : IntKind.i64.wrap ((x : Int) * (k : Int)) = (R : Int):=by
      rw [aj (by rw [<- Int.natCast_mul,<- hR]; omega) (by rw [<- Int.natCast_mul,<- hR]; omega),<- Int.natCast_mul,<- hR]
     have hw2 : IntKind.i64.wrap ((R : Int) + (y : Int)) = (K : Int):=by rw [aj (by omega) (by omega)]; omega
     have hKS:=hix.1
     have hLk : (mtx k (ffB bag f a b)).length = S:=hml _
     have hget : (mtx k (ffB bag f a b))[K]'(by omega) = ffB bag f a b x y:=by
      subst hK; subst hR; exact sw hyN _
     have hstep:=Bi hbgn f (n:=k) hal hbl hx hy hyN rfl
     rw [<- hR,<- hK] at hstep
     obtain ⟨L,hL⟩ : ∃ L,L = mtx k (ffB bag f a b):=⟨_,rfl⟩
     obtain ⟨L',hL'⟩ : ∃ L',L' = mtx k (ffB bag f a (b + 1)):=⟨_,rfl⟩
     obtain ⟨v,hv⟩ : ∃ v,v = ffB bag f a b x y:=⟨_,rfl⟩
     rw [<- hv] at hget hstep
     rw [<- hL,<- hL'] at hstep
     simp only [<- hL] at hget hLk ⊢
     have hset : ∀ z,z = (v || !(decide (a = b))) -> (L.map cB).set K [D.bool z] = L'.map cB:=fun z hz=>by rw [<- hstep,List.map_set,hz]; rfl
     cases v with
     | true =>
       have hset2:=hset true rfl
       simp [hal,hbl,hx,hy,hw1,hw2,hKS,hLk,hget,hwb,cB,-List.map_set]
       exact back (b + 1) (by omega) (by omega) rfl (by simp <;> omega) (by simp) (by simp [<- hL',hset2,-List.map_set])
     | false =>
       by_cases hab : a = b
       ·have hset2:=hset false (by simp [hab])
        simp [hal,hbl,hx,hy,hw1,hw2,hKS,hLk,hget,hwb,eq_true hab,cB,-List.map_set]
        exact back (b + 1) (by omega) (by omega) rfl (by simp <;> omega) (by simp) (by simp [<- hL',hset2,-List.map_set])
       ·have hset2:=hset true (by simp [hab])
        simp [hal,hbl,hx,hy,hw1,hw2,hKS,hLk,hget,hwb,eq_false hab,cB,-List.map_set]
        exact back (b + 1) (by omega) (by omega) rfl (by simp <;> omega) (by simp) (by simp [<- hL',hset2,-List.map_set])
    ·have hbn : b = bag.length:=by omega
     subst hbn
     simp [hwa]
     exact back (a + 1) (by omega) (by omega) rfl (by simp <;> omega) (by simp) (by simp [hBa])
   ·have han : a = bag.length:=by omega
    subst han
    have hh7' : hs5 <= hs7:=hh7
    simp [hwi,hyl,hUl,hLB,hLU,Jj]
    refine bg (i + 1,ys ++ [⟨g0,some (3,1),bag⟩]) ?_ (by simp only; omega) rfl (by simp <;> omega) (by simp) (by simp [hU2,hfA,cS,dSl])
    refine ⟨by simp; omega,?_,fun z hz=>?_,?_⟩
    ·have:=hI0.pl
     simp only at this ⊢
     rw [Zj,this,Qz,List.map_nil,Jz (by simpa using hlt)]
     simp [plS,ax,hbag]
    ·rcases Qq.1 hz with h | h
     ·exact hI0.ok z h
     ·rw [Qg.1 h]; exact ⟨⟨by show bag.length <= maxLen; simp only [maxLen]; omega,fun _ _=>trivial⟩,rfl⟩
    ·refine e8.snoc2 hI0.good (by simp; omega) (eh (fun g hg=>(hgf g hg).1.1) hgn) (fun g hg=>(hgf g (uf hg)).1.2) (fun g hg=>by have:=(hgf g (uf hg)).2; simp; omega)
 ·have hn : i = N:=by omega
  subst hn
  have hall:=hI0.all (by simp)
  simp
  intro γ hs' h2 hg
  obtain ⟨US,hUS⟩ : ∃ US,US = (List.range i).map (dcUp q o):=⟨_,rfl⟩
  have hUl : US.length = i:=by rw [hUS]; simp
  obtain ⟨q1,q2⟩:=bz hg (k:=901) (T:=28) (sz:=1) (es:=ys.map (cS cI)) (by simp)
  obtain ⟨q3,q4⟩:=bz hg (k:=902) (T:=3) (sz:=1) (es:=US.map cI) (by simp [hUS])
  have r1:=ea hg (k:=901) (T:=28) (sz:=1) (es:=ys.map (cS cI)) (by simp)
  have r2:=iR hg (k:=902) (T:=3) (sz:=1) (es:=US.map cI) (k2:=901) (T2:=28) (sz2:=1) (es2:=ys.map (cS cI)) (by simp [hUS]) (by simp)
  have r3 : ∀ g,γ 901 = some g -> γ 902 = some g -> False:=fun g h h'=>by
   have:=hg.ne 901 902 (.row 28 1 (ys.map (cS cI))) (.row 3 1 (US.map cI)) g (by simp) (by simp [hUS]) h h'
   omega
  clear hg
  have hp : hpLL (ys.map (cS cI)) = false:=kG ys
  have hp2 : hpLL (US.map cI) = false:=cL US
  have hcm : (List.range i).map (cI ∘ dcUp q o) = US.map cI:=by rw [hUS,List.map_map]
  have ht1 : (ys.map (cS cI)).take i = ys.map (cS cI):=Jj (by simp [hyl])
  have ht2 : (US.map cI).take i = US.map cI:=Jj (by simp [hUl])
  simp [hp,hcm,hp2,ht1,ht2,hyl]
  refine ⟨⟨⟨γ 901,some (28,1),ys⟩,⟨γ 902,some (3,1),US⟩⟩,?_,?_,⟨⟨by simp only [maxLen]; show ys.length <= _; omega,fun z hz=>(hI0.ok z hz).1⟩,⟨by simp only [maxLen]; show US.length <= _; omega,fun _ _=>trivial⟩⟩,?_,rfl,rfl,fun z hz=>(hI0.ok z hz).2⟩
  ·simp [cDec,cS,dSl]
  ·rw [dcP,if_pos hok,hol,<- hall,<- hUS]; simp [fG,plS,ax]
  ·exact zt hI0.good.nd hI0.good.lo hI0.good.wh (fun g h=>⟨(q1 g h).1,r1 g h⟩) (fun h=>q2 (by simpa using h)) (fun g h=>⟨(q3 g h).1,r2 g h⟩) (fun h=>q4 (by simpa using h)) r3
end
section
attribute [local simp] aR aC ax ay pS cP cI cStr cU8 cB
theorem kW (q : ab) (hst : ∀ a ∈ q.atoms,a.rel.length <= maxLen) : VC Tryz.prog 141 [.agg ((au q).map V.d)] (fun _ r=>r = .d (pS cI (lE q))):=by
 refine VC.ofL EP sZ Tryz.func141 fun B hl=>?_
 simp [Tryz.f141,au]
 refine ae (X:=Nat) (OrdI q) (fun i=>[(1,.ptr 1 0 0),(3,.own 5 0 i),(4,.d (.int .i64 i))]) (fun i=>[(1,some (.box [.d (.int .i64 q.n),.d (.pl (q.atoms.map aB)),.d (.pl (q.out.map cI))])),(5,some (.row 3 1 ((aI i).map cI)))]) (fun i=>q.n.toNat - i) 0 ⟨by omega,by omega⟩ (by simp) (by simp [bD]) ?_
 intro i hs t m ⟨hi,hi0⟩ hh
 by_cases hlt : (i : Int) < q.n
 ·simp [hlt]
  refine ag (bf q hst) (by simp [au]) rfl fun hs1 hh1=>?_
  simp at hh1
  cases h1 : aw q
  ·have h0 : i = 0:=by by_cases h : 0 < i; rw [hi0 h] at h1; cases h1; omega
   subst h0
   simp [lE,h1,bD]
  have hn:=bq h1
  have hwi:=wr1 (i:=i) (by omega)
  have hL : LenOk 8 (i + 1):=⟨by omega,by simp only [maxLen]; omega⟩
  simp [hwi,hL]
  exact back (i + 1) ⟨by omega,fun _=>h1⟩ (by omega) rfl (by simp <;> omega) (by simp) (by simp [en])
 ·have hd : aI i = lE q:=by
   cases h1 : aw q
   ·have h0 : i = 0:=by by_cases h : 0 < i; rw [hi0 h] at h1; cases h1; omega
    subst h0; simp [lE,h1,bD]
   ·have hn:=bq h1
    have : i = q.n.toNat:=by omega
    subst this; simp [lE,h1]
  have hdl : i = (lE q).length:=by rw [<- hd]; simp
  simp [hlt,hd,<- hdl,Jj]
theorem fN (q : ab) (hst : ∀ a ∈ q.atoms,a.rel.length <= maxLen) : VC Tryz.prog 115 [.agg ((au q).map V.d)] (fun _ r=>r = .agg ((eDec (sbd q)).map V.d)):=by
 refine VC.ofL EP sZ Tryz.func115 fun B hl=>?_
 simp [Tryz.f115,au]
 refine ag (bf q hst) (by simp [au]) rfl fun hs1 hh1=>?_
 simp at hh1
 cases h1 : aw q
 ·simp [sbd,h1,eDec]
 simp
 refine aF (kW q hst) (by simp [au]) fun hs2 hh2 hl2=>?_
 simp at hh2
 simp [sbd,lE,h1,eDec]
end
structure DecA (b : Sl Int) (r : V) (cs : List V) : Prop where
 ex : ∃ (c' : Nat × Int) (y : Dec),r = .agg ((cDec y).map V.d) /\ y.par.xs.length <= 5 /\ cs = (curD b c').map V.d /\ curO b c'
theorem uv {es : List (List D)} {k : Nat} {e : List D} (h : ∀ x ∈ es,e.length = x.length) : (es.set k e).map List.length = es.map List.length:=by
 refine List.ext_getElem (by simp) fun i h1 h2=>?_
 simp only [List.getElem_map,List.getElem_set]
 split
 ·exact h _ (Jy _)
 ·rfl
theorem Fa (q : ab) : (sbd q).par.length <= 5:=by
 unfold sbd; split <;> simp
theorem HW {gb gz : Nat} {T T' : TypeId × Nat} {bx : List Ints} {k : Nat} {zx : List Int} (hk : k < bx.length) (hz : bx[k] = ⟨some gz,some T',zx⟩) (hn : (idsLL (bx.map (cS cI))).Nodup) (hb : gb ≠ gz) :
  reV (one gz (.sl (some gz) (some T') (zx.map cI))) (.d (.sl (some gb) (some T) (bx.map (cS cI)))) = .d (.sl (some gb) (some T) (bx.map (cS cI))):=by
 have h:=CH (c:=cS cI) (φ:=one gz (.sl (some gz) (some T') (zx.map cI))) (l:=bx) (a':=bx[k]) hk (by
  rw [hz]; simp [cS,dSl,reL,reD,one]) fun j hj hjk=>HV _ (fun i hi=>bU fun e=>Cg hn hk hj hjk i hi (by rw [hz,e]; simp [cS,dSl,idsL,D.ids])) (by simp)
 rw [List.set_getElem_self] at h
 refine CK ?_
 simp only [reD,bU hb,h]
 rfl
section
attribute [local simp] pS dSl cP cI cW
theorem nE (b : Sl Int) (c : Nat × Int) (q : ab) (hst : ∀ a ∈ q.atoms,a.rel.length <= maxLen) (hb : b.xs.length <= 1048576) (hc : curO b c) : VX Tryz.prog 68 [] [.ptr 1000 0 0,.agg ((au q).map V.d)] (some ((curD b c).map V.d)) (fun _ r cs _=>DecA b r cs):=by
 refine VX.of EA s68 Tryz.func68 ?_ ?_ fun B hB=>?_
 ·simp
 ·rintro cs h
  cases h
  simp [curD]
 have hqe : (au q).map V.d = [V.d (.int .i64 q.n),V.d (.pl (q.atoms.map aB)),V.d (.pl (q.out.map cI))]:=by simp [au]
 have hsb:=VC.track (As:=[.agg ((au q).map V.d)]) (fN q hst) (by simp [hqe,rpL,rp,D.er]) (by simp [eDec,V.pn,pnVL])
 have hsl:=Fa q
 have fin : ∀ (c' : Nat × Int) (y : Dec),curO b c' -> y.par.xs.length <= 5 -> DecA b (.agg ((cDec y).map V.d)) ((curD b c').map V.d):=fun c' y h1 h2=>⟨⟨c',y,rfl,h2,rfl,h1⟩⟩
 have hn5 : (if (if q.n < 5 then q.n else 5) > 0 then (if q.n < 5 then q.n else 5) else 0) <= 5:=by repeat' split <;> omega
 obtain ⟨N,hN,hN5⟩ : ∃ N : Int,N = (if 0 < (if q.n < 5 then q.n else 5) then (if q.n < 5 then q.n else 5) else 0) /\ N <= 5:=⟨_,rfl,hn5⟩
 rw [hqe] at hsb
 simp [hqe,Tryz.f68,curD]
 refine cutT (X:=((Nat × Int) × Bool) × Dec) (fun p h=>curO b p.1.1 /\ (∀ g ∈ idsL (cDec p.2),g < h) /\ (p.1.2 = true -> p.2.par.xs.length = p.2.bags.xs.length /\ p.2.par.xs.length <= 5 /\ 1 <= p.2.par.xs.length /\ Good (cDec p.2) (vA p.2) B /\ p.2.bags.T = some (28,1) /\ p.2.par.T = some (3,1) /\ (∀ z ∈ p.2.bags.xs,z.T = some (3,1) /\ 1 <= z.xs.length /\ z.xs.length <= 5))) (fun p=>[(0,.ptr 1000 0 0),(3,.ptr 3 0 0),(4,.ptr 4 0 0),(5,.ptr 5 0 0),(6,.d (.bool p.1.2))]) (fun p=>[(1000,some (.box ((curD b p.1.1).map V.d))),(3,some (.box [.d (.int .i64 q.n),.d (.pl (q.atoms.map aB)),.d (.pl (q.out.map cI))])),(4,some (.box [.d (.sl none none []),.d (.sl none none [])])),(5,some (.box ((cDec p.2).map V.d)))]) ?_ ?_
 ·intro K hK
  simp [curD,fT]
  simp only [<- hN]
  repeat' apply And.intro
  all_goals
   refine qL (tI:=3) c Jm (ki b c N hb hc hN5) (by simp [hN]) (by simp [curD]) (by simp) (by simp) fun o c0 n0 hs0 hn0 hm0 hy5 ky0 Gy0 uy0 Ty0 o0=>?_
   obtain ⟨oid,oT,ol⟩:=o
   simp [curD,fT]
   repeat' apply And.intro
   all_goals
    refine bb ((da q ol hst).er (As:=[.agg [.d (.int .i64 q.n),.d (.pl (q.atoms.map aB)),.d (.pl (q.out.map cI))],.d (.sl oid oT (ol.map cI))]) (by simp [hqe,rpL,rp,D.er,erI])) (by simp) (by simp) fun n1 hs1 r1 hn1 hm1 hp1 hr1=>?_
    obtain ⟨y,rfl,py,ky,Gy,Ty⟩:=hp1
    have hU : ∀ g ∈ idsL (cDec y),g < hs1:=fun g hg=>hr1 g (by simp only [V.ids,idsVL,mg,im,Qq] at hg ⊢; simp [hg])
    simp at hn1 hm1
    have hB1 : B <= n1:=by have : B <= n0:=hn0; omega
    have hI : iv q ol = true -> y.par.xs.length = y.bags.xs.length /\ y.par.xs.length <= 5 /\ 1 <= y.par.xs.length /\ Good (cDec y) (vA y) B /\ y.bags.T = some (28,1) /\ y.par.T = some (3,1) /\ (∀ z ∈ y.bags.xs,z.T = some (3,1) /\ 1 <= z.xs.length /\ z.xs.length <= 5):=fun hok=>by
     obtain ⟨T1,T2,T3⟩:=Ty hok
     obtain ⟨d1,d2,d3,d4,d5⟩:=tP hok
     rw [<- py] at d1 d2 d3
     have l1 : y.bags.xs.length = ol.length:=by simpa [fG,plS] using d2
     have l2 : y.par.xs.length = ol.length:=by simpa [fG,plS] using d3
     refine ⟨by omega,by omega,by omega,⟨Gy.nd,fun g hg=>Zy hB1 (Gy.lo g hg),Gy.wh⟩,T1,T2,fun z hz=>⟨T3 z hz,?_⟩⟩
     have h1:=d1 (plS plI z) (List.mem_map_of_mem hz)
     have h5:=Hn (xY hok).qok
     simp only [bagI,Jq,Xj] at h1
     have h2:=rG h5 h1.2
     have h3:=h1.1
     simp [plS] at h2 h3
     omega
    obtain ⟨⟨bid,bT,bx⟩,⟨pid,pT,px⟩⟩:=y
    simp [cDec,cS,curD,fT]
    repeat' apply And.intro
    all_goals exact hK ((c0,iv q ol),⟨⟨bid,bT,bx⟩,⟨pid,pT,px⟩⟩) _ ⟨o0,hU,hI⟩ rfl rfl (by simp; omega) (by simp) (by simp [curD,cDec,cS])
 rintro ⟨⟨c0,is⟩,⟨⟨bid,bT,bx⟩,⟨pid,pT,px⟩⟩⟩ hs0 t m ⟨o0,hU,hI⟩ hh0
 simp only at o0 hI hU
 cases is with
 | false =>
   simp [cDec,cS,curD,fT]
   refine bb hsb (by simp) (by simp) fun n2 hs2 r2 hn2 hm2 hp2 hr2=>?_
   obtain ⟨y2,rfl,p2⟩:=CV Dg hp2.1 hp2.2
   have hl2 : y2.par.xs.length <= 5:=by rw [<- p2] at hsl; simpa [fG,plS] using hsl
   obtain ⟨⟨bid2,bT2,bx2⟩,⟨pid2,pT2,px2⟩⟩:=y2
   simp [bt,cDec,cS,curD,fT]
   intro γ hs' h1 hg
   clear hg
   simpa [cDec,cS,curD] using fin c0 ⟨⟨bid2,bT2,bx2⟩,⟨pid2,pT2,px2⟩⟩ o0 hl2
 | true =>
   obtain ⟨e1,e2,e3,G,T1,T2,T3⟩:=hI rfl
   try simp only at e1 e2 e3 T1 T2 T3
   obtain rfl : bT = _:=T1
   obtain rfl : pT = _:=T2
   have wh1:=G.wh.1
   have wh2:=G.wh.2
   obtain ⟨gb,rfl⟩ : ∃ g,bid = some g:=by
    cases hq : bid with
    | none=>have:=wh1.1.nil hq; simp only at this; rw [this] at e1; simp only [List.length_nil] at e1; omega
    | some g=>exact ⟨g,rfl⟩
   obtain ⟨gp,rfl⟩ : ∃ g,pid = some g:=by
    cases hq : pid with
    | none=>have:=wh2.1.nil hq; simp only at this; rw [this] at e3; simp at e3
    | some g=>exact ⟨g,rfl⟩
   have eI : idsL (cDec ⟨⟨some gb,some (28,1),bx⟩,⟨some gp,some (3,1),px⟩⟩) = gb :: (idsLL (bx.map (cS cI)) ++ [gp]):=by
    simp [cDec,cS,idsL,D.ids,idsLL]
   have hnd:=G.nd
   have hlo:=G.lo
   rw [eI] at hnd hlo hU
   have hcur : ∀ f : Nat -> Option D,(∀ j,B <= j \/ f j = none) -> reV f (.d (.sl b.id b.T (b.xs.map cW))) = .d (.sl b.id b.T (b.xs.map cW)):=fun f hf=>dd _ (fun j hj=>by
    rcases hf j with h | h
    ·have:=hB j (.inr (by simpa [curD] using hj)); omega
    ·exact h) (by simp [gC])
   simp [cDec,cS,curD,fT]
   refine aW c0 EA89 (aD b c0 bx.length hb o0 (by omega)) (by simp) (by simp [curD]) (by simp) (by simp) fun r1 c1 hs1 hh1 hq1 hl1 o1=>?_
   obtain ⟨x,rfl,x0,x1,_⟩:=hq1
   have x1:=x1 (by omega)
   obtain ⟨k,rfl⟩ : ∃ k : Nat,x = k:=⟨x.toNat,by omega⟩
   have hkb : k < bx.length:=by omega
   have hkp : k < px.length:=by omega
   simp [cDec,cS,curD,fT]
   refine aW c1 EA89 (aD b c1 10 hb o1 (by omega)) (by simp) (by simp [curD]) (by simp) (by simp) fun r2 c2 hs2 hh2 hq2 hl2 o2=>?_
   obtain ⟨u,rfl,u0,u1,_⟩:=hq2
   refine kD [(0,.ptr 1000 0 0),(3,.ptr 3 0 0),(4,.ptr 4 0 0),(5,.ptr 5 0 0),(7,.d (.int .i64 k)),(29,.d (.int .i64 u))] [(1000,some (.box ((curD b c2).map V.d))),(3,some (.box [.d (.int .i64 q.n),.d (.pl (q.atoms.map aB)),.d (.pl (q.out.map cI))])),(4,some (.box [.d (.sl none none []),.d (.sl none none [])])),(5,some (.box ([.sl (some gb) (some (28,1)) (bx.map (cS cI)),.sl (some gp) (some (3,1)) (px.map cI)].map V.d)))] (by simp) (by simp [curD,cS]) fun t m=>?_
   by_cases w0 : u = 0
   ·subst w0
    simp [curD,fT]
    refine bb hsb (by simp) (by simp) fun n2 hs2 r2 hn2 hm2 hp2 hr2=>?_
    obtain ⟨y2,rfl,p2⟩:=CV Dg hp2.1 hp2.2
    have hl2 : y2.par.xs.length <= 5:=by rw [<- p2] at hsl; simpa [fG,plS] using hsl
    obtain ⟨⟨bid2,bT2,bx2⟩,⟨pid2,pT2,px2⟩⟩:=y2
    simp [bt,cDec,cS,curD,fT]
    intro γ hs' h1 hg
    clear hg
    simpa [cDec,cS,curD] using fin c2 ⟨⟨bid2,bT2,bx2⟩,⟨pid2,pT2,px2⟩⟩ o2 hl2
   have gpB : B <= gp:=hlo gp (by simp)
   have gbB : B <= gb:=hlo gb (by simp)
   simp only [List.nodup_cons,Qq,Qg,not_or] at hnd
   obtain ⟨⟨n1,n2⟩,n3⟩:=hnd
   have n4 : gp ∉ idsLL (bx.map (cS cI)):=fun h=>(List.nodup_append.1 n3).2.2 gp h gp (by simp) rfl
   have hone : ∀ g d,B <= g -> ∀ j,B <= j \/ one g d j = none:=fun g d hg j=>by
    by_cases h : j = g
    ·left; omega
    ·exact .inr (bU h)
   by_cases w1 : u = 1
   ·subst w1
    have hw1 : IntKind.i64.wrap ((bx.length : Int) + 1) = (bx.length : Int) + 1:=aj (by omega) (by omega)
    have eC:=fun d=>hcur _ (hone gp d gpB)
    have eB : ∀ d,reV (one gp d) (.d (.sl (some gb) (some (28,1)) (bx.map (cS cI)))) = .d (.sl (some gb) (some (28,1)) (bx.map (cS cI))):=fun d=>dd (.d (dSl (cS cI) ⟨some gb,some (28,1),bx⟩)) (fun j hj=>bU fun e=>by
     subst e
     rcases aK.1 hj with h | h
     ·cases h; exact n2 rfl
     ·exact n4 h) (by simp)
    have eR : ∀ v : Int,reV (one gp (.sl (some gp) (some (3,1)) ((px.map cI).set k [.int .i64 v]))) (.d (.sl (some gp) (some (3,1)) (px.map cI))) = .d (.sl (some gp) (some (3,1)) ((px.map cI).set k [.int .i64 v])):=fun v=>CO (uv fun x hx=>by obtain ⟨z,_,rfl⟩:=Xz.1 hx; rfl)
    simp [hw1,curD,fT]
    repeat' apply And.intro
    all_goals
     refine aW c2 EA89 (aD b c2 (bx.length + 1) hb o2 (by omega)) (by simp) (by simp [curD]) (by simp) (by simp) fun r3 c3 hs3 hh3 hq3 hl3 o3=>?_
     obtain ⟨v,rfl,v0,v1,_⟩:=hq3
     have v1:=v1 (by omega)
     have hwv : IntKind.i64.wrap (v - 1) = v - 1:=aj (by omega) (by omega)
     simp [hwv,hkp,gpB,eR,eC,eB,idsLL,idsL,D.ids,bt,curD,fT]
     intro γ hs' h1 hg
     clear hg
     have:=fin c3 ⟨⟨some gb,some (28,1),bx⟩,⟨some gp,some (3,1),px.set k (v - 1)⟩⟩ o3 (by simpa using e2)
     simpa [cDec,cS,curD,List.map_set] using this
   obtain ⟨⟨zid,zT,zx⟩,hz⟩ : ∃ z,bx[k] = z:=⟨_,rfl⟩
   have hzm : (⟨zid,zT,zx⟩ : Ints) ∈ bx:=hz ▸ Jy hkb
   obtain ⟨t1,t2,t3⟩:=T3 _ hzm
   simp only at t1 t2 t3
   obtain rfl : zT = _:=t1
   have wz:=(wh1.2 _ hzm).1
   obtain ⟨gz,rfl⟩ : ∃ g,zid = some g:=by
    cases hq : zid with
    | none=>have:=wz.nil hq; simp only at this; rw [this] at t2; simp at t2
    | some g=>exact ⟨g,rfl⟩
   have hbk : (bx.map (cS cI))[k]'(by simpa using hkb) = [.sl (some gz) (some (3,1)) (zx.map cI)]:=by rw [List.getElem_map,hz]; simp [cS]
   have hbk2 : (Option.map (cS cI) bx[k]?).getD [] = [.sl (some gz) (some (3,1)) (zx.map cI)]:=by rw [Jw hkb,hz]; simp [cS]
   have hgz : gz ∈ idsLL (bx.map (cS cI)):=by
    refine dE (List.mem_map_of_mem hzm) ?_
    simp [cS,idsL,D.ids]
   have gzB : B <= gz:=hlo gz (by simp [hgz])
   have n5 : gz ≠ gb:=fun e=>n1 (e ▸ hgz)
   have n6 : gz ≠ gp:=fun e=>n4 (e ▸ hgz)
   by_cases w2 : u = 2
   ·subst w2
    have eC:=fun d=>hcur _ (hone gb d gbB)
    have eP : ∀ d,reV (one gb d) (.d (.sl (some gp) (some (3,1)) (px.map cI))) = .d (.sl (some gp) (some (3,1)) (px.map cI)):=fun d=>dd (.d (dSl cI ⟨some gp,some (3,1),px⟩)) (fun j hj=>bU fun e=>by
     subst e
     rcases aK.1 hj with h | h
     ·cases h; exact n2 rfl
     ·simp at h) (by simp)
    have ht : List.take (zx.length - 1) (zx.map cI).tail = (zx.drop 1).map cI:=by
     rw [<- List.drop_one,List.map_drop,Jj (by simp)]
    have n7 : gb ∉ idsLL (bx.map (cS cI)):=n1
    have n5':=Ne.symm n5
    simp [hkb,hz,hbk,hbk2,t2,ht,gbB,n7,n5,n5',eC,eP,idsLL,idsL,D.ids,bt,curD,fT]
    have h0 : ∀ L : List Int,idsLL (L.map cI) = []:=fun L=>by simp
    refine ⟨by rw [<- List.drop_one,<- List.map_drop,h0]; exact List.not_mem_nil,?_⟩
    intro γ hs' h1 hg
    clear hg
    have:=fin c2 ⟨⟨some gb,some (28,1),bx.set k ⟨some gz,none,zx.drop 1⟩⟩,⟨some gp,some (3,1),px⟩⟩ o2 e2
    simpa [cDec,cS,curD,List.map_set] using this
   by_cases w3 : u = 3
   ·subst w3
    have n7 : gb ∉ idsLL (bx.map (cS cI)):=n1
    have nI : ∀ L : List Int,idsLL (L.map cI) = []:=fun L=>by simp
    simp [hkb,hz,hbk,hbk2,cS,curD,fT]
    repeat' apply And.intro
    all_goals
     refine aW c2 EA89 (aD b c2 6 hb o2 (by omega)) (by simp) (by simp [curD]) (by simp) (by simp) fun r3 c3 hs3 hh3 hq3 hl3 o3=>?_
     obtain ⟨v,rfl,v0,v1,_⟩:=hq3
     simp [hkb,hz,hbk,hbk2,cS,curD,fT]
     refine Aj _ _ _ rfl (g:=gz) (es:=zx.map cI) (by simp [hz]) ?_ fun g' hs' q1 q2 q3=>?_
     ·simp [gzB,LenOk,maxLen,idsLL,idsL,D.ids]
      omega
     have eC:=fun d=>hcur _ (hone gz d gzB)
     have eP : ∀ d,reV (one gz d) (.d (.sl (some gp) (some (3,1)) (px.map cI))) = .d (.sl (some gp) (some (3,1)) (px.map cI)):=fun d=>dd (.d (dSl cI ⟨some gp,some (3,1),px⟩)) (fun j hj=>bU fun e=>by
      subst e
      rcases aK.1 hj with h | h
      ·cases h; exact n6 rfl
      ·simp at h) (by simp)
     have eR:=HW (T:=(28,1)) hkb hz (List.nodup_append.1 n3).1 (Ne.symm n5)
     have gbg : gb ≠ g':=by
      rcases q2 with rfl | h
      ·exact Ne.symm n5
      ·have:=hU gb (by simp)
       simp at hh1 hh2 hh3 h
       omega
     have eC2:=fun d=>hcur _ (hone gb d gbB)
     have eP2 : ∀ d,reV (one gb d) (.d (.sl (some gp) (some (3,1)) (px.map cI))) = .d (.sl (some gp) (some (3,1)) (px.map cI)):=fun d=>dd (.d (dSl cI ⟨some gp,some (3,1),px⟩)) (fun j hj=>bU fun e=>by
      subst e
      rcases aK.1 hj with h | h
      ·cases h; exact n2 rfl
      ·simp at h) (by simp)
     simp [hkb,hz,hbk,hbk2,cS,eC,eP,eR,eC2,eP2,gbB,gbg,n7,cm,idsLL,idsL,D.ids,bt,curD,fT]
     intro γ hs' h1 hg
     clear hg
     have:=fin c3 ⟨⟨some gb,some (28,1),bx.set k ⟨some g',some (3,1),zx ++ [v]⟩⟩,⟨some gp,some (3,1),px⟩⟩ o3 e2
     simpa [cDec,cS,curD,List.map_set] using this
   simp [w0,w1,w2,w3,bt,curD,fT]
   intro γ hs' h1 hg
   clear hg
   simpa [cDec,cS,curD] using fin c2 ⟨⟨some gb,some (28,1),bx⟩,⟨some gp,some (3,1),px⟩⟩ o2 e2
end
structure QryB (b : Sl Int) (r : V) (cs : List V) : Prop where
 ex : ∃ (c' : Nat × Int) (d : Db) (y : dQ),r = .tup [.agg ((cDb d).map V.d),.agg ((az y).map V.d)] /\ (bdD d /\ okDb d) /\ ec y /\ QA (aO y) /\ cs = (curD b c').map V.d /\ curO b c'
section
attribute [local simp] pS dSl cP cI cW
theorem qD (b : Sl Int) (c : Nat × Int) (hb : b.xs.length <= 1048576) (hc : curO b c) : VX Tryz.prog 52 [] [.ptr 1000 0 0] (some ((curD b c).map V.d)) (fun _ r cs _=>QryB b r cs):=by
 refine VX.of E s52 Tryz.func52 ?_ ?_ fun B hB=>?_
 ·simp
 ·rintro cs h
  cases h
  simp [curD]
 simp [Tryz.f52,curD]
 refine xl c E87 (oa b c hb hc) (by simp) (by simp [curD]) (by simp) (by simp) fun xs g0 c0 n0 hs0 hn0 hm0 bd0 ok0 len0 hgn hgs hgx o0=>?_
 simp [cDb,cS,curD]
 refine tH c0 E88 (kj b c0 hb o0) (by simp) (by simp [curD]) (by simp) (by simp) fun q c1 n1 hs1 hn1 hm1 kq Gq uq okq smq TA TI o1=>?_
 obtain ⟨qn,⟨qaid,qaT,qa⟩,⟨qoid,qoT,qo⟩⟩:=q
 have hqa:=QA.of okq smq
 clear Gq TA TI
 simp [az,cDb,cS,curD]
 refine aW c1 E89 (aD b c1 24 hb o1 (by omega)) (by simp) (by simp [curD]) (by simp) (by simp) fun r2 c2 hs2 hh2 hq2 hl2 o2=>?_
 obtain ⟨u,rfl,u0,u1,_⟩:=hq2
 have fin : ∀ (c' : Nat × Int) (d : Db) (y : dQ),curO b c' -> bdD d -> okDb d -> ec y -> QA (aO y) -> QryB b (.tup [.agg ((cDb d).map V.d),.agg ((az y).map V.d)]) ((curD b c').map V.d):=fun c' d y h1 h2 h3 h4 h5=>⟨⟨c',d,y,rfl,⟨h2,h3⟩,h4,h5,rfl,h1⟩⟩
 by_cases e0 : u = 0
 ·subst e0
  simp [az,cDb,cS,curD]
  repeat' apply And.intro
  all_goals
   refine AN c2 E90 (tc b c2 hb o2) (by simp) (by simp [curD]) (by simp) (by simp) fun z c3 hs3 hh3 bdz okz o3=>?_
   obtain ⟨⟨zid,zT,zx⟩⟩:=z
   simp [bt,az,cDb,cS,curD]
   intro γ hs' h1 hg
   clear hg
   simpa [az,cDb,cS,curD] using fin c3 ⟨⟨zid,zT,zx⟩⟩ ⟨qn,⟨qaid,qaT,qa⟩,⟨qoid,qoT,qo⟩⟩ o3 bdz okz kq hqa
 by_cases e1 : u = 1
 ·subst e1
  simp [az,cDb,cS,curD]
  repeat' apply And.intro
  all_goals
   refine l0 c2 E91 (td b c2 hb o2) (by simp) (by simp [curD]) (by simp) (by simp) fun r cs hs3 hh3 hp3=>?_
   obtain ⟨c3,⟨yn,⟨yaid,yaT,ya⟩,⟨yoid,yoT,yo⟩⟩,rfl,ky,qy,rfl,o3⟩:=hp3.ex
   simp [bt,az,cDb,cS,curD]
   intro γ hs' h1 hg
   clear hg
   simpa [az,cDb,cS,curD] using fin c3 ⟨⟨some g0,some (120,3),xs⟩⟩ ⟨yn,⟨yaid,yaT,ya⟩,⟨yoid,yoT,yo⟩⟩ o3 bd0 ok0 ky qy
 simp [bt,e0,e1,az,cDb,cS,curD]
 intro γ hs' h1 hg
 clear hg
 simpa [az,cDb,cS,curD] using fin c2 ⟨⟨some g0,some (120,3),xs⟩⟩ ⟨qn,⟨qaid,qaT,qa⟩,⟨qoid,qoT,qo⟩⟩ o2 bd0 ok0 kq hqa
end
section
attribute [local simp] aR aC ax ay pS cP cI cStr cU8 cB ao eTab eDb Gj
theorem jF (a b : bE) : VC Tryz.prog 14 [.agg ((ao a).map V.d),.agg ((ao b).map V.d)] (fun _ r=>r = .d (.bool (decide (a = b)))):=by
 refine VC.ofL EP s14 Tryz.func14 fun B hl=>?_
 simp [pS,maxLen,Gj,eDb,ao] at hl
 obtain ⟨ah,a⟩:=a
 obtain ⟨bh,b⟩:=b
 simp only at hl
 by_cases h : ah = bh
 case neg=>simp [Tryz.f14,h]
 subst h
 by_cases hle : a.length = b.length
 case neg=>simp [Tryz.f14,hle,xB hle]
 simp [Tryz.f14,hle]
 refine ae (X:=Nat) (EqTo a b) (fun i=>[(2,.ptr 2 0 0),(3,.ptr 3 0 0),(5,.d (.int .i64 i))]) (fun i=>[(2,some (.box [.d (.int .i64 ah),.d (.pl (a.map (cP cI)))])),(3,some (.box [.d (.int .i64 ah),.d (.pl (b.map (cP cI)))]))]) (fun i=>a.length - i) 0 .zero (by simp [hle]) (by simp) ?_
 intro i hs t m hi hh
 have hia:=hi.le
 by_cases hlt : i < a.length
 ·have hlb : i < b.length:=by omega
  have hwi:=wr1 (i:=i) (by omega)
  simp [hlt,hlb]
  refine ag (bj a[i] b[i]) (by simp) rfl fun hs1 hh1=>?_
  simp at hh1
  by_cases he : a[i] = b[i]
  case neg=>simp [he,xA hlt hlb he,dj]
  simp [he,hwi,cK]
  exact back (i + 1) ⟨by omega,tS hi.eq hlt hlb he⟩ (by omega) rfl (by simp <;> omega) (by simp) (by simp)
 ·have hd:=tR hi.eq (by omega) hle
  simp [show ¬ i < b.length by omega,hlt,hd]
end
section
attribute [local simp] pS dSl cP cI cW
end
section
attribute [local simp] aR aC ax ay pS cP cI
theorem e6 (d : PDb) (q : ab) (hst : ∀ t ∈ d.tabs,t.name.length <= maxLen) (hsq : ∀ a ∈ q.atoms,a.rel.length <= maxLen) : VC Tryz.prog 10 [.agg ((eDb d).map V.d),.agg ((au q).map V.d)] (fun _ r=>r = .d (.bool (cf d q))):=by
 obtain ⟨dl,hdl⟩ : ∃ dl,dl = d.tabs:=⟨_,rfl⟩
 have hde : (eDb d).map V.d = [V.d (.pl (dl.map eTab))]:=by rw [hdl]; simp [eDb]
 have hqe : (au q).map V.d = [V.d (.int .i64 q.n),V.d (.pl (q.atoms.map aB)),V.d (.pl (q.out.map cI))]:=by simp [au]
 refine VC.ofL EP s10 Tryz.func10 fun B hl=>?_
 simp [hde,hqe,lnVL,V.ln,D.ln,maxLen] at hl
 simp [Tryz.f10,lj,hde,hqe]
 refine ae (X:=Nat) (fun i=>i <= q.atoms.length /\ bP (fun a=>lkB d a.rel && decide ((lkR d a.rel).ar = a.vars.length)) q.atoms i) (fun i=>[(2,.ptr 2 0 0),(3,.ptr 3 0 0),(5,.d (.int .i64 i))])
  (fun i=>[(2,some (.box [.d (.pl (dl.map eTab))])),(3,some (.box [.d (.int .i64 q.n),.d (.pl (q.atoms.map aB)),.d (.pl (q.out.map cI))]))]) (fun i=>q.atoms.length - i) 0 ⟨by simp,aQ⟩ (by simp) (by simp) ?_
 rintro i hs t m ⟨hi,hat⟩ hh
 by_cases hlt : i < q.atoms.length
 ·have hwi:=wr1 (i:=i) (by omega)
  obtain ⟨⟨nm,vs⟩,ha⟩ : ∃ a,a = q.atoms[i]:=⟨_,rfl⟩
  have hnot:=fun h=>bn (l:=q.atoms) (p:=fun a=>lkB d a.rel && decide ((lkR d a.rel).ar = a.vars.length)) hlt h
  have hst':=aM hat hlt
  have hb : (q.atoms.all fun a=>lkB d a.rel && decide ((lkR d a.rel).ar = a.vars.length)) = false -> cf d q = false:=fun h=>by simp only [cf,h,Bool.and_false]
  rw [<- ha] at hnot hst'
  simp [hlt,<- ha,aB,cStr]
  refine cutT (X:=Unit) (fun _ _=>True) (fun _=>[(2,.ptr 2 0 0),(3,.ptr 3 0 0),(5,.d (.int .i64 i)),(6,.ptr 6 0 0),(7,.d (.bool (lkB d nm)))])
   (fun _=>[(2,some (.box [.d (.pl (dl.map eTab))])),(3,some (.box [.d (.int .i64 q.n),.d (.pl (q.atoms.map aB)),.d (.pl (q.out.map cI))])),(6,some (.box ((ao (lkR d nm)).map V.d)))]) ?_ ?_
  ·intro K hK
   simp [hlt,<- ha,aB,cStr,lj]
   repeat' apply And.intro
   all_goals
    refine aF (fg d nm hst) (by simp [hde]) fun hs3 hh3 hl3=>?_
    simp at hh3
    simp [ao,lj]
    exact hK () _ trivial rfl rfl (by simp <;> omega) (by simp) (by simp [ao])
  rintro ⟨⟩ hs3 t m - hh3
  cases hlk : lkB d nm
  ·have:=hb (hnot (by simp [hlk]))
   simp [this,ao,lj]
  by_cases har : (lkR d nm).ar = vs.length
  ·simp [hwi,har,hlt,<- ha,aB,cStr,ao,lj]
   exact back (i + 1) ⟨by omega,hst' (by simp [hlk,har])⟩ (by omega) rfl (by simp <;> omega) (by simp) (by simp)
  ·have:=hb (hnot (by simp [hlk,har]))
   simp [this,har,hlt,<- ha,aB,cStr,ao,lj]
 ·have:=aP hat (by omega)
  simp [hlt,lj]
  refine ag (bf q hsq) (by simp [hqe]) rfl fun hs1 hh1=>?_
  simp at hh1
  cases hq : aw q
  ·simp [cf,hq,lj]
  simp [lj]
  refine ag (e7 d hst) (by simp [hde]) rfl fun hs2 hh2=>?_
  simp at hh2
  simp [cf,hq,this,lj]
theorem qE (d : PDb) (q : ab) (f : Qf d q) (hst : ∀ t ∈ d.tabs,t.name.length <= maxLen) (row : List Int) (hrow : row.length = q.n.toNat) : ∀ (k n : Nat),n + k = q.atoms.length ->
  VC Tryz.prog 45 [.agg ((eDb d).map V.d),.agg ((au q).map V.d),.d (.int .i64 n),.d (pS cI row)] (fun _ r=>r = .d (pS (cP cI) (dN d (q.atoms.drop n) row))):=by
 obtain ⟨dl,hdl⟩ : ∃ dl,dl = d.tabs:=⟨_,rfl⟩
 have hde : (eDb d).map V.d = [V.d (.pl (dl.map eTab))]:=by rw [hdl]; simp [eDb]
 have hqe : (au q).map V.d = [V.d (.int .i64 q.n),V.d (.pl (q.atoms.map aB)),V.d (.pl (q.out.map cI))]:=by simp [au]
 intro k
 induction k generalizing row with
 | zero =>
   intro n hn
   refine VC.ofL EP s45 Tryz.func45 fun B hl=>?_
   have hn : n = q.atoms.length:=by omega
   subst hn
   simp [pS,lnVL,V.ln,D.ln] at hl
   have hn5:=f.n5
   have hL : LenOk 8 row.length:=⟨by omega,by simp only [maxLen]; omega⟩
   simp [Tryz.f45,jD,hde,hqe,hL,Jj,dN,List.drop_length]
 | succ k ih =>
   intro n hn
   have hlt : n < q.atoms.length:=by omega
   have hmem:=Jy hlt
   obtain ⟨⟨nm,vs⟩,ha⟩ : ∃ a,a = q.atoms[n]:=⟨_,rfl⟩
   rw [<- ha] at hmem
   have hlk:=f.lk _ hmem
   have har:=f.ar _ hmem
   have hvl:=f.vlen _ hmem
   have hvi:=f.vin _ hmem
   have hn5:=f.n5
   have ha4:=f.a4
   have hr16:=kH hlk
   have hro:=um hlk
   have hdr : q.atoms.drop n = ⟨nm,vs⟩ :: q.atoms.drop (n + 1):=by rw [ha]; exact List.drop_eq_getElem_cons hlt
   have hne : ¬ n = q.atoms.length:=by omega
   have hwn:=wr1 (i:=n) (by omega)
   have h16 : ∀ a ∈ q.atoms.drop (n + 1),(lkR d a.rel).rows.length <= 16:=fun a h=>kH (f.lk a (List.mem_of_mem_drop h))
   have hd4 : (q.atoms.drop (n + 1)).length <= 4:=by rw [List.length_drop]; omega
   have hwa:=fun (ts : List (List Int))=>F6 (d:=d) (al:=q.atoms.drop (n + 1)) (vs:=vs) (row:=row) (ts:=ts) h16 hd4
   rw [hdr,wZ]
   simp only at hlk har hvl hvi
   have hrl:=fun (t : List Int) (ht : t ∈ (lkR d nm).rows)=>(bK hro ht).1
   obtain ⟨R,hR⟩ : ∃ R,R = lkR d nm:=⟨_,rfl⟩
   simp only [<- hR] at hrl hr16 har ⊢
   obtain ⟨ra,rl⟩:=R
   simp only at hrl hr16 har
   subst har
   refine VC.ofL EP s45 Tryz.func45 fun B hl=>?_
   simp [Tryz.f45,hde,hqe,hlt,<- ha,hne]
   refine cutT (X:=Unit) (fun _ _=>True) (fun _=>[(2,.d (.int .i64 n)),(3,.d (.pl (row.map cI))),(4,.ptr 4 0 0),(5,.ptr 5 0 0),(8,.d (.sl none none [])),(9,.own 26 0 0),(10,.ptr 10 0 0)])
    (fun _=>[(4,some (.box [.d (.pl (dl.map eTab))])),(5,some (.box [.d (.int .i64 q.n),.d (.pl (q.atoms.map aB)),.d (.pl (q.out.map cI))])),(10,some (.box [.d (.int .i64 vs.length),.d (.pl (rl.map (cP cI)))])),(26,some (.row 28 1 []))]) ?_ ?_
   ·intro K hK
    simp [hlt,<- ha,aB,cStr,jD]
    repeat' apply And.intro
    all_goals
     refine aF (fg d nm hst) (by simp [hde]) fun hs1 hh1 hl1=>?_
     simp at hh1
     simp [<- hR,ao,jD]
     exact hK () _ trivial rfl rfl (by simp <;> omega) (by simp) (by simp)
   rintro ⟨⟩ hs0 t m - hh0
   obtain ⟨G,hG⟩ : ∃ G : Nat -> List (List Int),∀ i,G i = (rl.take i).flatMap (wkF d (q.atoms.drop (n + 1)) vs row):=⟨_,fun _=>rfl⟩
   have hG0 : G 0 = []:=by rw [hG]; rfl
   have hGs : ∀ i (h : i < rl.length),G (i + 1) = G i ++ wkF d (q.atoms.drop (n + 1)) vs row rl[i]:=fun i h=>by rw [hG,hG]; exact sj h
   have hGe : rl.flatMap (wkF d (q.atoms.drop (n + 1)) vs row) = G rl.length:=by rw [hG,Jj (Jv _)]
   have hGl : ∀ i,(G i).length <= min i rl.length * 65536:=fun i=>by have:=hwa (rl.take i); rwa [Zq,<- hG] at this
   rw [hGe]
   simp [jD]
   refine ae (X:=Nat) (fun i=>i <= rl.length) (fun i=>[(2,.d (.int .i64 n)),(3,.d (.pl (row.map cI))),(4,.ptr 4 0 0),(5,.ptr 5 0 0),(8,.d (.sl none none [])),(9,.own 26 0 (G i).length),(10,.ptr 10 0 0),(12,.d (.int .i64 i))])
    (fun i=>[(4,some (.box [.d (.pl (dl.map eTab))])),(5,some (.box [.d (.int .i64 q.n),.d (.pl (q.atoms.map aB)),.d (.pl (q.out.map cI))])),(10,some (.box [.d (.int .i64 vs.length),.d (.pl (rl.map (cP cI)))])),(26,some (.row 28 1 ((G i).map (cP cI))))]) (fun i=>rl.length - i) 0 (by simp) (by simp [hG0]) (by simp [hG0]) ?_
   intro i hs t m hi hh
   by_cases hil : i < rl.length
   ·have hwi:=wr1 (i:=i) (by omega)
    have htl:=hrl _ (Jy hil)
    obtain ⟨tt,ht⟩ : ∃ tt,tt = rl[i]:=⟨_,rfl⟩
    have hsu:=hGs i hil
    have hln:=hGl i
    rw [<- ht] at htl hsu
    obtain ⟨O,hO⟩ : ∃ O,O = G i:=⟨_,rfl⟩
    rw [<- hO] at hsu hln ⊢
    have hLr : LenOk 8 row.length:=⟨by omega,by simp only [maxLen]; omega⟩
    simp [hil,hLr,Jj,jD]
    refine ae (X:=Nat × List Int × Bool) (fun p=>AsS row vs tt p.1 p.2.1 p.2.2) (fun p=>[(2,.d (.int .i64 n)),(3,.d (.pl (row.map cI))),(4,.ptr 4 0 0),(5,.ptr 5 0 0),(8,.d (.sl none none [])),(9,.own 26 0 O.length),(10,.ptr 10 0 0),(12,.d (.int .i64 i)),(13,.own 45 0 row.length),(14,.d (.bool p.2.2)),(15,.d (.int .i64 p.1))])
     (fun p=>[(4,some (.box [.d (.pl (dl.map eTab))])),(5,some (.box [.d (.int .i64 q.n),.d (.pl (q.atoms.map aB)),.d (.pl (q.out.map cI))])),(10,some (.box [.d (.int .i64 vs.length),.d (.pl (rl.map (cP cI)))])),(26,some (.row 28 1 (O.map (cP cI)))),(45,some (.row 3 1 (p.2.1.map cI)))]) (fun p=>vs.length - p.1) (0,row,true) .zero (by simp) (by simp) ?_
    rintro ⟨j,x,fits⟩ hs4 t m hA hh4
    simp only at hA
    have hle:=hA.le
    have hxl:=hA.len
    by_cases hc : fits = true /\ j < vs.length
    ·obtain ⟨rfl,hjl⟩:=hc
     have hwj:=wr1 (i:=j) (by omega)
     have hvj:=hvi _ (Jy hjl)
     have hjt : j < tt.length:=by omega
     have hsp:=hA.step hjl hjt
     obtain ⟨v,hv⟩ : ∃ v : Nat,vs[j] = (v : Int):=⟨vs[j].toNat,by omega⟩
     have hvx : v < x.length:=by omega
     rw [hv,Int.toNat_natCast,ak _ hvx] at hsp
     by_cases h1 : x[v] = -1
     ·simp only [h1,true_or,decide_true] at hsp
      rw [hxl] at hvx
      simp [hjl,hv,h1,hlt,<- ha,<- ht,aB,hwj,hvx,hjt,hil,hxl,-List.map_set,jD]
      exact back (j + 1,x.set v tt[j],true) hsp (by simp only; omega) rfl (by simp <;> omega) (by simp) (by simp)
     ·simp only [h1,false_or] at hsp
      rw [hxl] at hvx
      simp [hjl,hv,h1,hlt,<- ha,<- ht,aB,hwj,hvx,hjt,hil,hxl,-List.map_set,jD]
      exact back (j + 1,x.set v tt[j],decide (x[v] = tt[j])) hsp (by simp only; omega) rfl (by simp <;> omega) (by simp) (by simp)
    ·have hdn:=hA.done (fun h=>Nat.le_of_not_lt fun h2=>hc ⟨h,h2⟩)
     cases fits
     ·by_cases hjl : j < vs.length
      ·simp [hjl,hwi,jD]
       exact back (i + 1) (by omega) (by omega) rfl (by simp <;> omega) (by simp [hsu,wkF,hdn]) (by simp [hsu,wkF,hdn])
      ·simp [hjl,hwi,jD]
       exact back (i + 1) (by omega) (by omega) rfl (by simp <;> omega) (by simp [hsu,wkF,hdn]) (by simp [hsu,wkF,hdn])
     ·have hjl : ¬ j < vs.length:=fun h=>hc ⟨rfl,h⟩
      simp [hjl,hwi,hwn,jD]
      have hx2 : (x.map cI).take row.length = x.map cI:=Jj (by simp [hxl])
      have hwl:=yL (d:=d) (al:=q.atoms.drop (n + 1)) (vs:=vs) (row:=row) (t:=tt) h16 hd4
      rw [if_pos rfl] at hdn
      have hwe : wkF d (q.atoms.drop (n + 1)) vs row tt = dN d (q.atoms.drop (n + 1)) x:=by rw [wkF,hdn]
      rw [hwe] at hsu hwl
      have hLw : LenOk 24 (O.length + (dN d (q.atoms.drop (n + 1)) x).length):=⟨by omega,by simp only [maxLen]; omega⟩
      refine aF (ih x (by omega) (n + 1) (by omega)) (by simp [hde,hqe,hx2,show row.length <= x.length by omega]) fun hs5 hh5 hl5=>?_
      simp at hh5
      simp [hwi,hLw,jD]
      exact back (i + 1) (by omega) (by omega) rfl (by simp <;> omega) (by simp [hsu]) (by simp [hsu,Jj])
   ·have hn : i = rl.length:=by omega
    subst hn
    obtain ⟨O,hO⟩ : ∃ O,O = G rl.length:=⟨_,rfl⟩
    rw [<- hO]
    simp [Jj,jD]
theorem hY (d : PDb) (q : ab) (hst : ∀ t ∈ d.tabs,t.name.length <= maxLen) (hsq : ∀ a ∈ q.atoms,a.rel.length <= maxLen) : VC Tryz.prog 13 [.agg ((eDb d).map V.d),.agg ((au q).map V.d)] (fun _ r=>r = .agg ((ao (abP d q)).map V.d)):=by
 obtain ⟨dl,hdl⟩ : ∃ dl,dl = d.tabs:=⟨_,rfl⟩
 have hde : (eDb d).map V.d = [V.d (.pl (dl.map eTab))]:=by rw [hdl]; simp [eDb]
 have hqe : (au q).map V.d = [V.d (.int .i64 q.n),V.d (.pl (q.atoms.map aB)),V.d (.pl (q.out.map cI))]:=by simp [au]
 refine VC.ofL EP s13 Tryz.func13 fun B hl=>?_
 simp [Tryz.f13,mG,hde,hqe]
 refine ag (e6 d q hst hsq) (by simp [hde,hqe]) rfl fun hs1 hh1=>?_
 simp at hh1
 cases hqf : cf d q
 ·simp [abP,hqf,ao,mG]
 have f:=uN hqf
 have hn5:=f.n5
 obtain ⟨N,hN⟩ : ∃ N : Nat,q.n = (N : Int):=⟨q.n.toNat,by omega⟩
 have hNt : q.n.toNat = N:=by omega
 have hwm:=fun z=>(vz f z).1
 have hws : (dN d q.atoms (List.replicate q.n.toNat (-1))).length <= 65536:=by
  refine Zy (nG _ _ fun a ha=>kH (f.lk a ha)) ?_
  have : 16 ^ q.atoms.length <= 16 ^ 4:=Nat.pow_le_pow_right (by omega) f.a4.2
  simpa using this
 have hwk:=qE d q f hst (List.replicate q.n.toNat (-1)) (by simp) q.atoms.length 0 (by omega)
 rw [List.drop_zero] at hwk
 have hab : abP d q = newR q.n (dN d q.atoms (List.replicate q.n.toNat (-1))):=by simp only [abP,hqf,if_true]
 rw [hab]
 rw [hNt] at hwm hws hwk ⊢
 obtain ⟨W,hW⟩ : ∃ W,W = dN d q.atoms (List.replicate N (-1)):=⟨_,rfl⟩
 rw [<- hW] at hwm hws hwk ⊢
 simp [mG]
 refine ae (X:=Nat) (fun i=>i <= N) (fun i=>[(2,.ptr 2 0 0),(3,.ptr 3 0 0),(4,.ptr 4 0 0),(5,.own 13 0 i)])
  (fun i=>[(2,some (.box [.d (.pl (dl.map eTab))])),(3,some (.box [.d (.int .i64 q.n),.d (.pl (q.atoms.map aB)),.d (.pl (q.out.map cI))])),(4,some (.box [.d (.int .i64 0),.d (.sl none none [])])),(13,some (.row 3 1 ((List.replicate i (-1)).map cI)))]) (fun i=>N - i) 0 (by simp) (by simp) (by simp) ?_
 intro i hs t m hi hh
 by_cases hlt : i < N
 ·have hL : LenOk 8 (i + 1):=⟨by omega,by simp only [maxLen]; omega⟩
  have hli : (i : Int) < q.n:=by omega
  simp [hli,hL,Jj,mG]
  exact back (i + 1) (by omega) (by omega) rfl (by simp <;> omega) (by simp) (by simp [List.replicate_succ'])
 ·have hn : i = N:=by omega
  subst hn
  have hli : ¬ (i : Int) < q.n:=by omega
  simp [hli]
  refine cutT (X:=Unit) (fun _ _=>True) (fun _=>[(4,.ptr 4 0 0),(6,.ptr 6 0 0),(7,.d (.bool (newB q.n W)))])
   (fun _=>[(4,some (.box [.d (.int .i64 0),.d (.sl none none [])])),(6,some (.box ((ao (newR q.n W)).map V.d)))]) ?_ ?_
  ·intro K hK
   simp [mG]
   repeat' apply And.intro
   all_goals
    refine aF hwk (by simp [hde,hqe,Jj]) fun hs3 hh3 hl3=>?_
    simp at hh3
    simp [mG]
    repeat' apply And.intro
    all_goals
     refine aF (ib q.n W (by omega) (fun x hx=>by have:=(hwm x hx).1; omega)) (by simp) fun hs4 hh4 hl4=>?_
     simp at hh4
     simp [ao,mG]
     exact hK () _ trivial rfl rfl (by simp <;> omega) (by simp) (by simp [ao])
  rintro ⟨⟩ hs3 t m - hh3
  cases hnb : newB q.n W
  ·simp [ao,newR,hnb,mG]
  ·simp [ao,mG]
end
section
attribute [local simp] aR aC ax ay pS cP cI cStr
end
section
attribute [local simp] aR aC ax ay pS cP cI cStr
theorem bV (b : aG) : VC Tryz.prog 28 [.agg ((aX b).map V.d)] (fun _ r=>r = .d (.bool (vrOk b))):=by
 refine VC.ofL EP sZ Tryz.func28 fun B hl=>?_
 obtain ⟨vs,⟨ar,rl⟩⟩:=b
 simp [pS,maxLen,aX,ao] at hl
 have hR:=bO ⟨ar,rl⟩
 simp [Tryz.f28,aX,ao]
 refine ae (X:=Nat) (VI vs) (fun i=>[(1,.ptr 1 0 0),(6,.d (.pl (vs.map cI))),(7,.d (.int .i64 vs.length)),(8,.d (.int .i64 i))]) (fun _=>[(1,some (.box [.d (.pl (vs.map cI)),.d (.int .i64 ar),.d (.pl (rl.map (cP cI)))]))]) (fun i=>vs.length - i) 0 .zero (by simp) (by simp) ?_
 intro i hs t m hi hh
 have hle:=hi.le
 by_cases hlt : i < vs.length
 ·have hwi:=wr1 (i:=i) (by omega)
  have h4 : IntKind.i64.wrap (5 - 1) = 4:=by decide
  simp [hlt]
  repeat' apply And.intro
  all_goals
   refine ag (aN vs[i] 0 4) (by simp) rfl fun hs1 hh1=>?_
   simp at hh1
   cases h1 : inR vs[i] 0 4
   ·have hb : vrOk ⟨vs,⟨ar,rl⟩⟩ = false:=DK hlt (by show cp 5 vs i = false; rw [cp,ak _ hlt,h4,h1,Zh])
    simp [hb]
   by_cases h0 : i = 0
   ·subst h0
    have hwi0 : IntKind.i64.wrap 1 = 1:=by simpa using hwi
    have hok : cp 5 vs 0 = true:=by rw [cp,ak _ hlt,h4,h1,Bool.true_and]; simp [iL]
    simp [hwi0]
    exact back 1 (hi.step hlt hok) (by omega) rfl (by simp <;> omega) (by simp) (by simp)
   ·have h0' : 0 < i:=by omega
    have hw : IntKind.i64.wrap ((i : Int) - 1) = ((i - 1 : Nat) : Int):=by rw [aj (by omega) (by omega)]; omega
    have hl1 : i - 1 < vs.length:=by omega
    have hat:=lZ (b:=vs) (by omega) hlt
    by_cases he : vs[i - 1] < vs[i]
    ·have hok : cp 5 vs i = true:=by rw [cp,ak _ hlt,h4,h1,Bool.true_and,hat]; simpa using he
     simp [h0',hlt,hw,hl1,show ¬ vs[i] <= vs[i - 1] by omega,hwi]
     exact back (i + 1) (hi.step hlt hok) (by omega) rfl (by simp <;> omega) (by simp) (by simp)
    ·have hb : vrOk ⟨vs,⟨ar,rl⟩⟩ = false:=DK hlt (by show cp 5 vs i = false; rw [cp,ak _ hlt,h4,h1,Bool.true_and,hat]; simpa using he)
     simp [h0',hlt,hw,hl1,show vs[i] <= vs[i - 1] by omega,hb]
 ·have hd : vrOk ⟨vs,⟨ar,rl⟩⟩ = (aL ar rl && decide (ar = vs.length)):=VI.done (b:=⟨vs,⟨ar,rl⟩⟩) hi (by show vs.length <= i; omega)
  simp [hlt,ao]
  refine ag hR (by simp [ao]) rfl fun hs1 hh1=>?_
  simp at hh1
  rw [hd]
  cases aL ar rl <;> simp
end
section
attribute [local simp] aR aC ax ay pS cP cI cStr
theorem kh (r : bE) (cols : List Int) (hb : cols.length <= 4294967296) : VC Tryz.prog 15 [.agg ((ao r).map V.d),.d (pS cI cols)] (fun _ v=>v = .tup [.agg ((ao (prP r cols)).map V.d),.d (.bool (prB r cols))]):=by
 obtain ⟨ar,rl⟩:=r
 have hre : (ao ⟨ar,rl⟩).map V.d = [V.d (.int .i64 ar),V.d (.pl (rl.map (cP cI)))]:=by simp [ao]
 have hR:=bm ⟨ar,rl⟩
 refine VC.ofL EP s15 Tryz.func15 fun B hl=>?_
 clear hl
 simp [Tryz.f15,hre]
 refine ae (X:=Nat) (fun i=>i <= cols.length /\ bP (fun c=>inR c 0 (IntKind.i64.wrap (ar - 1))) cols i) (fun i=>[(1,.d (.pl (cols.map cI))),(2,.ptr 2 0 0),(4,.ptr 4 0 0),(6,.d (.int .i64 i))])
  (fun _=>[(2,some (.box [.d (.int .i64 ar),.d (.pl (rl.map (cP cI)))])),(4,some (.box [.d (.int .i64 0),.d (.sl none none [])]))]) (fun i=>cols.length - i) 0 ⟨by omega,aQ⟩ (by simp) (by simp) ?_
 intro i hs t m hi hh
 obtain ⟨hle,hal⟩:=hi
 by_cases hlt : i < cols.length
 ·have hwi:=wr1 (i:=i) (by omega)
  simp [hlt]
  repeat' apply And.intro
  all_goals
   refine ag (bB cols[i] 0 (IntKind.i64.wrap (ar - 1))) (by simp) rfl fun hs1 hh1=>?_
   simp at hh1
   cases h1 : inR cols[i] 0 (IntKind.i64.wrap (ar - 1))
   ·have hG : prG ⟨ar,rl⟩ cols = false:=by
     have : (cols.all fun c=>inR c 0 (IntKind.i64.wrap (ar - 1))) = false:=bn hlt h1
     simp [prG,eA,this]
    simp [prP,prB,hG,ao]
   ·simp [hwi]
    exact back (i + 1) ⟨by omega,aM hal hlt h1⟩ (by omega) rfl (by simp <;> omega) (by simp) (by simp)
 have hn : i = cols.length:=by omega
 subst hn
 have hall : (cols.all fun c=>inR c 0 (IntKind.i64.wrap (ar - 1))) = true:=aP hal (by omega)
 simp
 refine ag hR (by simp [hre]) rfl fun hs1 hh1=>?_
 simp at hh1
 cases hok : aL ar rl
 ·have hG : prG ⟨ar,rl⟩ cols = false:=by simp [prG,hok]
  simp [prP,prB,hG,ao]
 by_cases h5 : (5 : Int) < cols.length
 ·have hG : prG ⟨ar,rl⟩ cols = false:=by simp [prG,eA,show ¬ cols.length <= 5 by omega]
  simp [h5,prP,prB,hG,ao]
 have hG : prG ⟨ar,rl⟩ cols = true:=by simp [prG,eA,hok,hall]; omega
 have hn4 : rl.length <= 4000:=by
  simp only [aL,Jq,Xj] at hok; exact hok.1.2
 have hrng : ∀ row ∈ rl,∀ c ∈ cols,0 <= c /\ c < row.length:=fun row hrow c hc=>by
  have h1:=Jk.1 hall c hc
  have h2:=(bK hok hrow).1
  have h3 : inR ar 0 5 = true:=by simp only [aL,Jq] at hok; exact hok.1.1
  simp only [inR,Jq,Xj] at h1 h3
  rw [aj (by omega) (by omega)] at h1
  omega
 simp [h5]
 obtain ⟨PR,hPR⟩ : ∃ PR,PR = rl.map (bp cols):=⟨_,rfl⟩
 have hPl : PR.length = rl.length:=by rw [hPR]; simp
 refine ae (X:=Nat) (fun i=>i <= rl.length) (fun i=>[(1,.d (.pl (cols.map cI))),(2,.ptr 2 0 0),(4,.ptr 4 0 0),(7,.own 36 0 i),(8,.d (.int .i64 i))])
  (fun i=>[(2,some (.box [.d (.int .i64 ar),.d (.pl (rl.map (cP cI)))])),(4,some (.box [.d (.int .i64 0),.d (.sl none none [])])),(36,some (.row 28 1 ((PR.take i).map (cP cI))))]) (fun i=>rl.length - i) 0 (by omega) (by simp) (by simp) ?_
 intro i hs t m hi hh
 by_cases hlt : i < rl.length
 ·have hwi:=wr1 (i:=i) (by omega)
  have L : LenOk 24 (i + 1):=⟨by omega,by simp only [maxLen]; omega⟩
  have hip : i < PR.length:=by omega
  have hmin : min i PR.length = i:=by omega
  have hPi : PR[i] = bp cols rl[i]:=by simp only [hPR,List.getElem_map]
  have htk' : (PR.map (cP cI)).take (i + 1) = (PR.map (cP cI)).take i ++ [[D.pl ((bp cols rl[i]).map cI)]]:=by
   rw [<- List.map_take,Jz hip,Zj,List.map_take,hPi]; simp
  simp [hlt]
  try (repeat' apply And.intro)
  all_goals
   refine aF (qC rl[i] cols hb (hrng _ (Jy hlt))) (by simp) fun hs3 hh3 hl3=>?_
   simp at hh3
   simp [hwi,L,hmin,Jj]
   exact back (i + 1) (by omega) (by omega) rfl (by simp <;> omega) (by simp) (by simp [htk'])
 have hn : i = rl.length:=by omega
 subst hn
 have hPt : PR.take rl.length = PR:=Jj (by omega)
 rw [hPt]
 simp
 refine aF (ib cols.length PR (by omega) (fun x hx=>by
  rw [hPR] at hx; obtain ⟨row,_,rfl⟩:=Xz.1 hx; rw [dp]; omega)) (by simp [Jj,hPl]) fun hs3 hh3 hl3=>?_
 simp at hh3
 simp [prP,prB,prL,hG,<- hPR,ao]
theorem jO (r : bE) (cols : List Int) (hb : cols.length <= 4294967296) : VC Tryz.prog 34 [.agg ((ao r).map V.d),.d (pS cI cols)]
  (fun n v=>∃ y : Reln,v = .tup [.agg ((aA y).map V.d),.d (.bool (prB r cols))] /\ aV y = prP r cols /\ eL y /\ Good (aA y) (fq y) n):=by
 obtain ⟨ar,rl⟩:=r
 have hre : (ao ⟨ar,rl⟩).map V.d = [V.d (.int .i64 ar),V.d (.pl (rl.map (cP cI)))]:=by simp [ao]
 have hR:=bO ⟨ar,rl⟩
 refine VC.of E sZ Tryz.func34 fun B=>?_
 have hno : prG ⟨ar,rl⟩ cols = false -> ∃ y : Reln,V.tup [.agg ((aA ⟨0,nilS⟩).map V.d),.d (.bool false)] = .tup [.agg ((aA y).map V.d),.d (.bool (prB ⟨ar,rl⟩ cols))] /\ aV y = prP ⟨ar,rl⟩ cols /\ eL y /\ Good (aA y) (fq y) B:=fun h=>
  ⟨⟨0,nilS⟩,by rw [prB,h]; rfl,by simp [prP,h,aV,nilS,plS],⟨trivial,ch⟩,fl B⟩
 simp only [aA,cS,cI,nilS,dSl] at hno
 simp at hno
 simp [Tryz.f34,hre]
 refine ag hR (by simp [hre]) rfl fun hs1 hh1=>?_
 simp at hh1
 cases hok : aL ar rl
 ·have hG : prG ⟨ar,rl⟩ cols = false:=by simp [prG,hok]
  simp
  simpa [aA,cS,cI,dSl] using hno hG
 simp
 refine ag (iy ar cols) (by simp) rfl fun hs2 hh2=>?_
 simp at hh2
 cases hco : eA ar cols
 ·have hG : prG ⟨ar,rl⟩ cols = false:=by simp [prG,hco]
  simp
  simpa [aA,cS,cI,dSl] using hno hG
 have hG : prG ⟨ar,rl⟩ cols = true:=by simp [prG,hok,hco]
 have hn4 : rl.length <= 4000:=by
  simp only [aL,Jq,Xj] at hok; exact hok.1.2
 have hrng : ∀ row ∈ rl,∀ c ∈ cols,0 <= c /\ c < row.length:=fun row hrow c hc=>by
  simp only [eA,Jq] at hco
  have h1:=Jk.1 hco.2 c hc
  have h2:=(bK hok hrow).1
  have h3 : inR ar 0 5 = true:=by simp only [aL,Jq] at hok; exact hok.1.1
  simp only [inR,Jq,Xj] at h1 h3
  rw [aj (by omega) (by omega)] at h1
  omega
 simp
 obtain ⟨PR,hPR⟩ : ∃ PR,PR = rl.map (bp cols):=⟨_,rfl⟩
 have hPl : PR.length = rl.length:=by rw [hPR]; simp
 refine aE (X:=Nat) (fun i _=>i <= rl.length) (fun i=>[(1,.d (.pl (cols.map cI))),(2,.ptr 2 0 0),(4,.ptr 4 0 0),(6,.own 90 0 i),(21,.d (.pl (rl.map (cP cI)))),(22,.d (.int .i64 rl.length)),(23,.d (.int .i64 i))])
  (fun i=>[(2,some (.box [.d (.int .i64 ar),.d (.pl (rl.map (cP cI)))])),(4,some (.box [.d (.int .i64 0),.d (.sl none none [])])),(90,some (.row 28 1 ((PR.take i).map (cP cI))))]) (fun i=>rl.length - i) ?_ ?_
 ·refine (bA 6 90 28 1 (by omega) (by omega) (by simp)).bind ?_
  rintro _ rfl
  exact Lead.of ⟨0,by omega,rfl,rfl,Jv _,by simp,by simp⟩
 intro i hs t m hi hh
 by_cases hlt : i < rl.length
 ·have hwi:=wr1 (i:=i) (by omega)
  have L : LenOk 24 (i + 1):=⟨by omega,by simp only [maxLen]; omega⟩
  have hip : i < PR.length:=by omega
  have hmin : min i PR.length = i:=by omega
  have hPi : PR[i] = bp cols rl[i]:=by simp only [hPR,List.getElem_map]
  have htk' : (PR.map (cP cI)).take (i + 1) = (PR.map (cP cI)).take i ++ [[D.pl ((bp cols rl[i]).map cI)]]:=by
   rw [<- List.map_take,Jz hip,Zj,List.map_take,hPi]; simp
  refine dx fun Q=>?_
  simp [hlt]
  refine aF (nS rl[i] cols hb (hrng _ (Jy hlt))) (by simp) fun hs3 hh3 hl3=>?_
  simp at hh3
  simp [hwi,L,hmin,Jj]
  exact bg (i + 1) (by omega) (by omega) rfl (by simp <;> omega) (by simp) (by simp [htk'])
 have hn : i = rl.length:=by omega
 subst hn
 have hPt : PR.take rl.length = PR:=Jj (by omega)
 rw [hPt]
 simp
 refine ij (lG cols.length PR (by omega) (fun x hx=>by
  rw [hPR] at hx; obtain ⟨row,_,rfl⟩:=Xz.1 hx; rw [dp]; omega)) (by simp [Jj,hPl]) fun n3 hs3 r3 hn3 hm3 hp3 hl3=>?_
 obtain ⟨⟨ya,⟨yid,yT,ys⟩⟩,rfl,py,ky,Gy⟩:=hp3
 simp at hn3
 simp [aA,cS]
 exact ⟨⟨ya,⟨yid,yT,ys⟩⟩,by simp [aA,cS,prB,prL,hG,<- hPR],by rw [py,prP,hG,prL,<- hPR]; rfl,ky,Gy.le (by omega)⟩
end
theorem VC.plainE {P : Program} {f : FuncId} {As : List V} {post : Nat -> V -> Prop} {q : V -> Prop} (h : VC P f As post) (hq : ∀ n r,post n r -> ∃ v,rp (fun _=>none) r = some v /\ rd (fun _=>none) (fun _=>none) v = some v /\ q v) :
  VC P f As (fun _ v=>q v):=by
 refine ⟨h.1,fun w vals A hgl hLR=>?_⟩
 refine (h.2 w vals A hgl hLR).mono fun e w' he=>?_
 obtain ⟨v',r,rfl,hb,hvr,_,hp⟩:=he
 obtain ⟨v,h1,h2,h3⟩:=hq _ _ hp
 exact ⟨v',v,rfl,hb,VR.er _ _ _ hvr h1,h2,h3⟩
structure DjA (b : Sl Int) (r : V) (cs : List V) : Prop where
 ex : ∃ (c' : Nat × Int) (d : Db) (y : dQ) (x : Dec),r = .tup [.agg ((cDb d).map V.d),.agg ((az y).map V.d),.agg ((cDec x).map V.d)] /\ (bdD d /\ okDb d) /\ ec y /\ QA (aO y) /\ x.par.xs.length <= 5 /\ cs = (curD b c').map V.d /\ curO b c'
section
attribute [local simp] pS dSl cP cI cW
theorem qm (b : Sl Int) (c : Nat × Int) (hb : b.xs.length <= 1048576) (hc : curO b c) : VX Tryz.prog 75 [] [.ptr 1000 0 0] (some ((curD b c).map V.d)) (fun _ r cs _=>DjA b r cs):=by
 refine VX.of E s75 Tryz.func75 ?_ ?_ fun B hB=>?_
 ·simp
 ·rintro cs h
  cases h
  simp [curD]
 simp [Tryz.f75,-j0,curD]
 refine l0 c E52 (qD b c hb hc) (by simp) (by simp [curD]) (by simp) (by simp) fun r cs hs1 hh1 hp1=>?_
 obtain ⟨c1,⟨⟨tid,tT,tx⟩⟩,q,rfl,⟨bd,okd⟩,kq,aq,rfl,o1⟩:=hp1.ex
 have hst:=mr kq
 obtain ⟨qn,⟨qaid,qaT,qa⟩,⟨qoid,qoT,qo⟩⟩:=q
 have hn5 : (if (if qn < 5 then qn else 5) > 0 then (if qn < 5 then qn else 5) else 0) <= 5:=by repeat' split <;> omega
 obtain ⟨N,hN,hN5⟩ : ∃ N : Int,N = (if 0 < (if qn < 5 then qn else 5) then (if qn < 5 then qn else 5) else 0) /\ N <= 5:=⟨_,rfl,hn5⟩
 simp [cDb,az,cS,curD,-j0]
 refine cutT (X:=((Nat × Int) × Bool) × Dec) (fun p _=>curO b p.1.1 /\ p.2.par.xs.length <= 5) (fun p=>[(0,.ptr 1000 0 0),(2,.ptr 2 0 0),(3,.ptr 3 0 0),(4,.ptr 4 0 0),(5,.ptr 5 0 0),(6,.ptr 6 0 0),(7,.ptr 7 0 0),(8,.d (.bool p.1.2))]) (fun p=>[(1000,some (.box ((curD b p.1.1).map V.d))),(2,some (.box [.d (.sl none none [])])),(3,some (.box [.d (.int .i64 0),.d (.sl none none []),.d (.sl none none [])])),(4,some (.box [.d (.sl none none []),.d (.sl none none [])])),(5,some (.box [.d (.sl tid tT (tx.map cTab))])),(6,some (.box [.d (.int .i64 qn),.d (.sl qaid qaT (qa.map aU)),.d (.sl qoid qoT (qo.map cI))])),(7,some (.box ((cDec p.2).map V.d)))]) ?_ ?_
 ·intro K hK
  simp [curD,j0]
  simp only [<- hN]
  repeat' apply And.intro
  all_goals
   refine qL (tI:=3) c1 E114 (ki b c1 N hb o1 hN5) (by simp [hN]) (by simp [curD]) (by simp) (by simp) fun o c0 n0 hs0 hn0 hm0 hy5 ky0 Gy0 uy0 Ty0 o0=>?_
   obtain ⟨oid,oT,ol⟩:=o
   simp [curD,j0]
   repeat' apply And.intro
   all_goals
    refine bb ((da (aO ⟨qn,⟨qaid,qaT,qa⟩,⟨qoid,qoT,qo⟩⟩) ol hst).er (As:=[.agg [.d (.int .i64 qn),.d (.sl qaid qaT (qa.map aU)),.d (.sl qoid qoT (qo.map cI))],.d (.sl oid oT (ol.map cI))]) (by simp [au,aO,plS,rpL,rp,D.er,erI,bW jR,bW eE,ax])) (by simp) (by simp) fun n3 hs3 r3 hn3 hm3 hp3 hr3=>?_
    obtain ⟨y,rfl,py,ky,Gy,Ty⟩:=hp3
    simp at hn0 hn3
    have hp5 : y.par.xs.length <= 5:=by
     have : (fG y).par.length = y.par.xs.length:=by simp [fG,plS]
     rw [<- this,py]
     by_cases hok : iv (aO ⟨qn,⟨qaid,qaT,qa⟩,⟨qoid,qoT,qo⟩⟩) ol = true
     ·have:=(tP hok).2.2.1
      simp only at hy5
      omega
     ·simp [dcP,hok]
    obtain ⟨⟨bid,bT,bx⟩,⟨pid,pT,px⟩⟩:=y
    simp [cDec,cS,curD,j0]
    repeat' apply And.intro
    all_goals exact hK ((c0,iv (aO ⟨qn,⟨qaid,qaT,qa⟩,⟨qoid,qoT,qo⟩⟩) ol),⟨⟨bid,bT,bx⟩,⟨pid,pT,px⟩⟩) _ ⟨o0,hp5⟩ rfl rfl (by simp; omega) (by simp) (by simp [curD,cDec,cS])
 rintro ⟨⟨c2,is⟩,⟨⟨bid,bT,bx⟩,⟨pid,pT,px⟩⟩⟩ hs2 t m ⟨o2,hp5⟩ hh2
 simp only at o2 hp5
 have fin : ∀ (c' : Nat × Int) (x : Dec),curO b c' -> x.par.xs.length <= 5 -> DjA b (.tup [.agg [.d (.sl tid tT (tx.map cTab))],.agg [.d (.int .i64 qn),.d (.sl qaid qaT (qa.map aU)),.d (.sl qoid qoT (qo.map cI))],.agg ((cDec x).map V.d)]) ((curD b c').map V.d):=fun c' x h1 h2=>⟨⟨c',⟨⟨tid,tT,tx⟩⟩,⟨qn,⟨qaid,qaT,qa⟩,⟨qoid,qoT,qo⟩⟩,x,by simp [cDb,az,cS],⟨bd,okd⟩,kq,aq,h2,rfl,h1⟩⟩
 have hD:=fun c' h=>nE b c' (aO ⟨qn,⟨qaid,qaT,qa⟩,⟨qoid,qoT,qo⟩⟩) hst hb h
 cases is with
 | false =>
   simp [cDec,cS,curD,-j0]
   repeat' apply And.intro
   all_goals
    refine l0 c2 E68 (hD c2 o2) (by simp) (by simp [curD]) (by simp [aO,plS,au,bW jR,bW eE,ax]) (by simp) fun r cs hs4 hh4 hp4=>?_
    obtain ⟨c4,x4,rfl,h5,rfl,o4⟩:=hp4.ex
    have fin4:=fin c4 x4 o4 h5
    obtain ⟨⟨b4,bT4,bx4⟩,⟨p4,pT4,px4⟩⟩:=x4
    simp [bt,cDec,cS,curD,-j0]
    intro γ hs' h1 hg
    clear hg
    simpa [cDec,cS,curD] using fin4
 | true =>
   simp [cDec,cS,curD,-j0]
   refine aW c2 E53 (fx b c2 5 hb o2 (by omega)) (by simp) (by simp [curD]) (by simp) (by simp) fun r3 c3 hs3 hh3 hq3 hl3 o3=>?_
   obtain ⟨u,rfl⟩:=hq3
   cases u with
   | false =>
     simp [bt,cDec,cS,curD,-j0]
     repeat' apply And.intro
     all_goals
      intro γ hs' h1 hg
      clear hg
      simpa [cDec,cS,curD] using fin c3 ⟨⟨bid,bT,bx⟩,⟨pid,pT,px⟩⟩ o3 hp5
   | true =>
     simp [cDec,cS,curD,-j0]
     repeat' apply And.intro
     all_goals
      refine l0 c3 E68 (hD c3 o3) (by simp) (by simp [curD]) (by simp [aO,plS,au,bW jR,bW eE,ax]) (by simp) fun r cs hs4 hh4 hp4=>?_
      obtain ⟨c4,x4,rfl,h5,rfl,o4⟩:=hp4.ex
      have fin4:=fin c4 x4 o4 h5
      obtain ⟨⟨b4,bT4,bx4⟩,⟨p4,pT4,px4⟩⟩:=x4
      simp [bt,cDec,cS,curD,-j0]
      intro γ hs' h1 hg
      clear hg
      simpa [cDec,cS,curD] using fin4
structure DjT (v : V) : Prop where
 ex : ∃ (d : Db) (y : dQ) (x : Dec),v = .tup [.agg ((cDb d).map V.d),.agg ((az y).map V.d),.agg ((cDec x).map V.d)] /\ (bdD d /\ okDb d) /\ ec y /\ QA (aO y) /\ x.par.xs.length <= 5
theorem je (b : Sl Int) (hb : b.xs.length <= 1048576) : VC Tryz.prog 29 [.d (dSl cW b)] (fun _ v=>DjT v):=by
 refine VC.of E s29 Tryz.func29 fun B=>?_
 simp [Tryz.f29]
 refine D7 (s8 b hb) (by simp) (by simp) fun ds n0 hs0 hn0 hm0 hp0 hl0 hi0=>?_
 obtain ⟨c0,rfl,o0⟩:=hp0
 simp [curD]
 refine l0 c0 E75 (qm b c0 hb o0) (by simp) (by simp [curD]) (by simp) (by simp) fun r cs hs1 hh1 hp1=>?_
 obtain ⟨c1,d,q,x,rfl,h1,h2,h3,h4,rfl,o1⟩:=hp1.ex
 have fin : DjT (.tup [.agg ((cDb d).map V.d),.agg ((az q).map V.d),.agg ((cDec x).map V.d)]):=⟨⟨d,q,x,rfl,h1,h2,h3,h4⟩⟩
 obtain ⟨⟨tid,tT,tx⟩⟩:=d
 obtain ⟨qn,⟨qaid,qaT,qa⟩,⟨qoid,qoT,qo⟩⟩:=q
 obtain ⟨⟨bid,bT,bx⟩,⟨pid,pT,px⟩⟩:=x
 simp [cDb,az,cDec,cS,curD]
 simpa [cDb,az,cDec,cS] using fin
theorem eg (b : Sl Int) (hb : b.xs.length <= 1048576) : VC Tryz.prog 6 [.d (dSl cW b)] (fun _ v=>DjT v):=by
 refine VC.of E sZ Tryz.func6 fun B=>?_
 simp [Tryz.f6]
 refine bb (je b hb) rfl (by simp) fun n1 hs1 r1 hn1 hm1 hp1 hr1=>?_
 obtain ⟨d,q,x,rfl,h1,h2,h3,h4⟩:=hp1.ex
 have fin : DjT (.tup [.agg ((cDb d).map V.d),.agg ((az q).map V.d),.agg ((cDec x).map V.d)]):=⟨⟨d,q,x,rfl,h1,h2,h3,h4⟩⟩
 obtain ⟨⟨tid,tT,tx⟩⟩:=d
 obtain ⟨qn,⟨qaid,qaT,qa⟩,⟨qoid,qoT,qo⟩⟩:=q
 obtain ⟨⟨bid,bT,bx⟩,⟨pid,pT,px⟩⟩:=x
 simp [cDb,az,cDec,cS]
 simpa [cDb,az,cDec,cS] using fin
end
section
attribute [local simp] aR aC ax ay pS cP cI cStr cU8 cB
theorem mS (a b : bE) : VC Tryz.prog 16 [.agg ((ao a).map V.d),.agg ((ao b).map V.d)] (fun _ v=>v = .tup [.agg ((ao (difR a b)).map V.d),.d (.bool (difB a b))]):=by
 refine VC.ofL EP s16 Tryz.func16 fun B hl=>?_
 obtain ⟨aa,al⟩:=a
 obtain ⟨ba,bl⟩:=b
 simp [Tryz.f16,ao]
 refine ag (bm ⟨aa,al⟩) (by simp [ao]) rfl fun hs1 hh1=>?_
 simp at hh1
 cases h1 : aL aa al
 ·simp [difR,difB,h1,ao]
 simp
 refine ag (bm ⟨ba,bl⟩) (by simp [ao]) rfl fun hs2 hh2=>?_
 simp at hh2
 cases h2 : aL ba bl
 ·simp [difR,difB,h1,h2,ao]
 by_cases h3 : aa = ba
 case neg=>simp [difR,difB,h1,h2,h3,ao]
 subst h3
 have hdb : difB ⟨aa,al⟩ ⟨aa,bl⟩ = true:=by simp [difB,h1,h2]
 have hdr : difR ⟨aa,al⟩ ⟨aa,bl⟩ = ⟨aa,difL al bl⟩:=by simp only [difR,hdb,if_true]
 rw [hdb,hdr]
 have hal:=lQ h1
 have hbl:=lQ h2
 have hrow:=gR h1
 simp
 refine aE (X:=Nat) (fun i _=>i <= al.length) (fun i=>[(2,.ptr 2 0 0),(3,.ptr 3 0 0),(4,.ptr 4 0 0),(6,.ptr 6 0 0),(7,.d (.int .i64 i))])
  (fun i=>[(2,some (.box [.d (.int .i64 aa),.d (.pl (al.map (cP cI)))])),(3,some (.box [.d (.int .i64 aa),.d (.pl (bl.map (cP cI)))])),(4,some (.box [.d (.int .i64 0),.d (.sl none none [])])),(6,some (.box [.d (.int .i64 aa),.own 58 0 (difL (al.take i) bl).length])),(58,some (.row 28 1 ((difL (al.take i) bl).map (cP cI))))]) (fun i=>al.length - i) ?_ ?_
 ·refine (cz 6 1 58 28 1 [.d (.int .i64 aa),.d (.sl none none [])] (by omega) (by omega) (by omega) (by simp) rfl).bind ?_
  rintro _ rfl
  exact Lead.of ⟨0,by omega,rfl,rfl,Jv _,by simp,by simp [difL]⟩
 intro i hs t m hi hh
 by_cases hlt : i < al.length
 ·have hwi:=wr1 (i:=i) (by omega)
  have hst:=y8 (b:=bl) hlt
  have hdl:=A4 (al.take i) bl
  rw [Zq] at hdl
  have hL1 : LenOk 8 al[i].length:=by
   have:=hrow _ (Jy hlt)
   exact ⟨by omega,by simp only [maxLen]; omega⟩
  have hL2 : LenOk 24 ((difL (al.take i) bl).length + 1):=⟨by omega,by simp only [maxLen]; omega⟩
  simp [hlt]
  refine ag (qp ⟨aa,bl⟩ al[i] (by show bl.length <= _; omega)) (by simp [ao]) rfl fun hs3 hh3=>?_
  simp at hh3
  cases h4 : gO bl al[i]
  ·rw [h4] at hst
   simp only [Zv,if_false] at hst
   simp [hlt,hwi,hL1,hL2,Jj]
   exact bg (i + 1) (by omega) (by omega) rfl (by simp <;> omega) (by simp) (by simp [hst])
  ·rw [h4] at hst
   simp only [if_true,List.append_nil] at hst
   simp [hwi]
   exact bg (i + 1) (by omega) (by omega) rfl (by simp <;> omega) (by simp) (by simp [hst])
 ·have hn : i = al.length:=by omega
  subst hn
  simp [Jj]
theorem oo (a b : List (Int)) : VC Tryz.prog 17 [.d (pS cI a),.d (pS cI b)] (fun _ r=>r = .d (.bool (decide (a = b)))):=by
 refine VC.ofL EP s17 Tryz.func17 fun B hl=>?_
 simp [pS,maxLen] at hl
 by_cases hle : a.length = b.length
 case neg=>simp [Tryz.f17,hle,xB hle]
 simp [Tryz.f17,hle]
 refine ae (X:=Nat) (EqTo a b) (fun i=>[(0,.d (.pl (a.map (cI)))),(1,.d (.pl (b.map (cI)))),(5,.d (.int .i64 i))]) (fun _=>[]) (fun i=>a.length - i) 0 .zero (by simp [hle]) (by simp) ?_
 intro i hs t m hi hh
 have hia:=hi.le
 by_cases hlt : i < a.length
 ·have hlb : i < b.length:=by omega
  have hwi:=wr1 (i:=i) (by omega)
  simp [hlt,hlb]
  by_cases he : a[i] = b[i]
  case neg=>simp [he,xA hlt hlb he]
  simp [he,hwi]
  exact back (i + 1) ⟨by omega,tS hi.eq hlt hlb he⟩ (by omega) rfl (by simp <;> omega) (by simp) (by simp)
 ·have hd:=tR hi.eq (by omega) hle
  simp [show ¬ i < b.length by omega,hd]
theorem ke (d : PDb) (q : ab) (hst : ∀ t ∈ d.tabs,t.name.length <= maxLen) (hsq : ∀ a ∈ q.atoms,a.rel.length <= maxLen) (ho : q.out.length <= 5) (h : bdB d q = true) : VC Tryz.prog 12 [.agg ((eDb d).map V.d),.agg ((au q).map V.d)] (fun _ r=>r = .tup [.agg ((ao (prP (bdP d q) q.out)).map V.d),.d (.bool (prB (bdP d q) q.out))]):=by
 have hde : (eDb d).map V.d = [V.d (.pl (d.tabs.map eTab))]:=by simp [eDb]
 have hqe : (au q).map V.d = [V.d (.int .i64 q.n),V.d (.pl (q.atoms.map aB)),V.d (.pl (q.out.map cI))]:=by simp [au]
 have hAB:=hY d q hst hsq
 have hIQ:=e6 d q hst hsq
 have hq : cf d q = true:=by simp only [bdB,Jq] at h; exact h.1
 have hPr:=kh (bdP d q) q.out (by omega)
 have har : (bdP d q).ar = q.n:=by rw [bdP,if_pos h]
 rw [Gh] at hAB
 rw [hq] at hIQ
 obtain ⟨R,hR⟩ : ∃ R,R = bdP d q:=⟨_,rfl⟩
 rw [<- hR] at hAB hPr har ⊢
 refine VC.ofL EP sZ Tryz.func12 fun B hl=>?_
 clear hl
 simp [hde,hqe,Tryz.f12]
 refine aF hAB (by simp [hde,hqe]) fun hs1 hh1 hl1=>?_
 simp at hh1
 simp [ao,hde,hqe]
 refine ag hIQ (by simp [hde,hqe]) rfl fun hs2 hh2=>?_
 simp [har,ao,hde,hqe]
 refine aF hPr (by simp [ao,har]) fun hs3 hh3 hl3=>?_
 simp [ao]
end
section
attribute [local simp] aR aC ax ay pS cP cI cStr
end
section
attribute [local simp] aR aC ax ay pS cP cI cStr dSl
theorem pC (B : Nat) : Good (bu ⟨nilS,⟨0,nilS⟩⟩) (km ⟨nilS,⟨0,nilS⟩⟩) B:=by
 have:=Good.app (gw (c:=cI) (wh:=whI) B) (fl B) (fun g h h'=>by simp [cS,nilS,idsL,D.ids,dSl,idsLL] at h)
 exact ⟨this.nd,this.lo,this.wh⟩
theorem gI (a b : aG) : VC Tryz.prog 33 [.agg ((aX a).map V.d),.agg ((aX b).map V.d)]
  (fun n r=>∃ y : VRel,r = .tup [.agg ((bu y).map V.d),.d (.bool (njB a b))] /\ cH y = njP a b /\ lM y /\ Good (bu y) (km y) n):=by
 have hVa:=bV a
 have hVb:=bV b
 have hae : (aX a).map V.d = [V.d (.pl (a.vars.map cI)),V.d (.int .i64 a.rel.ar),V.d (.pl (a.rel.rows.map (cP cI)))]:=by simp [aX,ao]
 have hbe : (aX b).map V.d = [V.d (.pl (b.vars.map cI)),V.d (.int .i64 b.rel.ar),V.d (.pl (b.rel.rows.map (cP cI)))]:=by simp [aX,ao]
 refine VC.of E sZ Tryz.func33 fun B=>?_
 have hno : njB a b = false -> ∃ y : VRel,V.tup [.agg ((bu ⟨nilS,⟨0,nilS⟩⟩).map V.d),.d (.bool false)] = .tup [.agg ((bu y).map V.d),.d (.bool (njB a b))] /\ cH y = njP a b /\ lM y /\ Good (bu y) (km y) B:=fun h=>
  ⟨⟨nilS,⟨0,nilS⟩⟩,by rw [h],by simp [njP,h,cH,aV,nilS,plS],⟨ch,trivial,ch⟩,pC B⟩
 simp only [bu,aA,cS,cI,nilS,dSl] at hno
 simp at hno
 simp [Tryz.f33,hae,hbe]
 refine ag hVa (by simp [hae]) rfl fun hs1 hh1=>?_
 simp at hh1
 cases ha : vrOk a
 ·have hB : njB a b = false:=by simp [njB,ha]
  simp
  simpa [hB,bu,aA,cS,cI,dSl] using hno hB
 simp
 refine ag hVb (by simp [hbe]) rfl fun hs2 hh2=>?_
 simp at hh2
 cases hb : vrOk b
 ·have hB : njB a b = false:=by simp [njB,hb]
  simp
  simpa [hB,bu,aA,cS,cI,dSl] using hno hB
 have fa:=ck ha
 have fb:=ck hb
 have hu:=gg (b:=b) fa
 have hu5:=qd fa fb
 have hnr:=fun x hx=>(wu fa fb x hx).1
 have far:=fa.rl
 have fbr:=fb.rl
 have ra4:=fa.nr
 have rb4:=fb.nr
 have ha5:=fa.len
 have hb5:=fb.len
 have hB4 : njB a b = decide ((njL a b).length <= 4000):=by rw [njB,ha,hb]; rfl
 have hP4 : (njL a b).length <= 4000 -> njP a b = ⟨uniL a.vars b.vars,⟨(uniL a.vars b.vars).length,srtU (njL a b)⟩⟩:=fun h=>by rw [njP,hB4,if_pos (decide_eq_true h)]
 rw [njL] at *
 obtain ⟨U,hU⟩ : ∃ U,U = uniL a.vars b.vars:=⟨_,rfl⟩
 rw [<- hU] at hu5 hnr hB4 hP4
 simp only [<- hU] at hu
 have h1:=l7 a.vars b.vars (by omega)
 simp only [<- hU] at h1
 obtain ⟨A,⟨ra,R⟩⟩:=a
 obtain ⟨Bv,⟨rb,L⟩⟩:=b
 simp only at *
 simp
 refine bb h1 (by simp) (by simp) fun n3 hs3 r3 hn3 hm3 hp3 hr3=>?_
 obtain ⟨⟨uid,uT,ux⟩,rfl,rfl,ku,Gu⟩:=hp3
 simp at hn3
 have uu : ∀ g ∈ idsL (cS cI ⟨uid,uT,ux⟩),g < hs3:=fun g hg=>hr3 g (by rw [bc] at hg; simpa [V.ids] using hg)
 clear hr3
 simp only at hu5 hnr hB4 hP4 hu
 have her : erLL (ux.map cI) = ux.map cI:=by rw [bW eE,ax]
 simp
 refine aE (X:=Nat) (fun k _=>k <= R.length /\ (cO ux A (R.take k) Bv L).length <= 4000) (fun k=>[(2,.ptr 2 0 0),(3,.ptr 3 0 0),(4,.ptr 4 0 0),(6,.d (.sl uid uT (ux.map cI))),(7,.own 90 0 (cO ux A (R.take k) Bv L).length),(30,.d (.pl (R.map (cP cI)))),(31,.d (.int .i64 R.length)),(32,.d (.int .i64 k))])
  (fun k=>[(2,some (.box [.d (.pl (A.map cI)),.d (.int .i64 ra),.d (.pl (R.map (cP cI)))])),(3,some (.box [.d (.pl (Bv.map cI)),.d (.int .i64 rb),.d (.pl (L.map (cP cI)))])),(4,some (.box [.d (.sl none none []),.d (.int .i64 0),.d (.sl none none [])])),(90,some (.row 28 1 ((cO ux A (R.take k) Bv L).map (cP cI))))]) (fun k=>R.length - k) ?_ ?_
 ·refine (bA 7 90 28 1 (by omega) (by omega) (by simp)).bind ?_
  rintro _ rfl
  exact Lead.of ⟨0,⟨by omega,by simp [np]⟩,rfl,rfl,Jv _,by simp [np],by simp [np]⟩
 rintro k hs4 t m ⟨hk,hk4⟩ hh4
 have hh4' : hs3 <= hs4:=hh4
 by_cases hkl : k < R.length
 ·have hwk:=wr1 (i:=k) (by omega)
  have hrk:=(far _ (Jy hkl)).1
  obtain ⟨r,hr⟩ : ∃ r,r = R[k]:=⟨_,rfl⟩
  have hgd : R.getD k [] = r:=by rw [hr,List.getD_eq_getElem?_getD,Jw hkl]; rfl
  have hz:=B0 ux A R Bv L k
  have hA:=ED (u:=ux) (a:=A) (b:=Bv) (list:=L) hkl
  rw [<- hr] at hrk
  simp [hkl,<- hr]
  refine ae (X:=Nat) (fun j=>j <= L.length) (fun j=>[(2,.ptr 2 0 0),(3,.ptr 3 0 0),(4,.ptr 4 0 0),(6,.d (.sl uid uT (ux.map cI))),(7,.own 90 0 (jnI ux A R Bv L k j).length),(9,.d (.pl (r.map cI))),(30,.d (.pl (R.map (cP cI)))),(31,.d (.int .i64 R.length)),(32,.d (.int .i64 k)),(38,.d (.pl (L.map (cP cI)))),(39,.d (.int .i64 L.length)),(40,.d (.int .i64 j))])
   (fun j=>[(2,some (.box [.d (.pl (A.map cI)),.d (.int .i64 ra),.d (.pl (R.map (cP cI)))])),(3,some (.box [.d (.pl (Bv.map cI)),.d (.int .i64 rb),.d (.pl (L.map (cP cI)))])),(4,some (.box [.d (.sl none none []),.d (.int .i64 0),.d (.sl none none [])])),(90,some (.row 28 1 ((jnI ux A R Bv L k j).map (cP cI))))]) (fun j=>L.length - j) 0 (by omega) (by simp [hz]) (by simp [hz]) ?_
  intro j hs5 t m hj hh5
  have hh5' : hs4 <= hs5:=hh5
  by_cases hjl : j < L.length
  ·have hwj:=wr1 (i:=j) (by omega)
   have hsl:=(fbr _ (Jy hjl)).1
   obtain ⟨s,hs'⟩ : ∃ s,s = L[j]:=⟨_,rfl⟩
   have hsu:=BZ (u:=ux) (a:=A) (rows:=R) (b:=Bv) (k:=k) hjl
   have hjle:=Hx (u:=ux) (a:=A) (rows:=R) (b:=Bv) (list:=L) (k:=k) (j:=j) (by omega) (by omega) rb4
   rw [<- hs'] at hsl hsu
   rw [hgd] at hsu
   obtain ⟨J,hJ⟩ : ∃ x,x = jnI ux A R Bv L k j:=⟨_,rfl⟩
   rw [<- hJ] at hsu hjle ⊢
   have hLo : LenOk 24 (J.length + 1):=⟨by omega,by simp only [maxLen]; omega⟩
   refine anyQ fun Q2=>?_
   simp [hjl,<- hs']
   refine aF (n8 ux A r Bv s (by omega) (fun v hv=>(hu v).1 hv) hrk hsl) (by simp [her]) fun hs6 hh6 hl6=>?_
   simp at hh6
   cases hg : glB ux A r Bv s
   ·rw [hg] at hsu
    simp at hsu
    simp [hwj]
    exact back (j + 1) (by omega) (by omega) rfl (by simp <;> omega) (by simp [hsu]) (by simp [hsu])
   ·rw [hg] at hsu
    simp only [if_true] at hsu
    simp [hwj,hLo,Jj]
    exact back (j + 1) (by omega) (by omega) rfl (by simp <;> omega) (by simp [hsu]) (by simp [hsu])
  ·have hn : j = L.length:=by omega
   subst hn
   rw [hA]
   obtain ⟨J,hJ⟩ : ∃ x,x = cO ux A (R.take (k + 1)) Bv L:=⟨_,rfl⟩
   rw [<- hJ]
   by_cases h4 : (4000 : Int) < J.length
   ·have hB : decide ((cO ux A R Bv L).length <= 4000) = false:=decide_eq_false (by
     have:=zy (u:=ux) (a:=A) (b:=Bv) (rows:=R) (list:=L) (k + 1); rw [<- hJ] at this; omega)
    rw [<- hB4] at hB
    simp [h4]
    simpa [hB,bu,aA,cS,cI,dSl] using hno hB
   ·simp [h4,hwk]
    exact bg (k + 1) ⟨by omega,by rw [<- hJ]; omega⟩ (by omega) rfl (by simp <;> omega) (by simp [<- hJ]) (by simp [<- hJ])
 ·have hn : k = R.length:=by omega
  subst hn
  rw [List.take_length] at hk4 ⊢
  have hPj:=hP4 hk4
  have hBj : njB ⟨A,⟨ra,R⟩⟩ ⟨Bv,⟨rb,L⟩⟩ = true:=by rw [hB4]; exact decide_eq_true hk4
  simp
  refine ij (iB _ (cO ux A R Bv L) (Jv _) (by omega) (fun x hx=>by have:=hnr x hx; omega)) (by simp [Jj]) fun n7 hs7 r7 hn7 hm7 hp7 hl7=>?_
  obtain ⟨y,rfl,p7,k7,G7⟩:=hp7
  simp at hn7
  simp
  have G:=Good.app (Gu.le (show B <= n3 by omega)) (kF (ar:=ux.length) G7 (show B <= n7 by omega)) (fun g h h'=>by
   have h2:=uu g h
   rw [aA,cM] at h'
   rcases Qq.1 h' with h3 | h3
   ·simp [cI,idsL,D.ids] at h3
   ·have:=G7.lo g h3
    omega)
  exact ⟨⟨⟨uid,uT,ux⟩,⟨ux.length,y⟩⟩,⟨by simp [bu,aA,cS],hBj⟩,by rw [hPj]; simp only [cH,aV,plI]; rw [p7]; simp [plS],⟨ku,trivial,k7⟩,⟨G.nd,G.lo,G.wh⟩⟩
end
section
theorem lV (a b : Nat) (ha : a <= 4000000000000000000) (hb : b <= 4000000000000000000) : VC Tryz.prog 142 [.d (.int .i64 a),.d (.int .i64 b)] (fun _ r=>r = .d (.int .i64 (Nat.gcd a b : Nat))):=by
 refine VC.ofL EP s142 Tryz.func142 fun B hl=>?_
 simp [Tryz.f142]
 refine ae (X:=Nat × Nat) (fun p=>p.1 <= 4000000000000000000 /\ p.2 <= 4000000000000000000 /\ Nat.gcd p.1 p.2 = Nat.gcd a b) (fun p=>[(0,.d (.int .i64 p.1)),(1,.d (.int .i64 p.2))]) (fun _=>[]) (fun p=>p.2) (a,b) ⟨ha,hb,rfl⟩ (by simp) (by simp) ?_
 rintro ⟨x,y⟩ hs t m ⟨h1,h2,h3⟩ hh
 simp only at h1 h2 h3
 by_cases hy : y = 0
 ·subst hy
  rw [Nat.gcd_zero_right] at h3
  simp [h3]
 ·have hm:=Nat.mod_lt x (show 0 < y by omega)
  have h4 : Nat.gcd y (x % y) = Nat.gcd a b:=by rw [<- h3,Nat.gcd_comm x y,Nat.gcd_rec y x,Nat.gcd_comm]
  simp [hy,Dj]
  exact back (y,x % y) ⟨h2,by simp only; omega,h4⟩ (by simp only; omega) rfl (by simp <;> omega) (by simp) (by simp)
theorem lU (n : Int) (h : n.natAbs <= 4000000000000000000) : VC Tryz.prog 143 [.d (.int .i64 n)] (fun _ r=>r = .d (.int .i64 (n.natAbs : Nat))):=by
 refine VC.ofL EP sZ Tryz.func143 fun B hl=>?_
 have hw : IntKind.i64.wrap (-n) = -n:=aj (by omega) (by omega)
 by_cases h0 : n < -n
 ·simp [Tryz.f143,hw,h0]
  omega
 ·simp [Tryz.f143,hw,h0]
  omega
theorem bN (q : Xw) (h : smQ q) : VC Tryz.prog 116 [.agg [.d (.int .i64 q.num),.d (.int .i64 (q.den : Int))]] (fun _ r=>r = .d (.bool true)):=by
 obtain ⟨i1,i2,i3,i4⟩:=sm_i h
 have e1 : inR (q.den : Int) 1 1000000000 = true:=by simp [inR]; omega
 have e2 : inR q.num (-1000000000) 1000000000 = true:=by simp [inR]; omega
 have e3:=H2 q
 refine VC.ofL EP s116 Tryz.func116 fun B hl=>?_
 simp [Tryz.f116]
 refine ag (aN q.den 1 1000000000) (by simp) rfl fun hs0 hh0=>?_
 simp [e1]
 refine ag (aN q.num (-1000000000) 1000000000) (by simp) rfl fun hs1 hh1=>?_
 simp [e2]
 refine ag (lU q.num (by omega)) (by simp) rfl fun hs2 hh2=>?_
 simp
 refine ag (lV q.num.natAbs q.den (by omega) (by omega)) (by simp) rfl fun hs3 hh3=>?_
 simp [e3]
theorem ef (n d : Int) (q : Xw) (hq : q = _root_.Rat.divInt n d) (hd : d ≠ 0) (hn4 : n.natAbs <= 4000000000000000000) (hd4 : d.natAbs <= 4000000000000000000) (h : smQ q) :
  VC Tryz.prog 165 [.d (.int .i64 n),.d (.int .i64 d)] (fun _ r=>r = .tup [.agg [.d (.int .i64 q.num),.d (.int .i64 (q.den : Int))],.d (.bool true)]):=by
 have e1 : inR n (-4000000000000000000) 4000000000000000000 = true:=by simp [inR]; omega
 have e2 : inR d (-4000000000000000000) 4000000000000000000 = true:=by simp [inR]; omega
 have wn : IntKind.i64.wrap (-n) = -n:=aj (by omega) (by omega)
 have wd : IntKind.i64.wrap (-d) = -d:=aj (by omega) (by omega)
 obtain ⟨i1,i2,i3,i4⟩:=sm_i h
 have wq : IntKind.i64.wrap q.num = q.num:=aj (by omega) (by omega)
 have wr : IntKind.i64.wrap (q.den : Int) = q.den:=aj (by omega) (by omega)
 refine VC.ofL EP s165 Tryz.func165 fun B hl=>?_
 simp [Tryz.f165,hd]
 refine ag (aN n (-4000000000000000000) 4000000000000000000) (by simp) rfl fun hs0 hh0=>?_
 simp [e1]
 refine ag (aN d (-4000000000000000000) 4000000000000000000) (by simp) rfl fun hs1 hh1=>?_
 simp [e2]
 by_cases h0 : d < 0
 ·have hp : 0 < -d:=by omega
  obtain ⟨a1,a2⟩:=uC (n:=-n) (d:=-d) (q:=q) (by rw [hq,HP]) hp
  obtain ⟨b1,b2⟩:=BF (n:=-n) hp
  have b3 : Nat.gcd (-n).natAbs (-d).natAbs ≠ 0:=by omega
  have hdn : ((-d).natAbs : Int) = -d:=by omega
  simp [h0,wn,wd]
  refine ag (lU (-n) (by omega)) (by simp) rfl fun hs2 hh2=>?_
  simp [-Int.natAbs_neg]
  refine ag (lV (-n).natAbs (-d).natAbs (by omega) (by omega)) (by simp [-Int.natAbs_neg,hdn]) rfl fun hs3 hh3=>?_
  simp [-Int.natAbs_neg,b3,a1,a2,wq,wr]
  refine ag (bN q h) (by simp) rfl fun hs4 hh4=>?_
  simp
 ·have hp : 0 < d:=by omega
  obtain ⟨a1,a2⟩:=uC (n:=n) (d:=d) (q:=q) hq hp
  obtain ⟨b1,b2⟩:=BF (n:=n) hp
  have b3 : Nat.gcd n.natAbs d.natAbs ≠ 0:=by omega
  have hdn : (d.natAbs : Int) = d:=by omega
  simp [h0]
  refine ag (lU n (by omega)) (by simp) rfl fun hs2 hh2=>?_
  simp
  refine ag (lV n.natAbs d.natAbs (by omega) (by omega)) (by simp [hdn]) rfl fun hs3 hh3=>?_
  simp [b3,a1,a2,wq,wr]
  refine ag (bN q h) (by simp) rfl fun hs4 hh4=>?_
  simp
theorem dJ (a b : Xw) (ha : smQ a) (hb : smQ b) : VC Tryz.prog 69 [.agg [.d (.int .i64 a.num),.d (.int .i64 (a.den : Int))],.agg [.d (.int .i64 b.num),.d (.int .i64 (b.den : Int))]] (fun _ r=>r = .d (.bool true)):=by
 refine VC.ofL EP sZ Tryz.func69 fun B hl=>?_
 simp [Tryz.f69]
 refine ag (bN a ha) (by simp) rfl fun hs0 hh0=>?_
 simp
 refine ag (bN b hb) (by simp) rfl fun hs1 hh1=>?_
 simp
theorem gW (a b : Xw) (ha : smQ a) (hb : smQ b) (h : smQ (a + b)) : VC Tryz.prog 152 [.agg [.d (.int .i64 a.num),.d (.int .i64 (a.den : Int))],.agg [.d (.int .i64 b.num),.d (.int .i64 (b.den : Int))]]
  (fun _ r=>r = .tup [.agg [.d (.int .i64 (a + b).num),.d (.int .i64 ((a + b).den : Int))],.d (.bool true)]):=by
 obtain ⟨m1,m2,m3,m4,m5⟩:=sM ha hb
 have w1 : IntKind.i64.wrap (a.num * b.den) = a.num * b.den:=aj (by omega) (by omega)
 have w2 : IntKind.i64.wrap (b.num * a.den) = b.num * a.den:=aj (by omega) (by omega)
 have w3 : IntKind.i64.wrap (a.num * b.den + b.num * a.den) = a.num * b.den + b.num * a.den:=aj (by omega) (by omega)
 have w4 : IntKind.i64.wrap ((a.den : Int) * b.den) = (a.den : Int) * b.den:=aj (by omega) (by omega)
 have hp : (0 : Int) < (a.den : Int) * b.den:=xy
 refine VC.ofL EP sZ Tryz.func152 fun B hl=>?_
 simp [Tryz.f152]
 refine ag (dJ a b ha hb) (by simp) rfl fun hs0 hh0=>?_
 simp [w1,w2,w3,w4]
 refine ag (ef (a.num * b.den + b.num * a.den) ((a.den : Int) * b.den) (a + b) (J2 a b) (by omega) (by omega) (by omega) h) (by simp) rfl fun hs1 hh1=>?_
 simp
theorem lT (a b : Xw) (ha : smQ a) (hb : smQ b) (h : smQ (a - b)) : VC Tryz.prog 171 [.agg [.d (.int .i64 a.num),.d (.int .i64 (a.den : Int))],.agg [.d (.int .i64 b.num),.d (.int .i64 (b.den : Int))]]
  (fun _ r=>r = .tup [.agg [.d (.int .i64 (a - b).num),.d (.int .i64 ((a - b).den : Int))],.d (.bool true)]):=by
 obtain ⟨i1,i2,i3,i4⟩:=sm_i hb
 have w1 : IntKind.i64.wrap (-b.num) = (-b).num:=by rw [(uM b).1]; exact aj (by omega) (by omega)
 have e2 : (b.den : Int) = ((-b).den : Int):=by rw [(uM b).2]
 have e3 : a - b = a + -b:=J5 a b
 rw [e3] at h ⊢
 refine VC.ofL EP sZ Tryz.func171 fun B hl=>?_
 simp [Tryz.f171,w1]
 refine ag (gW a (-b) ha (H3 hb) h) (by simp [(uM b).2]) rfl fun hs0 hh0=>?_
 simp
theorem g8 (a b : Xw) (ha : smQ a) (hb : smQ b) (h : smQ (a * b)) : VC Tryz.prog 151 [.agg [.d (.int .i64 a.num),.d (.int .i64 (a.den : Int))],.agg [.d (.int .i64 b.num),.d (.int .i64 (b.den : Int))]]
  (fun _ r=>r = .tup [.agg [.d (.int .i64 (a * b).num),.d (.int .i64 ((a * b).den : Int))],.d (.bool true)]):=by
 obtain ⟨m1,m2,m3,m4,m5⟩:=sM ha hb
 have w3 : IntKind.i64.wrap (a.num * b.num) = a.num * b.num:=aj (by omega) (by omega)
 have w4 : IntKind.i64.wrap ((a.den : Int) * b.den) = (a.den : Int) * b.den:=aj (by omega) (by omega)
 have hp : (0 : Int) < (a.den : Int) * b.den:=xy
 refine VC.ofL EP sZ Tryz.func151 fun B hl=>?_
 simp [Tryz.f151]
 refine ag (dJ a b ha hb) (by simp) rfl fun hs0 hh0=>?_
 simp [w3,w4]
 refine ag (ef (a.num * b.num) ((a.den : Int) * b.den) (a * b) (J4 a b) (by omega) (by omega) (by omega) h) (by simp) rfl fun hs1 hh1=>?_
 simp
theorem gY (a b : Xw) (ha : smQ a) (hb : smQ b) (hne : b ≠ 0) (h : smQ (a / b)) : VC Tryz.prog 163 [.agg [.d (.int .i64 a.num),.d (.int .i64 (a.den : Int))],.agg [.d (.int .i64 b.num),.d (.int .i64 (b.den : Int))]]
  (fun _ r=>r = .tup [.agg [.d (.int .i64 (a / b).num),.d (.int .i64 ((a / b).den : Int))],.d (.bool true)]):=by
 obtain ⟨m1,m2,m3,m4,m5⟩:=sM ha hb
 have hbn:=HB hne
 have w3 : IntKind.i64.wrap (a.num * b.den) = a.num * b.den:=aj (by omega) (by omega)
 have w4 : IntKind.i64.wrap ((a.den : Int) * b.num) = (a.den : Int) * b.num:=aj (by omega) (by omega)
 have hp : (a.den : Int) * b.num ≠ 0:=Int.mul_ne_zero (by have:=wJ (q:=a); omega) hbn
 refine VC.ofL EP sZ Tryz.func163 fun B hl=>?_
 simp [Tryz.f163]
 refine ag (dJ a b ha hb) (by simp) rfl fun hs0 hh0=>?_
 simp [w3,w4,hbn]
 refine ag (ef (a.num * b.den) ((a.den : Int) * b.num) (a / b) (J3 a b) hp (by omega) (by omega) h) (by simp) rfl fun hs1 hh1=>?_
 simp
theorem eo (a b : Xw) (ha : smQ a) (hb : smQ b) : VC Tryz.prog 25 [.agg [.d (.int .i64 a.num),.d (.int .i64 (a.den : Int))],.agg [.d (.int .i64 b.num),.d (.int .i64 (b.den : Int))]]
  (fun _ r=>r = .d (.int .i64 (cmpQ a b))):=by
 obtain ⟨m1,m2,m3,m4,m5⟩:=sM ha hb
 have w1 : IntKind.i64.wrap (a.num * b.den) = a.num * b.den:=aj (by omega) (by omega)
 have w2 : IntKind.i64.wrap (b.num * a.den) = b.num * a.den:=aj (by omega) (by omega)
 refine VC.ofL EP sZ Tryz.func25 fun B hl=>?_
 simp [Tryz.f25]
 refine ag (dJ a b ha hb) (by simp) rfl fun hs0 hh0=>?_
 simp [w1,w2]
 refine ag (de (a.num * b.den) (b.num * a.den)) (by simp) rfl fun hs1 hh1=>?_
 simp [Eb]
end
section
end
section
attribute [local simp] pS cP fj
theorem cu (l : List Xw) (h : ∀ q ∈ l,smQ q) : VC Tryz.prog 132 [.d (pS eQ l)] (fun _ r=>r = .d (.bool true)):=by
 refine VC.ofL EP sZ Tryz.func132 fun B hl=>?_
 simp [maxLen] at hl
 simp [Tryz.f132]
 refine ae (X:=Nat) (fun i=>i <= l.length) (fun i=>[(5,.d (.pl (l.map eQ))),(6,.d (.int .i64 l.length)),(7,.d (.int .i64 i))]) (fun _=>[]) (fun i=>l.length - i) 0 (by simp) (by simp) (by simp) ?_
 intro i hs t m hi hh
 by_cases hlt : i < l.length
 ·have hwi:=wr1 (i:=i) (by omega)
  simp [hlt]
  refine ag (bN l[i] (h _ (Jy hlt))) (by simp) rfl fun hs1 hh1=>?_
  try simp at hh1
  simp [hwi]
  exact back (i + 1) (by omega) (by omega) rfl (by simp <;> omega) (by simp) (by simp)
 ·simp [hlt]
theorem jP (l : List Xw) (hb : l.length <= 4294967296) :
  VC Tryz.prog 146 [.d (pS eQ l)] (fun n r=>∃ g : Option Nat,r = .d (.sl g (some (62,2)) (l.map eQ)) /\ (∀ k,g = some k -> n <= k) /\ (g = none -> l = [])):=by
 refine VC.of E sZ Tryz.func146 fun B=>?_
 have hL : LenOk 16 l.length:=⟨by omega,by simp only [maxLen]; omega⟩
 have hp : hpLL (l.map eQ) = false:=hp_eQs l
 simp [Tryz.f146,hL,hp,Jj]
 intro γ hs' h1 hg
 obtain ⟨q1,q2⟩:=bz hg (k:=3) (T:=62) (sz:=2) (es:=l.map eQ) (by simp)
 clear hg
 refine ⟨fun k hk=>(q1 k hk).1,fun h=>?_⟩
 exact Xv fun hl=>q2 (by simpa using hl) h
theorem ix (u v : List Xw) (hlen : u.length = v.length) (h : DotS u.length (fnL u) (fnL v)) :
  VC Tryz.prog 134 [.d (pS eQ u),.d (pS eQ v)] (fun _ r=>r = .tup [.agg [.d (.int .i64 (dotF u.length (fnL u) (fnL v)).num),.d (.int .i64 ((dotF u.length (fnL u) (fnL v)).den : Int))],.d (.bool true)]):=by
 refine VC.ofL EP s134 Tryz.func134 fun B hl=>?_
 simp [maxLen] at hl
 simp [Tryz.f134,hlen]
 refine ae (X:=Nat) (fun i=>i <= v.length) (fun i=>[(0,.d (.pl (u.map eQ))),(1,.d (.pl (v.map eQ))),(4,.ptr 4 0 0),(6,.ptr 6 0 0),(20,.d (.int .i64 v.length)),(21,.d (.int .i64 i))]) (fun i=>[(4,some (.box [.d (.int .i64 0),.d (.int .i64 0)])),(6,some (.box [.d (.int .i64 (dotF i (fnL u) (fnL v)).num),.d (.int .i64 ((dotF i (fnL u) (fnL v)).den : Int))]))]) (fun i=>v.length - i) 0 (by simp) (by simp) (by simp [dotF]) ?_
 intro i hs t m hi hh
 by_cases hlt : i < v.length
 ·have hwi:=wr1 (i:=i) (by omega)
  have hlu : i < u.length:=by omega
  have a1:=h.sa i hlu
  have a2:=h.sx i hlu
  have a3:=h.sm i hlu
  have a4:=h.ss i (by omega)
  have a5:=h.ss (i + 1) (by omega)
  have e : dotF (i + 1) (fnL u) (fnL v) = dotF i (fnL u) (fnL v) + u[i] * v[i]:=by rw [dotF,cE hlu,cE hlt]
  rw [cE hlu] at a1 a3
  rw [cE hlt] at a2 a3
  rw [e] at a5
  simp [hlt,hlu]
  refine ⟨?_,?_⟩
  all_goals
   refine ag (g8 u[i] v[i] a1 a2 a3) (by simp) rfl fun hs1 hh1=>?_
   try simp at hh1
   simp
   refine ag (gW (dotF i (fnL u) (fnL v)) (u[i] * v[i]) a4 a3 a5) (by simp) rfl fun hs2 hh2=>?_
   try simp at hh2
   simp [hwi]
   exact back (i + 1) (by omega) (by omega) rfl (by simp <;> omega) (by simp) (by simp [e])
 ·have hn : i = v.length:=by omega
  simp [hlt,hn]
theorem g7 (A : List (List Xw)) (x : List Xw) (hb : A.length <= 4294967296) (hr : ∀ r ∈ A,r.length = x.length) (h : ∀ r ∈ A,DotS x.length (fnL r) (fnL x)) :
  VC Tryz.prog 164 [.d (pS (cP eQ) A),.d (pS eQ x)] (fun _ r=>r = .tup [.d (pS eQ (A.map fun r=>dotF x.length (fnL r) (fnL x))),.d (.bool true)]):=by
 refine VC.ofL EP sZ Tryz.func164 fun B hl=>?_
 clear hl
 simp [Tryz.f164]
 obtain ⟨F,hF⟩ : ∃ F : List Xw -> Xw,F = fun r=>dotF x.length (fnL r) (fnL x):=⟨_,rfl⟩
 refine aE (X:=Nat) (fun i _=>i <= A.length) (fun i=>[(1,.d (.pl (x.map eQ))),(6,.own 900 0 i),(11,.d (.pl (A.map (cP eQ)))),(12,.d (.int .i64 A.length)),(13,.d (.int .i64 i))]) (fun i=>[(900,some (.row 62 2 (((A.take i).map F).map eQ)))]) (fun i=>A.length - i) ?_ ?_
 ·refine (bA 6 900 62 2 (by omega) (by omega) (by simp)).bind ?_
  rintro _ rfl
  exact Lead.of ⟨0,by omega,rfl,rfl,Jv _,by simp,by simp⟩
 intro i hs t m hi hh
 by_cases hlt : i < A.length
 ·have hwi:=wr1 (i:=i) (by omega)
  have hL : LenOk 16 (i + 1):=⟨by omega,by simp only [maxLen]; omega⟩
  have hm:=Jy hlt
  have hd:=h _ hm
  have hrl:=hr _ hm
  have hst : (A.map (eQ ∘ F)).take (i + 1) = (A.map (eQ ∘ F)).take i ++ [eQ (F A[i])]:=by rw [Jz (by simpa using hlt)]; simp
  have hFi : F A[i] = dotF A[i].length (fnL A[i]) (fnL x):=by rw [hF,hrl]
  simp [hlt]
  refine ag (ix A[i] x hrl (by rw [hrl]; exact hd)) (by simp) rfl fun hs1 hh1=>?_
  try simp at hh1
  rw [<- hFi]
  have hmin : min i A.length = i:=by omega
  simp [hwi,hL,hmin]
  exact back (i + 1) (by omega) (by omega) rfl (by simp <;> omega) (by simp) (by simp [hst])
 ·have hn : i = A.length:=by omega
  subst hn
  simp [Jj,hF]
theorem dz (A : List (List Xw)) (n : Nat) (h : LPok A n) :
  VC Tryz.prog 107 [.agg [.d (pS (cP eQ) A),.d (pS eQ (List.replicate A.length 1)),.d (pS eQ (List.replicate n 1))]] (fun _ r=>r = .d (.bool true)):=by
 have h1:=h.n1
 have h2:=h.n4
 have h3:=h.m1
 have h4:=h.m5
 have e1 : inR (n : Int) 1 5 = true:=by simp [inR]; omega
 have e2 : inR (A.length : Int) 1 5 = true:=by simp [inR]; omega
 refine VC.ofL EP sZ Tryz.func107 fun B hl=>?_
 clear hl
 simp [Tryz.f107]
 refine ag (aN n 1 5) (by simp) rfl fun hs0 hh0=>?_
 simp [e1]
 refine ag (aN A.length 1 5) (by simp) rfl fun hs1 hh1=>?_
 simp [e2]
 refine ag (cu (List.replicate A.length 1) CS) (by simp) rfl fun hs2 hh2=>?_
 simp
 refine ag (cu (List.replicate n 1) CS) (by simp) rfl fun hs3 hh3=>?_
 simp
 refine ae (X:=Nat) (fun i=>i <= A.length) (fun i=>[(3,.d (.int .i64 n)),(41,.d (.pl (A.map (cP eQ)))),(42,.d (.int .i64 A.length)),(43,.d (.int .i64 i))]) (fun _=>[]) (fun i=>A.length - i) 0 (by simp) (by simp) (by simp) ?_
 intro i hs t m hi hh
 by_cases hlt : i < A.length
 ·have hwi:=wr1 (i:=i) (by omega)
  have hm:=Jy hlt
  have hrl:=h.m01.len _ hm
  simp [hlt,hrl]
  refine ag (cu A[i] (h.sm hm)) (by simp) rfl fun hs1 hh1=>?_
  try simp at hh1
  simp [hwi]
  exact back (i + 1) (by omega) (by omega) rfl (by simp <;> omega) (by simp) (by simp)
 ·simp [hlt]
theorem jE (a b : List Xw) : VC Tryz.prog 150 [.d (pS eQ a),.d (pS eQ b)] (fun _ r=>r = .d (.bool (decide (a = b)))):=by
 refine VC.ofL EP s150 Tryz.func150 fun B hl=>?_
 simp [maxLen] at hl
 by_cases hlen : a.length = b.length
 case neg=>
  have : a ≠ b:=fun e=>hlen (by rw [e])
  simp [Tryz.f150,hlen,this]
 simp [Tryz.f150,hlen]
 refine ae (X:=Nat) (fun i=>i <= b.length /\ a.take i = b.take i) (fun i=>[(0,.d (.pl (a.map eQ))),(1,.d (.pl (b.map eQ))),(12,.d (.int .i64 b.length)),(13,.d (.int .i64 i))]) (fun _=>[]) (fun i=>b.length - i) 0 (by simp) (by simp) (by simp) ?_
 intro i hs t m hi hh
 by_cases hlt : i < b.length
 ·have hwi:=wr1 (i:=i) (by omega)
  have hla : i < a.length:=by omega
  have hst:=Ek hla hlt hi.2
  have hq : a[i] = b[i] ↔ (a[i].num = b[i].num /\ (a[i].den : Int) = b[i].den):=by
   rw [<- HO,PRat.eq_iff]; rfl
  by_cases he : a[i] = b[i]
  ·simp [hlt,hla,he,hwi]
   exact back (i + 1) ⟨by omega,hst.1 he⟩ (by omega) rfl (by simp <;> omega) (by simp) (by simp)
  ·have hab : a ≠ b:=fun e=>he (by subst e; rfl)
   rw [hq] at he
   by_cases h1 : a[i].num = b[i].num
   ·have h2 : ¬ a[i].den = b[i].den:=fun e=>he ⟨h1,by rw [e]⟩
    simp [hlt,hla,h1,h2,hab]
   ·simp [hlt,hla,h1,hab]
 ·have hab : a = b:=Ht (by omega) hlen hi.2
  simp [hlt,hab]
theorem oh (A : List (List Xw)) (n : Nat) (x : List Xw) (h : LPok A n) (hx : SolB n x) :
  VC Tryz.prog 149 [.agg [.d (pS (cP eQ) A),.d (pS eQ (List.replicate A.length 1)),.d (pS eQ (List.replicate n 1))],.d (pS eQ x),.d (.int .i64 1)] (fun _ r=>r = .d (.bool (fQ A x))):=by
 have hxl:=hx.len
 have hn4:=h.n4
 have hm5:=h.m5
 refine VC.ofL EP s149 Tryz.func149 fun B hl=>?_
 clear hl
 simp [Tryz.f149]
 refine ag (dz A n h) (by simp) rfl fun hs0 hh0=>?_
 simp [hxl]
 refine ag (cu x (H4 hx h.n4)) (by simp) rfl fun hs1 hh1=>?_
 try simp at hh1
 simp
 refine ae (X:=Nat) (fun i=>i <= x.length /\ ∀ q ∈ x.take i,0 <= q) (fun i=>[(1,.d (.pl (x.map eQ))),(2,.d (.int .i64 1)),(3,.ptr 3 0 0),(29,.d (.pl (x.map eQ))),(30,.d (.int .i64 x.length)),(31,.d (.int .i64 i))])
  (fun _=>[(3,some (.box [.d (.pl (A.map (cP eQ))),.d (.pl ((List.replicate A.length (1 : Xw)).map eQ)),.d (.pl ((List.replicate n (1 : Xw)).map eQ))]))]) (fun i=>x.length - i) 0 (by simp) (by simp [hxl]) (by simp) ?_
 intro i hs t m hi hh
 by_cases hlt : i < x.length
 ·have hwi:=wr1 (i:=i) (by omega)
  by_cases hneg : x[i].num < 0
  ·have hf : fQ A x = false:=by
    have : ¬ 0 <= x[i]:=by rw [uB]; omega
    rw [fQ,Bool.and_eq_false_iff]
    left
    rw [List.all_eq_false]
    exact ⟨x[i],Jy hlt,by simp [this]⟩
   simp [hlt,hneg,hf]
  ·have h0 : 0 <= x[i]:=by rw [uB]; omega
   simp [hlt,hneg,hwi]
   refine back (i + 1) ⟨by omega,fun q hq=>?_⟩ (by omega) rfl (by simp <;> omega) (by simp) (by simp)
   rw [Jz hlt] at hq
   rcases Qq.1 hq with hq | hq
   ·exact hi.2 q hq
   ·rw [Qg.1 hq]; exact h0
 have hin : i = x.length:=by omega
 obtain ⟨F,hF⟩ : ∃ F : List Xw -> Xw,F = fun r=>dotF x.length (fnL r) (fnL x):=⟨_,rfl⟩
 have hall : x.all (fun q=>decide (0 <= q)) = true:=by
  rw [Jk]; intro q hq
  exact decide_eq_true (hi.2 q (by rw [hin,Jj (Jv _)]; exact hq))
 simp [hlt]
 refine ij (post:=fun _ r=>r = .tup [.d (pS eQ (A.map F)),.d (.bool true)]) (by rw [hF]; exact g7 A x (by omega) (fun r hr=>by rw [h.m01.len r hr,hxl]) (fun r hr=>by rw [hxl]; exact h.dots hx hr)) (by simp) fun r2 n2 hs2 hn2 hm2 hp2 hl2=>?_
 subst hp2
 try simp at hn2
 simp
 refine ae (X:=Nat) (fun j=>j <= A.length /\ ∀ r ∈ A.take j,1 <= F r) (fun j=>[(2,.d (.int .i64 1)),(3,.ptr 3 0 0),(48,.d (.pl ((A.map F).map eQ))),(49,.d (.int .i64 A.length)),(50,.d (.int .i64 j))])
  (fun _=>[(3,some (.box [.d (.pl (A.map (cP eQ))),.d (.pl ((List.replicate A.length (1 : Xw)).map eQ)),.d (.pl ((List.replicate n (1 : Xw)).map eQ))]))]) (fun j=>A.length - j) 0 (by simp) (by simp) (by simp) ?_
 intro j hs3 t3 m3 hj hh3
 by_cases hlj : j < A.length
 ·have hwj:=wr1 (i:=j) (by omega)
  have hm:=Jy hlj
  have hs:=(h.dots hx hm).ss n (Jv _)
  have hFj : smQ (F A[j]):=by rw [hF]; simp only [hxl]; exact hs
  have hw1 : ∀ z : Int,-1 <= z -> z <= 1 -> IntKind.i64.wrap z = z:=fun z h1 h2=>aj (by omega) (by omega)
  have hcb : -1 <= cmpQ (F A[j]) 1 /\ cmpQ (F A[j]) 1 <= 1:=by unfold cmpQ; split <;> (try split) <;> omega
  simp [hlj]
  refine ag (eo (F A[j]) 1 hFj wI) (by simp) rfl fun hs4 hh4=>?_
  try simp at hh4
  simp [hw1 _ hcb.1 hcb.2,hwj]
  by_cases hlt1 : F A[j] < 1
  ·have hf : fQ A x = false:=by
    rw [fQ,Bool.and_eq_false_iff]
    right
    rw [List.all_eq_false]
    refine ⟨A[j],hm,?_⟩
    have : ¬ 1 <= dotF x.length (fnL A[j]) (fnL x):=by rw [hF] at hlt1; simp only at hlt1; grind
    simp [this]
   simp [oq.2 hlt1,hf]
  ·have h0 : 1 <= F A[j]:=by grind
   have hc : ¬ cmpQ (F A[j]) 1 < 0:=fun e=>hlt1 (oq.1 e)
   simp [hc]
   refine back (j + 1) ⟨by omega,fun q hq=>?_⟩ (by omega) rfl (by simp <;> omega) (by simp) (by simp)
   rw [Jz hlj] at hq
   rcases Qq.1 hq with hq | hq
   ·exact hj.2 q hq
   ·rw [Qg.1 hq]; exact h0
 ·have hf : fQ A x = true:=by
   rw [fQ,hall,Bool.true_and,Jk]
   intro r hr
   have:=hj.2 r (by rw [Jj (by omega)]; exact hr)
   rw [hF] at this
   exact decide_eq_true this
  simp [hlj,hf]
theorem qi (b : Bool) : VC Tryz.prog 109 [.d (.bool b)] (fun _ r=>r = .d (.int .i64 (if b then 1 else 0))):=by
 refine VC.ofL EP sZ Tryz.func109 fun B hl=>?_
 cases b <;> simp [Tryz.f109]
end
section
attribute [local simp] pS cP fj
end
@[simp] theorem startX3 (a b c : V) (W : List Nat) (B : Nat) : St.startX [a, b, c] W none B = ⟨B, B, W, upd (upd (upd (fun _ => .tup []) 2 c) 1 b) 0 a, fun _ => none⟩ := by
  simp only [St.startX,St.mk.injEq,true_and]
  refine ⟨?_,C6 W⟩
  funext i; match i with | 0=>rfl | 1=>rfl | 2=>rfl | _ + 3=>rfl
section
attribute [local simp] pS cP fj
theorem nJ (g gp : Nat) (T : TypeId × Nat) (Tp : Option (TypeId × Nat)) (p n : Nat) (v r : List Xw) (h : Gg n p v r) (hn : n <= 4) (hg : gp ≠ g) :
  VX Tryz.prog 162 [g] [.d (.sl (some g) (some T) (r.map eQ)),.d (.sl (some gp) Tp (v.map eQ)),.d (.int .i64 p)] none (fun _ res _ ws=>res = .d (.bool true) /\ ws = [.sl (some g) (some T) ((dL p v r).map eQ)]):=by
 refine VX.of E s162 Tryz.func162 ?_ ?_ fun B hB=>?_
 ·exact fun q hq=>.inl (by simp [idsVL,V.ids,D.ids]; simp at hq; exact .inl hq)
 ·exact fun cs h=>nomatch h
 have hlr:=h.lr
 have hlv:=h.lv
 have hp:=h.hp
 have ep : fnL r p = r[p]'(by omega):=cE (by omega)
 have ev : fnL v p = v[p]'(by omega):=cE (by omega)
 have hf:=h.f
 have hr1:=h.r p hp
 have hv1:=h.v p hp
 have hne:=h.ne
 obtain ⟨f,hfd⟩ : ∃ f,f = fnL r p / fnL v p:=⟨_,rfl⟩
 rw [<- hfd] at hf
 have hdiv:=gY (fnL r p) (fnL v p) hr1 hv1 hne (by rw [<- hfd]; exact hf)
 rw [<- hfd,ep,ev] at hdiv
 have hpv : ∀ d,reV (one g d) (.d (.sl (some gp) Tp (v.map eQ))) = .d (.sl (some gp) Tp (v.map eQ)):=fun d=>by
  have : one g d gp = none:=bU hg
  simp [reV,reD,this]
 simp [Tryz.f162,show p < r.length by omega,show p < v.length by omega]
 refine ⟨?_,?_⟩
 all_goals
  refine fi hdiv rfl (by simp) rfl fun hs0 hh0=>?_
  try simp at hh0
  simp
  refine ae (X:=Nat) (fun k=>p <= k /\ k <= n + 1) (fun k=>[(0,.d (.sl (some g) (some T) ((gJ p k v r).map eQ))),(1,.d (.sl (some gp) Tp (v.map eQ))),(7,.ptr 7 0 0),(9,.d (.int .i64 k))]) (fun k=>[(7,some (.box [.d (.int .i64 f.num),.d (.int .i64 (f.den : Int))]))]) (fun k=>n + 1 - k) p (by omega) (by simp [vY]) (by simp) ?_
  intro k hs t m hk hh
  by_cases hlt : k < n + 1
  ·have hwk:=wr1 (i:=k) (by omega)
   have hkr : k < r.length:=by omega
   have hkv : k < v.length:=by omega
   have hqk:=h.q k (by omega)
   have hdk:=h.d k (by omega)
   have hrk:=h.r k (by omega)
   have hvk:=h.v k (by omega)
   have est:=vX (piv:=v) hk.1 hkr
   rw [<- hfd,cE hkv] at hqk
   rw [cE hkv] at hvk
   rw [cE hkr] at hrk
   rw [<- hfd,cE hkv,cE hkr] at hdk
   rw [<- hfd,cE hkv] at est
   have hat:=A8 (p:=p) (piv:=v) hkr
   obtain ⟨y,hy⟩ : ∃ y,y = r[k] - f * v[k]:=⟨_,rfl⟩
   have hmul:=g8 f v[k] hf hvk hqk
   have hsub:=lT r[k] (f * v[k]) hrk hqk hdk
   rw [<- hy] at hsub est
   obtain ⟨L,hL⟩ : ∃ L,L = gJ p k v r:=⟨_,rfl⟩
   have hLl : L.length = n + 1:=by rw [hL]; simp [hlr]
   have hLk : k < L.length:=by omega
   have hat' : L[k] = r[k]:=by subst hL; exact hat
   rw [<- hL] at est ⊢
   have est2 : (L.map eQ).set k [.int .i64 y.num,.int .i64 (y.den : Int)] = (gJ p (k + 1) v r).map eQ:=by
    rw [est,<- mH]; rfl
   have hLl2 : (gJ p (k + 1) v r).length = L.length:=by rw [est]; simp
   have hself:=E3 (g:=g) (T:=T) hLl2
   simp [hLk,hkv]
   refine ⟨?_,?_⟩
   all_goals
    refine fi hmul rfl (by simp) rfl fun hs1 hh1=>?_
    try simp at hh1
    simp [hLk,hat']
    refine ⟨?_,?_⟩
    all_goals
     refine fi hsub rfl (by simp) rfl fun hs2 hh2=>?_
     try simp at hh2
     simp [hLk,est2,hpv,hself,hwk]
     refine back (k + 1) (by omega) (by omega) rfl (by simp <;> omega) (by simp) (by simp)
  ·have hkn : k = n + 1:=by omega
   subst hkn
   simp [hlr,bt]
   refine ⟨[0],fun γ hs' h1 h2=>?_⟩
   simp [za (show r.length <= n + 1 by omega)]
end
theorem cj {P : Program} {E : Md} {sch : Nat -> Tr} {Q : Exit -> St -> Prop} {σ : St} (c : Operand) (x y : Code) : vwp P E sch (.cond c x y) Q σ = (gL (σ.ev c) = true /\ if getB (σ.ev c) = true then vwp P E sch x Q σ else vwp P E sch y Q σ):=by
 rw [DN]
 cases getB (σ.ev c) <;> simp
section
attribute [local simp] pS cP fj
end
end Go.Proofs.YtgjfmjiildjelaaGreatDoor
