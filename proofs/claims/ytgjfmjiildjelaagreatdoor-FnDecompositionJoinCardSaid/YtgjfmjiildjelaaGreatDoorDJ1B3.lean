/-
  A part of a proof of this seat: a value-level semantics of Go code without maps, walks, plain lemmas. It holds of all that its hypotheses name.
-/
import Derived.Test.YtgjfmjiildjelaaGreatDoorDJ1B2
set_option linter.unusedSimpArgs false
set_option linter.unusedVariables false
set_option linter.unnecessarySimpa false
namespace Go.Proofs.YtgjfmjiildjelaaGreatDoor
open Go.Vs Go.Proofs Go
set_option maxRecDepth 100000
set_option maxHeartbeats 1000000
section
attribute [local simp] pS cP fj
theorem e9 (l : List Xw) (hb : l.length <= 4294967296) (hne : l ≠ []) :
  VC Tryz.prog 146 [.d (pS eQ l)] (fun n r=>∃ g : Nat,r = .d (.sl (some g) (some (62,2)) (l.map eQ)) /\ n <= g):=
 (jP l hb).weak fun n r ⟨g,h1,h2,h3⟩=>by
  cases g with
  | none=>exact absurd (h3 rfl) hne
  | some g=>exact ⟨g,h1,h2 g rfl⟩
structure RowI (R : List (List Xw)) (B i : Nat) (rows : List (Nat × List Xw)) (hs : Nat) : Prop where
 le : i <= R.length
 snd : rows.map (·.2) = R.take i
 nd : (rows.map (·.1)).Nodup
 lo : ∀ g ∈ rows.map (·.1),B <= g
 hi : ∀ g ∈ rows.map (·.1),g < hs
theorem RowI.len {R : List (List Xw)} {B i hs : Nat} {rows : List (Nat × List Xw)} (h : RowI R B i rows hs) : rows.length = i:=by
 have h1:=congrArg List.length h.snd
 have h2:=h.le
 simp only [List.length_map,Zq] at h1
 omega
theorem RowI.snoc {R : List (List Xw)} {B i hs hs' : Nat} {rows : List (Nat × List Xw)} (h : RowI R B i rows hs) (hi : i < R.length) {g : Nat} (h1 : B <= g) (h2 : g < hs') (h3 : g ∉ rows.map (·.1)) (h4 : hs <= hs') : RowI R B (i + 1) (rows ++ [(g,R[i])]) hs':=by
 refine ⟨hi,?_,?_,fun q hq=>?_,fun q hq=>?_⟩
 ·rw [Zj,h.snd,Jz hi]; rfl
 ·rw [Zj,List.nodup_append]
  refine ⟨h.nd,by simp,fun a ha b hb=>?_⟩
  simp at hb
  rintro rfl
  exact h3 (hb ▸ ha)
 ·rw [Zj] at hq
  rcases Qq.1 hq with hq | hq
  ·exact h.lo q hq
  ·simp at hq; rw [hq]; exact h1
 ·rw [Zj] at hq
  rcases Qq.1 hq with hq | hq
  ·exact Xq (h.hi q hq) h4
  ·simp at hq; rw [hq]; exact h2
structure MatI (R : List (List Xw)) (n B p gm : Nat) (rows : List (Nat × List Xw)) : Prop where
 pn : p <= n
 gj : gj R p = some (rows.map (·.2))
 nd : (rows.map (·.1)).Nodup
 lo : ∀ g ∈ rows.map (·.1),B <= g
 gB : B <= gm
 gN : gm ∉ rows.map (·.1)
theorem MatI.fst {R : List (List Xw)} {n B p gm : Nat} {rows rows' : List (Nat × List Xw)} (h : MatI R n B p gm rows) (hp : (rows'.map (·.1)).Perm (rows.map (·.1))) : (rows'.map (·.1)).Nodup /\ (∀ g ∈ rows'.map (·.1),B <= g) /\ gm ∉ rows'.map (·.1):=
 ⟨hp.nodup_iff.2 h.nd,fun g hg=>h.lo g (hp.mem_iff.1 hg),fun hg=>h.gN (hp.mem_iff.1 hg)⟩
theorem iA (n : Nat) (R : List (List Xw)) (hn1 : 1 <= n) (hn : n <= 4) (hl0 : R.length = n) (hr : ∀ r ∈ R,r.length = n + 1) (h01 : ∀ r ∈ R,∀ q ∈ r,q = 0 \/ q = 1) :
  VC Tryz.prog 148 [.d (pS (cP eQ) (R.map (·.take n))),.d (pS eQ (R.map fun r=>fnL r n))]
   (fun _ r=>match solQ n R with
    | some x=>∃ id T,r = .tup [.d (.sl id T (x.map eQ)),.d (.bool true)]
    | none=>r = .tup [.d (.sl none none []),.d (.bool false)]):=by
 have hb : Bd n 0 R:=xj hl0 h01
 obtain ⟨RB,hRB⟩ : ∃ RB,RB = R.map fun r=>fnL r n:=⟨_,rfl⟩
 obtain ⟨MA,hMA⟩ : ∃ MA,MA = R.map (·.take n):=⟨_,rfl⟩
 have hRBl : RB.length = n:=by rw [hRB]; simpa using hl0
 have hMAl : MA.length = n:=by rw [hMA]; simpa using hl0
 have hRBs : ∀ q ∈ RB,smQ q:=fun q hq=>by
  rw [hRB] at hq
  obtain ⟨r,hr',rfl⟩:=Xz.1 hq
  have:=hr r hr'
  rw [cE (by omega)]
  exact yu (h01 r hr' _ (Jy _))
 have hMAi : ∀ i (hi : i < R.length),MA[i]'(by omega) = R[i].take n:=fun i hi=>by subst hMA; simp
 have hRBi : ∀ i (hi : i < R.length),RB[i]'(by omega) = fnL R[i] n:=fun i hi=>by subst hRB; simp
 rw [<- hRB,<- hMA]
 refine VC.of E s148 Tryz.func148 fun B=>?_
 simp [-bM,cj,Tryz.f148,hRBl,hMAl,show (n : Int) <= 6 by omega,show ¬ (6 : Int) < n by omega]
 refine fi (cu RB hRBs) rfl (by simp) rfl fun hs0 hh0=>?_
 try simp at hh0
 simp [-bM,cj,hMAl]
 refine aE (X:=Nat × List (Nat × List Xw)) (fun x hs=>RowI R B x.1 x.2 hs) (fun x=>[(1,.d (.pl (RB.map eQ))),(6,.d (.int .i64 n)),(7,.own 700 0 x.2.length),(32,.d (.pl (MA.map (cP eQ)))),(33,.d (.int .i64 n)),(34,.d (.int .i64 x.1))])
  (fun x=>[(700,some (.row 101 1 (x.2.map (cR (62,2)))))]) (fun x=>n - x.1) ?_ ?_
 ·refine (bA 7 700 101 1 (by omega) (by omega) (by simp)).bind ?_
  rintro _ rfl
  exact Lead.of ⟨(0,[]),⟨by simp,by simp,by simp,by simp,by simp⟩,rfl,rfl,Jv _,by simp,by simp⟩
 rintro ⟨i,rows⟩ hs1 t m hI hh1
 simp only
 have hIl : rows.length = i:=hI.len
 have hle : i <= R.length:=hI.le
 by_cases hlt : i < n
 ·have hiR : i < R.length:=by omega
  have hwi:=wr1 (i:=i) (by omega)
  have hrm:=Jy hiR
  have hrl:=hr _ hrm
  obtain ⟨a,ha⟩ : ∃ a,a = MA[i]'(by omega):=⟨_,rfl⟩
  have ha2 : a = R[i].take n:=by rw [ha]; exact hMAi i hiR
  have hal : a.length = n:=by rw [ha2]; simp; omega
  have hasm : ∀ q ∈ a,smQ q:=fun q hq=>by rw [ha2] at hq; exact yu (h01 _ hrm q (List.mem_of_mem_take hq))
  obtain ⟨b,hb'⟩ : ∃ b,b = RB[i]'(by omega):=⟨_,rfl⟩
  have hab : a ++ [b] = R[i]:=by rw [ha2,hb',hRBi i hiR]; exact Ay hrl
  refine dx fun Q=>?_
  simp [-bM,cj,hlt,hMAl,<- ha,hal]
  refine fi (cu a hasm) rfl (by simp) rfl fun hs2 hh2=>?_
  try simp at hh2
  simp [-bM,cj,hRBl,hlt,<- hb']
  have hane : a ≠ []:=fun e=>by rw [e] at hal; simp at hal; omega
  have hL1 : LenOk 16 (n + 1):=⟨by omega,by simp only [maxLen]; omega⟩
  have hL2 : LenOk 24 (i + 1):=⟨by omega,by simp only [maxLen]; omega⟩
  have htk : (a.map eQ ++ [eQ b]).take (n + 1) = a.map eQ ++ [eQ b]:=Jj (by simp; omega)
  rw [fj b] at htk
  refine ⟨?_,?_⟩
  all_goals
   refine vR (e9 a (by omega) hane) (by simp) fun r2 n2 hs3 hn2 hm2 hp2=>?_
   obtain ⟨g2,rfl,hg2⟩:=hp2
   refine ⟨62,2,a.map eQ,by omega,.inr ⟨g2,rfl,hg2,by simp⟩,?_⟩
   try simp at hn2
   simp [-bM,cj,hal,hIl,hRBl,hlt,<- hb',hL1]
   refine bs1 (k':=50) (ks:=[]) (by simp) (by simp) fun γ hs4 h4 hg=>?_
   obtain ⟨q1,q2⟩:=bz hg (k:=50) (T:=62) (sz:=2) (es:=(a ++ [b]).map eQ) (by simp)
   have q3:=iR hg (k:=50) (k2:=700) (T:=62) (sz:=2) (es:=(a ++ [b]).map eQ) (T2:=101) (sz2:=1) (es2:=rows.map (cR (62,2))) (by simp) (by simp)
   clear hg
   obtain ⟨g,hgk⟩:=Option.ne_none_iff_exists'.1 (q2 (by simp))
   obtain ⟨q4,q5⟩:=q1 g hgk
   replace q4 : B <= g:=q4
   have q6:=q3 g hgk
   simp only [ids_cRs] at q6
   simp at h4
   simp [-bM,cj,hal,hIl,hL2,hgk,hwi]
   refine bg (i + 1,rows ++ [(g,R[i])]) (hI.snoc (hs':=hs4) hiR q4 q5 q6 (by omega)) (by simp only; omega) rfl (by simp <;> omega) (by simp [hIl]) (by simp [cR,<- hab,htk])
 have hin : i = n:=by omega
 subst hin
 have hrows : rows.map (·.2) = R:=by rw [hI.snd,Jj (by omega)]
 simp [-bM,cj,hIl]
 refine aE (X:=Nat × Nat × List (Nat × List Xw)) (fun x _=>MatI R i B x.1 x.2.1 x.2.2) (fun x=>[(6,.d (.int .i64 i)),(7,.d (.sl (some x.2.1) (some (101,1)) (x.2.2.map (cR (62,2))))),(10,.d (.int .i64 x.1))]) (fun _=>[]) (fun x=>i - x.1) ?_ ?_
 ·refine (fD 700 (T:=101) (sz:=1) (es:=rows.map (cR (62,2))) (by simp)).bind ?_
  rintro _ ⟨γ,hs',g1,hg,rfl⟩
  obtain ⟨q1,q2⟩:=bz hg (k:=700) (T:=101) (sz:=1) (es:=rows.map (cR (62,2))) (by simp)
  have q3:=ea hg (k:=700) (T:=101) (sz:=1) (es:=rows.map (cR (62,2))) (by simp)
  clear hg
  have hne : rows.map (cR (62,2)) ≠ []:=fun e=>by have:=congrArg List.length e; simp at this; subst this; simp at hIl; omega
  obtain ⟨gm,hgm⟩:=Option.ne_none_iff_exists'.1 (q2 hne)
  have q4 : B <= gm:=(q1 gm hgm).1
  have q5:=q3 gm hgm
  simp only [ids_cRs] at q5
  have htk : (rows.map (cR (62,2))).take i = rows.map (cR (62,2)):=Jj (by simp; omega)
  exact Lead.of ⟨(0,gm,rows),⟨by simp,by rw [hrows]; rfl,hI.nd,hI.lo,q4,q5⟩,rfl,rfl,g1,by simp [hgm,hIl,htk],by simp⟩
 rintro ⟨p,gm,S⟩ hs2 t2 m2 hM hh2
 clear hI hIl hrows
 have hpn : p <= i:=hM.pn
 obtain ⟨TM,hTM⟩ : ∃ TM : TypeId × Nat,TM = (101,1):=⟨_,rfl⟩
 obtain ⟨T,hT⟩ : ∃ T : TypeId × Nat,T = (62,2):=⟨_,rfl⟩
 simp only [<- hTM,<- hT]
 have hgj:=lJ hl0 hr hb p hpn _ hM.gj
 have hSl : S.length = i:=by have:=hgj.1.len; simpa using this
 have hSr : ∀ k (hk : k < S.length),S[k].2.length = i + 1:=fun k hk=>hgj.1.row _ (Xz.2 ⟨_,Jy hk,rfl⟩)
 have hSq : ∀ k (hk : k < S.length) j,rowQ (S.map (·.2)) k j = fnL S[k].2 j:=fun k hk j=>by rw [rowQ,gd (by simpa using hk)]; simp
 by_cases hlt2 : p < i
 ·have hwp:=wr1 (i:=p) (by omega)
  simp [-bM,cj,hlt2]
  refine ae (X:=Nat) (fun k=>p <= k /\ k <= i /\ ∀ j,p <= j -> j < k -> rowQ (S.map (·.2)) j p = 0) (fun k=>[(6,.d (.int .i64 i)),(7,.d (.sl (some gm) (some TM) (S.map (cR T)))),(10,.d (.int .i64 p)),(11,.d (.int .i64 k))]) (fun _=>[]) (fun k=>i - k) p ⟨by omega,by omega,fun j h1 h2=>by omega⟩ (by simp) (by simp) ?_
  intro k hs3 t3 m3 hk hh3
  by_cases hki : k < i
  ·have hwk:=wr1 (i:=k) (by omega)
   obtain ⟨gk,r,hSk⟩ : ∃ gk r,S[k]'(by omega) = (gk,r):=⟨_,_,rfl⟩
   have hrl : r.length = i + 1:=by have:=hSr k (by omega); rw [hSk] at this; exact this
   have hpr : p < r.length:=by omega
   have hq : rowQ (S.map (·.2)) k p = r[p]:=by rw [hSq k (by omega),hSk]; exact cE hpr
   obtain ⟨es,hes⟩ : ∃ es,es = S.map (cR T):=⟨_,rfl⟩
   have hesl : es.length = i:=by rw [hes]; simpa using hSl
   have hek : es[k]'(by omega) = [.sl (some gk) (some T) (r.map eQ)]:=by subst hes; simp [hSk,cR]
   rw [<- hes]
   by_cases hz : r[p].num = 0
   ·refine anyQ fun Q=>?_
    simp [-bM,cj,hki,hesl,hek,hpr,hz,hwk]
    refine back (k + 1) ⟨by omega,by omega,fun j h1 h2=>?_⟩ (by omega) rfl (by simp <;> omega) (by simp [hes]) (by simp)
    by_cases e : j = k
    ·subst e; rw [hq]; exact _root_.Rat.num_eq_zero.1 hz
    ·exact hk.2.2 j h1 (by omega)
   have hpv : fF (S.map (·.2)) p = k:=Cq hk.1 hk.2.2 (.inr ⟨by simp; omega,by rw [hq]; exact fun e=>hz (by rw [e]; rfl)⟩)
   have hst:=H5 hn hl0 hr hb hM.gj hlt2 hpv hki
   obtain ⟨gp,v,hSp⟩ : ∃ gp v,S[p]'(by omega) = (gp,v):=⟨_,_,rfl⟩
   have hep : es[p]'(by omega) = [.sl (some gp) (some T) (v.map eQ)]:=by subst hes; simp [hSp,cR]
   have hgk : gk ∈ S.map (·.1):=Xz.2 ⟨_,Jy (show k < S.length by omega),by rw [hSk]⟩
   have hgp : gp ∈ S.map (·.1):=Xz.2 ⟨_,Jy (show p < S.length by omega),by rw [hSp]⟩
   have hmk : gm ≠ gk:=fun e=>hM.gN (e ▸ hgk)
   have hmp : gm ≠ gp:=fun e=>hM.gN (e ▸ hgp)
   have hpe : p < es.length:=by omega
   have hgB:=hM.gB
   have hn1 : gm ∉ idsLL es:=by rw [hes,ids_cRs]; exact hM.gN
   obtain ⟨es1,hes1⟩ : ∃ es1,es.set p [.sl (some gk) (some T) (r.map eQ)] = es1:=⟨_,rfl⟩
   have hes1l : es1.length = i:=by rw [<- hes1]; simpa using hesl
   have hn2 : gm ∉ idsLL es1:=by rw [<- hes1]; exact EN hn1 (by simp [idsL,D.ids,hmk])
   have hek1 : ∃ c,es1[k]'(by omega) = [c]:=by
    subst hes1; rw [List.getElem_set]; split
    ·exact ⟨_,rfl⟩
    ·exact ⟨_,hek⟩
   obtain ⟨c1,hek1⟩:=hek1
   have hre1:=yh (gm:=gm) (TM:=TM) (es:=es) (i:=p) (e':=[.sl (some gk) (some T) (r.map eQ)]) hpe (by rw [hep]; rfl)
   rw [hes1] at hre1
   obtain ⟨es2,hes2⟩ : ∃ es2,es1.set k [.sl (some gp) (some T) (v.map eQ)] = es2:=⟨_,rfl⟩
   have hre2:=yh (gm:=gm) (TM:=TM) (es:=es1) (i:=k) (e':=[.sl (some gp) (some T) (v.map eQ)]) (by omega) (by rw [hek1]; rfl)
   rw [hes2] at hre2
   have hrk : ∀ d,reV (one gm d) (.d (.sl (some gk) (some T) (r.map eQ))) = .d (.sl (some gk) (some T) (r.map eQ)):=fun d=>rz (bU (Ne.symm hmk))
   have hrp : ∀ d,reV (one gm d) (.d (.sl (some gp) (some T) (v.map eQ))) = .d (.sl (some gp) (some T) (v.map eQ)):=fun d=>rz (bU (Ne.symm hmp))
   have hek1' : es1[k]? = some [c1]:=by rw [Jw (by omega),hek1]
   simp [-bM,cj,hki,hesl,hek,hep,hpr,hz,hlt2,hgB,hn1,hn2,hmk,hmp,hes1,hre1,hes1l,hek1,hek1',hes2,hre2,hrk,hrp,show ¬ (k : Int) = i by omega,show k ≠ i by omega]
   have hpS : p < S.length:=by omega
   have hkS : k < S.length:=by omega
   obtain ⟨S2,hS2⟩ : ∃ S2,S2 = ll S p k:=⟨_,rfl⟩
   obtain ⟨M2,hM2⟩ : ∃ M2,M2 = S2.map (·.2):=⟨_,rfl⟩
   have hM2s : M2 = dW (S.map (·.2)) p k:=by rw [hM2,hS2,zZ]
   have hS2e : es2 = S2.map (cR T):=by
    rw [hS2,zY hpS hkS,<- hes2,<- hes1,hes,<- mH,<- mH,hSk,hSp]; rfl
   have hpm : (S2.map (·.1)).Perm (S.map (·.1)):=by rw [hS2]; exact (wN hpS hkS).map _
   obtain ⟨f1,f2,f3⟩:=hM.fst hpm
   obtain ⟨ids,hids⟩ : ∃ ids,ids = S2.map (·.1):=⟨_,rfl⟩
   rw [<- hids] at f1 f2 f3
   have hsl:=hst.len
   have hsr:=hst.row
   have hse:=hst.safe
   have hsn:=hst.ne
   have hnx:=hst.nxt
   rw [<- hM2s] at hsl hsr hse hsn hnx
   have hidl : ids.length = i:=by rw [hids,hS2]; simp [zX,hSl]
   refine ae (X:=Nat × List (Nat × List Xw)) (fun x=>x.1 <= i /\ x.2.map (·.1) = ids /\ x.2.map (·.2) = dV p x.1 M2) (fun x=>[(6,.d (.int .i64 i)),(7,.d (.sl (some gm) (some TM) (x.2.map (cR T)))),(10,.d (.int .i64 p)),(12,.d (.int .i64 x.1))]) (fun _=>[]) (fun x=>i - x.1) (0,S2) ⟨by omega,hids.symm,by rw [wM]; exact hM2.symm⟩ (by simp [hS2e]) (by simp) ?_
   rintro ⟨j,Y⟩ hs4 t4 m4 ⟨h1,h2,h3⟩ hh4
   simp only at h1 h2 h3
   have hYl : Y.length = i:=by have:=congrArg List.length h2; simpa [hidl] using this
   by_cases hji : j < i
   ·have hwj:=wr1 (i:=j) (by omega)
    refine anyQ fun Q=>?_
    by_cases hjp : j = p
    ·subst hjp
     simp [-bM,cj,hji,hYl,hwj]
     exact back (j + 1,Y) ⟨by simp only; omega,h2,by rw [h3]; exact Ff.symm⟩ (by simp only; omega) rfl (by simp <;> omega) (by simp) (by simp)
    have hjY : j < Y.length:=by omega
    have hpY : p < Y.length:=by omega
    obtain ⟨gj,u,hYj⟩ : ∃ gj u,Y[j] = (gj,u):=⟨_,_,rfl⟩
    obtain ⟨gq,w,hYp⟩ : ∃ gq w,Y[p] = (gq,w):=⟨_,_,rfl⟩
    have eu : u = M2[j]'(by omega):=by
     have a1 : (Y.map (·.2))[j]'(by simpa using hjY) = u:=by simp [hYj]
     have a2 : (dV p j M2)[j]'(by simp; omega) = M2[j]'(by omega):=uY (by omega)
     rw [<- a1,<- a2]; congr 1
    have ew : w = M2[p]'(by omega):=by
     have a1 : (Y.map (·.2))[p]'(by simpa using hpY) = w:=by simp [hYp]
     have a2 : (dV p j M2)[p]'(by simp; omega) = M2[p]'(by omega):=zW (by omega)
     rw [<- a1,<- a2]; congr 1
    have hE:=hse.elim hsl hsr hlt2 hji hsn
    rw [<- eu,<- ew] at hE
    have gj1 : (Y.map (·.1))[j]? = some gj:=by simp [hjY,hYj]
    have gq1 : (Y.map (·.1))[p]? = some gq:=by simp [hpY,hYp]
    have hYnd : (Y.map (·.1)).Nodup:=by rw [h2]; exact f1
    have hgne : gq ≠ gj:=fun e=>hjp (Ch hYnd gj1 (by rw [gq1,e]))
    have hgj : gj ∈ ids:=by rw [<- h2]; exact Qk gj1
    have hgjm : gj ≠ gm:=fun e=>f3 (e ▸ hgj)
    have hgjB:=f2 _ hgj
    have hul:=hE.lr
    have hpu : p < u.length:=by omega
    obtain ⟨ys,hys⟩ : ∃ ys,ys = Y.map (cR T):=⟨_,rfl⟩
    have hysl : ys.length = i:=by rw [hys]; simpa using hYl
    have hyj : ys[j]'(by omega) = [.sl (some gj) (some T) (u.map eQ)]:=by subst hys; simp [hYj,cR]
    have hyp : ys[p]'(by omega) = [.sl (some gq) (some T) (w.map eQ)]:=by subst hys; simp [hYp,cR]
    have hst2 : dV p (j + 1) M2 = (dV p j M2).set j (dL p w u):=by
     rw [wL (by omega) (by omega) hjp,<- eu,<- ew]
    rw [<- hys]
    by_cases hz2 : u[p].num = 0
    ·have hz' : fnL u p = 0:=by rw [cE hpu]; exact _root_.Rat.num_eq_zero.1 hz2
     simp [-bM,cj,hysl,hji,hjp,hyj,hpu,hz2,hwj]
     refine back (j + 1,Y) ⟨by simp only; omega,h2,?_⟩ (by simp only; omega) rfl (by simp <;> omega) (by simp [hys]) (by simp)
     rw [h3,hst2,zb hz',p9]
     rw [Jw (by simp; omega),uY (by omega),<- eu]
    have hre : reV (one gj (.sl (some gj) (some T) ((dL p w u).map eQ))) (.d (.sl (some gm) (some TM) ys)) = .d (.sl (some gm) (some TM) ((Y.set j (gj,dL p w u)).map (cR T))):=by
     rw [hys]
     exact E2 (φ:=one gj (.sl (some gj) (some T) ((dL p w u).map eQ))) (gm:=gm) (T:=T) (rows:=Y) (i:=j) (g:=gj) (r:=u) (r':=dL p w u) (by simp [hjY,hYj]) (by simp [dL]) hYnd (bU (Ne.symm hgjm)) (by simp [one]) (fun q _ hqg=>bU hqg)
    simp [-bM,cj,hysl,hji,hlt2,hjp,hyj,hyp,hpu,hz2]
    refine Hl (E162) (by simp) (by simp) (by simp) (fun q hq=>.inl (by simp at hq; rw [hq]; exact hgjB)) (nJ gj gq T (some T) p i w u hE hn hgne) fun n5 hs5 r5 cs5 ws5 hn5 hm5 hp5 hr5 hw5=>?_
    obtain ⟨rfl,rfl⟩:=hp5
    try simp at hn5
    simp [-bM,cj,wv,hre,hwj]
    refine back (j + 1,Y.set j (gj,dL p w u)) ⟨by simp only; omega,?_,?_⟩ (by simp only; omega) rfl (by simp <;> omega) (by simp) (by simp)
    ·simp only [List.map_set]; rw [<- h2]; exact p9 gj1
    ·simp only [List.map_set]; rw [h3,hst2]
   ·have hjn : j = i:=by omega
    subst hjn
    rw [zV (by omega)] at h3
    simp [-bM,cj,hwp]
    refine bg (p + 1,gm,Y) ⟨by omega,by rw [h3]; exact hnx,by rw [h2]; exact f1,by rw [h2]; exact f2,hgB,by rw [h2]; exact f3⟩ (by simp only; omega) rfl (by simp <;> omega) (by simp) (by simp)
  ·have hki2 : k = i:=by omega
   have hpv : fF (S.map (·.2)) p = k:=Cq hk.1 hk.2.2 (.inl (by simp; omega))
   have hno:=C4 hM.gj (by rw [hpv]; simp; omega) hlt2
   rw [hno]
   simp [-bM,cj,hki,hki2]
 have hpi : p = i:=by omega
 subst hpi
 obtain ⟨-,e2,e3,e4,e5⟩:=Fc hn hl0 hr hb hM.gj
 rw [e3]
 obtain ⟨F,hF⟩ : ∃ F : Nat -> Xw,F = fun j=>rowQ (S.map (·.2)) j p / rowQ (S.map (·.2)) j j:=⟨_,rfl⟩
 have hout : outM p (S.map (·.2)) = (List.range p).map F:=by rw [hF]; rfl
 rw [hout]
 simp [-bM,cj]
 refine aE (X:=Nat) (fun j _=>j <= p) (fun j=>[(6,.d (.int .i64 p)),(7,.d (.sl (some gm) (some TM) (S.map (cR T)))),(13,.own 701 0 j),(14,.d (.int .i64 j))]) (fun j=>[(701,some (.row 62 2 (((List.range j).map F).map eQ)))]) (fun j=>p - j) ?_ ?_
 ·refine (bA 13 701 62 2 (by omega) (by omega) (by simp)).bind ?_
  rintro _ rfl
  exact Lead.of ⟨0,by omega,rfl,rfl,Jv _,by simp,by simp⟩
 intro j hs6 t6 m6 hj hh6
 by_cases hjp : j < p
 ·have hwj:=wr1 (i:=j) (by omega)
  have hjS : j < S.length:=by omega
  obtain ⟨g,r,hSj⟩ : ∃ g r,S[j] = (g,r):=⟨_,_,rfl⟩
  have hrl : r.length = p + 1:=by have:=hSr j hjS; rw [hSj] at this; exact this
  have hjr : j < r.length:=by omega
  have hpr : p < r.length:=by omega
  have hj5:=e5 j (by simpa using hjS)
  simp only [List.getElem_map,hSj] at hj5
  obtain ⟨d1,d2,d3,d4⟩:=hj5
  have hFj : F j = fnL r p / fnL r j:=by rw [hF]; simp only [hSq j hjS,hSj]
  have hdiv:=gY (fnL r p) (fnL r j) d3 d2 d1 d4
  rw [<- hFj,cE hpr,cE hjr] at hdiv
  have hL : LenOk 16 (j + 1):=⟨by omega,by simp only [maxLen]; omega⟩
  obtain ⟨es,hes⟩ : ∃ es,es = S.map (cR T):=⟨_,rfl⟩
  have hesl : es.length = p:=by rw [hes]; simpa using hSl
  have hej : es[j]'(by omega) = [.sl (some g) (some T) (r.map eQ)]:=by subst hes; simp [hSj,cR]
  rw [<- hes]
  refine dx fun Q=>?_
  simp [-bM,cj,hjp,hesl,hej,hjr,hpr]
  refine ⟨?_,?_⟩
  all_goals
   refine fi hdiv rfl (by simp) rfl fun hs7 hh7=>?_
   try simp at hh7
   simp [-bM,cj,hL,hwj]
   refine bg (j + 1) (by omega) (by omega) rfl (by simp <;> omega) (by simp [hes]) (by simp [List.range_succ])
 ·have hjn : j = p:=by omega
  subst hjn
  simp [-bM,cj]
  intro γ hs' h1 hg
  clear hg
  have htk : (List.map (eQ ∘ F) (List.range j)).take j = List.map (eQ ∘ F) (List.range j):=Jj (by simp)
  have hpp : hpLL (List.map (eQ ∘ F) (List.range j)) = false:=by rw [<- List.map_map]; exact hp_eQs _
  rw [htk]
  simp [hpp]
end
section
attribute [local simp] pS cP fj
def solV (n : Nat) (R : List (List Xw)) : V:=match solQ n R with
 | some x=>.tup [.d (.pl (x.map eQ)),.d (.bool true)]
 | none=>.tup [.d (.pl []),.d (.bool false)]
theorem Gl : ∀ l : List Xw,erLL (l.map eQ) = l.map eQ
 | []=>rfl
 | a :: r=>by simp only [Qz,erLL,Gl r]; rfl
theorem iF (n : Nat) (R : List (List Xw)) (hn1 : 1 <= n) (hn : n <= 4) (hl0 : R.length = n) (hr : ∀ r ∈ R,r.length = n + 1) (h01 : ∀ r ∈ R,∀ q ∈ r,q = 0 \/ q = 1) :
  VC Tryz.prog 148 [.d (pS (cP eQ) (R.map (·.take n))),.d (pS eQ (R.map fun r=>fnL r n))] (fun _ r=>r = solV n R):=by
 refine VC.erase (iA n R hn1 hn hl0 hr h01) fun _ r h=>?_
 unfold solV
 cases e : solQ n R with
 | none=>rw [e] at h; subst h; rfl
 | some x =>
   rw [e] at h
   obtain ⟨id,T,rfl⟩:=h
   simp [rp,rpL,D.er,Gl]
end
section
attribute [local simp] pS cP fj cI
end
section
attribute [local simp] pS cP fj cI
theorem uK {A : List (List Xw)} {n : Nat} {out M : List (List Xw)} {x : List Xw} (h : solQ n M = some x) (hf : fQ A x = true) : du A n out M = lY out x:=by simp [du,h,hf]
theorem zQ {A : List (List Xw)} {n : Nat} {out M : List (List Xw)} {x : List Xw} (h : solQ n M = some x) (hf : fQ A x = false) : du A n out M = out:=by simp [du,h,hf]
theorem uJ {A : List (List Xw)} {n : Nat} {out M : List (List Xw)} (h : solQ n M = none) : du A n out M = out:=by simp [du,h]
end
section
attribute [local simp] pS cP fj cI
theorem mZ (l : List Int) (hb : l.length <= 4294967296) :
  VC Tryz.prog 76 [.d (.pl (l.map cI))] (fun n r=>∃ g : Option Nat,r = .d (.sl g (some (3,1)) (l.map cI)) /\ (∀ k,g = some k -> n <= k) /\ (g = none -> l = [])):=by
 refine VC.of E sZ Tryz.func76 fun B=>?_
 have hL : LenOk 8 l.length:=⟨by omega,by simp only [maxLen]; omega⟩
 have hp : hpLL (l.map cI) = false:=cL l
 simp [-cI,Tryz.f76,hL,hp,Jj]
 refine ⟨fun a _=>rfl,?_⟩
 intro γ hs' h1 hg
 obtain ⟨q1,q2⟩:=bz hg (k:=3) (T:=3) (sz:=1) (es:=l.map cI) (by simp)
 clear hg
 refine ⟨fun k hk=>(q1 k hk).1,fun h=>?_⟩
 exact Xv fun hl=>q2 (by simpa using hl) h
theorem yA (a b c1 c2 c3 c4 c5 c6 c7 : V) (T sz f : Nat) (es : List (List D)) (B : Nat) : St.startK [a,b] [c1,c2,c3,c4,c5,c6,c7] T sz f es B =
  ⟨B,B,[],upd (upd (upd (upd (upd (upd (upd (upd (upd (fun _=>.tup []) 8 c7) 7 c6) 6 c5) 5 c4) 4 c3) 3 c2) 2 c1) 1 b) 0 a,
   upd (upd (upd (fun _=>none) 1003 (some (.box [.fn f [c1,c2,c3,c4,c5,c6,c7]]))) 1002 (some (.row T sz es))) 1001 (some (.box [.own 1002 0 es.length]))⟩:=by
 simp only [St.startK,St.mk.injEq,true_and]
 constructor
 ·funext i; match i with | 0=>rfl | 1=>rfl | 2=>rfl | 3=>rfl | 4=>rfl | 5=>rfl | 6=>rfl | 7=>rfl | 8=>rfl | _ + 9=>rfl
 ·funext i; simp only [mK,upd]; repeat' split
def fy (n : Nat) (rows right : List (List D)) (bx : List D) : List V:=
 [.fptr (.pl [[.int .i64 n]]) 0 0,.fptr (.pl [[.pl rows]]) 0 0,.ptr 1003 0 0,.fptr (.pl [[.pl right]]) 0 0,.fptr (.pl [bx]) 0 0,.fptr (.pl [[.int .i64 1]]) 0 0,.ptr 1001 0 0]
theorem qM (n : Nat) (rows right : List (List D)) (bx : List D) (k : Nat) (h1 : ¬ k = 1001) (h3 : ¬ k = 1003) : wipeL k (fy n rows right bx) = fy n rows right bx:=by
 simp [fy,wipeL,wipe,Ne.symm h1,Ne.symm h3]
theorem tJ (n : Nat) (rows right : List (List D)) (bx : List D) (k : Nat) (es : List (List D)) (h1 : ¬ k = 1001) (h3 : ¬ k = 1003) : frpL k es (fy n rows right bx) = fy n rows right bx:=by
 simp [fy,frpL,frp,Ne.symm h1,Ne.symm h3]
theorem B2 (A : List (List Xw)) (n : Nat) (h : LPok A n) (rows right : List (List D)) (bx : List D) (hrows : rows = ((augR A n).map (·.take n)).map (cP eQ)) (hright : right = ((augR A n).map fun r=>fnL r n).map eQ)
   (hbx : bx = [.pl (A.map (cP eQ)),.pl ((List.replicate A.length (1 : Xw)).map eQ),.pl ((List.replicate n (1 : Xw)).map eQ)]) :
  ∀ (d : Nat) (c : List Nat) (a : Nat) (out : List (List Xw)),n - c.length = d -> c.length <= n -> a <= A.length + n -> (∀ x ∈ c,x < A.length + n) -> out.length + cntC A n c a <= 1000 ->
   VK Tryz.prog 147 [.d (.int .i64 a),.d (pS cI (lf c))] (fy n rows right bx) 101 1 (out.map (cP eQ)) (fun es'=>es' = (eF A n c a out).map (cP eQ)):=by
 have hn1:=h.n1
 have hn4:=h.n4
 have hm1:=h.m1
 have hm5:=h.m5
 obtain ⟨AR,hAR⟩ : ∃ AR,AR = augR A n:=⟨_,rfl⟩
 have hARl : AR.length = A.length + n:=by rw [hAR,tl]
 have hARr : ∀ r ∈ AR,r.length = n + 1:=by rw [hAR]; exact rU h.m01
 have hAR01 : ∀ r ∈ AR,∀ q ∈ r,q = 0 \/ q = 1:=by rw [hAR]; exact vN h.m01
 obtain ⟨B1,hB1⟩ : ∃ B1,B1 = List.replicate A.length (1 : Xw):=⟨_,rfl⟩
 obtain ⟨C1,hC1⟩ : ∃ C1,C1 = List.replicate n (1 : Xw):=⟨_,rfl⟩
 rw [<- hAR] at hrows hright
 rw [<- hB1,<- hC1] at hbx
 have hrl : rows.length = A.length + n:=by rw [hrows]; simp [hARl]
 have hgl : right.length = A.length + n:=by rw [hright]; simp [hARl]
 intro d
 induction d with
 | zero =>
   intro c a out hd hcn ha hcr hbd
   have hcl : c.length = n:=by omega
   rw [vZ hcl,<- hAR]
   rw [yX hcl] at hbd
   obtain ⟨M,hM⟩ : ∃ M,M = mF AR c:=⟨_,rfl⟩
   have hMl : M.length = n:=by rw [hM,zS,hcl]
   have hMm : ∀ r ∈ M,r ∈ AR:=fun r hr=>by rw [hM] at hr; exact zU (fun x hx=>by have:=hcr x hx; omega) hr
   have hMr : ∀ r ∈ M,r.length = n + 1:=fun r hr=>hARr r (hMm r hr)
   have hM01 : ∀ r ∈ M,∀ q ∈ r,q = 0 \/ q = 1:=fun r hr=>hAR01 r (hMm r hr)
   rw [<- hM]
   obtain ⟨ci,hci⟩ : ∃ ci,ci = lf c:=⟨_,rfl⟩
   have hcil : ci.length = n:=by rw [hci]; simpa using hcl
   rw [<- hci]
   obtain ⟨caps,hcaps⟩ : ∃ caps,caps = fy n rows right bx:=⟨_,rfl⟩
   have hcw:=qM n rows right bx
   have hcf:=tJ n rows right bx
   rw [<- hcaps] at hcw hcf
   refine VK.of EP s147 Tryz.func147 fun B=>?_
   rw [fy,yA,<- fy,<- hcaps]
   simp [Tryz.f147,hcil]
   have hout : du A n out M = du A n out M:=rfl
   refine aE (X:=Nat) (fun k _=>k <= n) (fun k=>[(3,.fptr (.pl [[.pl rows]]) 0 0),(5,.fptr (.pl [[.pl right]]) 0 0),(6,.fptr (.pl [bx]) 0 0),(7,.fptr (.pl [[.int .i64 1]]) 0 0),(8,.ptr 1001 0 0),(12,.own 900 0 k),(13,.own 901 0 k),(40,.d (.pl (ci.map cI))),(41,.d (.int .i64 n)),(42,.d (.int .i64 k))])
    (fun k=>[(1001,some (.box [.own 1002 0 out.length])),(1002,some (.row 101 1 (out.map (cP eQ)))),(1003,some (.box [.fn 147 caps])),(900,some (.row 101 1 (((M.map (·.take n)).take k).map (cP eQ)))),(901,some (.row 62 2 (((M.map fun r=>fnL r n).take k).map eQ)))]) (fun k=>n - k) ?_ ?_
   ·refine (bA 12 900 101 1 (by omega) (by omega) (by simp)).bind ?_
    rintro _ rfl
    refine (bA 13 901 62 2 (by omega) (by omega) (by simp)).bind ?_
    rintro _ rfl
    exact Lead.of ⟨0,by omega,rfl,rfl,Jv _,by simp,by simp [hcaps,fy]⟩
   intro k hs1 t1 m1 hk hh1
   by_cases hkn : k < n
   ·have hwk:=wr1 (i:=k) (by omega)
    obtain ⟨j,hj⟩ : ∃ j,j = c[k]'(by omega):=⟨_,rfl⟩
    have hjr : j < A.length + n:=by rw [hj]; exact hcr _ (Jy _)
    have hcik : ci[k]'(by omega) = (j : Int):=by subst hci; rw [BU (by omega),hj]
    have hMk : M[k]'(by omega) = AR[j]'(by omega):=by subst hM; simp [mF,<- hj,List.getD,show j < AR.length by omega]
    obtain ⟨MA,hMA⟩ : ∃ MA,MA = M.map (·.take n):=⟨_,rfl⟩
    obtain ⟨MB,hMB⟩ : ∃ MB,MB = M.map fun r=>fnL r n:=⟨_,rfl⟩
    have hMAl : MA.length = n:=by rw [hMA]; simpa using hMl
    have hMBl : MB.length = n:=by rw [hMB]; simpa using hMl
    have hrj : rows[j]'(by omega) = cP eQ (MA[k]'(by omega)):=by subst hMA; simp [hrows,hMk]
    have hgj : right[j]'(by omega) = eQ (MB[k]'(by omega)):=by subst hMB; simp [hright,hMk]
    rw [<- hMA,<- hMB]
    have hL1 : LenOk 24 (k + 1):=⟨by omega,by simp only [maxLen]; omega⟩
    have hL2 : LenOk 16 (k + 1):=⟨by omega,by simp only [maxLen]; omega⟩
    have hmin : min k n = k:=by omega
    have s1 : (MA.map (cP eQ)).take (k + 1) = (MA.map (cP eQ)).take k ++ [cP eQ (MA[k]'(by omega))]:=by rw [Jz (by simp; omega)]; simp
    have s2 : (MB.map eQ).take (k + 1) = (MB.map eQ).take k ++ [eQ (MB[k]'(by omega))]:=by rw [Jz (by simp; omega)]; simp
    refine dx fun Z=>?_
    simp [hkn,hcil,hcik,hrl,hgl,hjr,hrj,hgj,hMAl,hMBl,hmin,hL1,hL2,hwk]
    exact bg (k + 1) (by omega) (by omega) rfl (by simp <;> omega) (by simp) (by simp [s1,s2,hcw,hcf])
   have hkn2 : k = n:=by omega
   have hsol:=iF n M hn1 hn4 hMl hMr hM01
   rw [hkn2,Jj (by simp; omega),Jj (by simp; omega)]
   obtain ⟨MA,hMA⟩ : ∃ MA,MA = M.map (·.take n):=⟨_,rfl⟩
   obtain ⟨MB,hMB⟩ : ∃ MB,MB = M.map fun r=>fnL r n:=⟨_,rfl⟩
   have hMAl : MA.length = n:=by rw [hMA]; simpa using hMl
   have hMBl : MB.length = n:=by rw [hMB]; simpa using hMl
   rw [<- hMA,<- hMB] at hsol ⊢
   simp
   refine aF hsol (by simp [hMAl,hMBl,Jj]) fun hs4 hh4 _=>?_
   try simp at hh4
   cases hx : solQ n M with
   | none =>
     rw [uJ hx]
     simp [solV,hx,rN,qh,hcw,hcf,<- hcaps]
   | some x =>
     have hSB:=wK hn4 hMl hMr (xj hMl hM01) hx
     have hside:=oh A n x h hSB
     rw [<- hB1,<- hC1] at hside
     simp [solV,hx,hbx]
     refine ag hside (by simp) rfl fun hs5 hh5=>?_
     try simp at hh5
     cases hf : fQ A x
     ·rw [zQ hx hf]
      simp [rN,qh,hcw,hcf,<- hcaps]
     rw [uK hx hf]
     simp
     refine ae (X:=Nat) (fun k=>k <= out.length /\ x ∉ out.take k) (fun k=>[(8,.ptr 1001 0 0),(16,.d (.pl (x.map eQ))),(76,.own 1002 0 out.length),(77,.d (.int .i64 out.length)),(78,.d (.int .i64 k))])
      (fun _=>[(1001,some (.box [.own 1002 0 out.length])),(1002,some (.row 101 1 (out.map (cP eQ)))),(1003,some (.box [.fn 147 caps]))]) (fun k=>out.length - k) 0 (by simp) (by simp) (by simp [hcw,hcf]) ?_
     intro k hs6 t6 m6 hk6 hh6
     by_cases hkO : k < out.length
     ·have hwk:=wr1 (i:=k) (by omega)
      simp [hkO]
      refine ag (jE x out[k]) (by simp) rfl fun hs7 hh7=>?_
      try simp at hh7
      by_cases he : x = out[k]
      ·have ha : lY out x = out:=by simp [lY,he]
       rw [ha]
       simp [he,rN,qh,hcw,hcf,<- hcaps]
      ·simp [he,hwk]
       refine back (k + 1) ⟨by omega,?_⟩ (by omega) rfl (by simp <;> omega) (by simp) (by simp)
       rw [Jz hkO,Qq,Qg]
       exact fun hor=>hor.elim hk6.2 he
     ·have hkO2 : k = out.length:=by omega
      subst hkO2
      have hxO : x ∉ out:=by have:=hk6.2; rwa [Jj (Jv _)] at this
      have ha : lY out x = out ++ [x]:=by simp [lY,hxO]
      have hL4 : LenOk 24 (out.length + 1):=⟨by omega,by simp only [maxLen]; omega⟩
      rw [ha]
      simp [hL4,rN,qh,hcw,hcf,<- hcaps]
 | succ d ih =>
   intro c a out hd hcn ha hcr hbd
   have hcl : c.length < n:=by omega
   obtain ⟨ci,hci⟩ : ∃ ci,ci = lf c:=⟨_,rfl⟩
   have hcil : ci.length = c.length:=by rw [hci]; simp
   rw [<- hci]
   obtain ⟨caps,hcaps⟩ : ∃ caps,caps = fy n rows right bx:=⟨_,rfl⟩
   have hcw:=qM n rows right bx
   have hcf:=tJ n rows right bx
   rw [<- hcaps] at hcw hcf ih
   obtain ⟨FO,hFO⟩ : ∃ FO,FO = eF A n c a out:=⟨_,rfl⟩
   rw [<- hFO]
   have hall : caps.all k6 = true:=by rw [hcaps]; rfl
   have hren : caps.map (renK 1001 1003) = caps:=by rw [hcaps]; rfl
   refine VK.of EP s147 Tryz.func147 fun B=>?_
   rw [fy,yA,<- fy,<- hcaps]
   simp [Tryz.f147,hcil,hcl]
   refine ae (X:=Nat × List (List Xw)) (fun x=>a <= x.1 /\ x.1 <= A.length + n /\ eF A n c x.1 x.2 = FO /\ x.2.length + cntC A n c x.1 <= 1000) (fun x=>[(1,.d (.pl (ci.map cI))),(3,.fptr (.pl [[.pl rows]]) 0 0),(4,.ptr 1003 0 0),(11,.d (.int .i64 x.1))])
    (fun x=>[(1001,some (.box [.own 1002 0 x.2.length])),(1002,some (.row 101 1 (x.2.map (cP eQ)))),(1003,some (.box [.fn 147 caps]))]) (fun x=>A.length + n - x.1) (a,out) ⟨by simp,ha,hFO.symm,hbd⟩ (by simp) (by simp) ?_
   rintro ⟨k,O⟩ hs1 t1 m1 ⟨h1,h2,h3,h4⟩ hh1
   simp only at h1 h2 h3 h4
   by_cases hlt : k < A.length + n
   ·have hwk:=wr1 (i:=k) (by omega)
    have hstep:=v5 (out:=O) hcl hlt
    have hcnt:=yY hcl hlt
    have hflen:=qY (A:=A) (n:=n) (c:=c ++ [k]) (a:=k + 1) (out:=O)
    have hih:=ih (c ++ [k]) (k + 1) O (by simp; omega) (by simp; omega) (by omega) (fun x hx=>by
     rcases Qq.1 hx with hx | hx
     ·exact hcr x hx
     ·rw [Qg.1 hx]; exact hlt) (by omega)
    have hci2 : lf (c ++ [k]) = ci ++ [(k : Int)]:=by rw [hci]; simp [lf]
    rw [hci2] at hih
    have hL1 : LenOk 8 (ci.length + 1):=⟨by omega,by simp only [maxLen]; omega⟩
    have htk : List.take (ci.length + 1) (ci.map cI ++ [[D.int IntKind.i64 (k : Int)]]) = ci.map cI ++ [[D.int IntKind.i64 (k : Int)]]:=Jj (by simp)
    refine anyQ fun Z=>?_
    simp [hrl,show (k : Int) < (A.length : Int) + (n : Int) by omega,hwk]
    have fin : ∀ (es' : List (List D)),es' = (eF A n (c ++ [k]) (k + 1) O).map (cP eQ) -> es'.length = (eF A n (c ++ [k]) (k + 1) O).length:=fun es' e=>by rw [e]; simp
    refine ⟨?_,?_⟩
    all_goals
     refine D8 (mZ ci (by omega)) (by simp) fun r2 n2 hs3 hn2 hm2 hp2=>?_
     obtain ⟨g,rfl,hg1,hg2⟩:=hp2
     try simp at hn2
     cases g with
     | some g =>
       refine .inl ⟨g,3,1,ci.map cI,rfl,hg1 g rfl,by simp,?_⟩
       simp [hL1,hwk,hcw,hcf]
       refine nw ((mm 35 (T:=3) (sz:=1) (es:=ci.map cI ++ [[D.int .i64 k]]) (by simp)).mono ?_)
       rintro _ rfl
       refine DI (f:=147) (ko:=1001) (kr:=1002) (kc:=1003) (T:=101) (sz:=1) (es:=O.map (cP eQ)) (caps:=caps) (by simp) (by simp) (by simp [hren,hcw,hcf]) (by simp [Hk]) (by simp [hren,hcw,hcf]) hall (by simp) (by simpa [htk] using hih) fun es' hs5 g1 g2 g3 g4 g5=>?_
       have ge:=fin es' g2
       subst g2
       try simp at g1
       simp [St.kst,hwk,hcw,hcf]
       refine back (k + 1,eF A n (c ++ [k]) (k + 1) O) ⟨by simp only; omega,by simp only; omega,by simp only; rw [<- hstep]; exact h3,by simp only; omega⟩ (by simp only; omega) rfl (by simp <;> omega) (by simp) (by simp)
     | none =>
       have hc0:=hg2 rfl
       refine .inr ?_
       have hL2 : LenOk 8 1:=⟨by omega,by simp only [maxLen]; omega⟩
       simp [hc0,hL2,hwk,hcw,hcf]
       rw [hc0] at hih
       refine nw ((mm 38 (T:=3) (sz:=1) (es:=[[D.int .i64 k]]) (by simp)).mono ?_)
       rintro _ rfl
       refine DI (f:=147) (ko:=1001) (kr:=1002) (kc:=1003) (T:=101) (sz:=1) (es:=O.map (cP eQ)) (caps:=caps) (by simp) (by simp) (by simp [hren,hcw,hcf]) (by simp [Hk]) (by simp [hren,hcw,hcf]) hall (by simp) (by simpa using hih) fun es' hs5 g1 g2 g3 g4 g5=>?_
       have ge:=fin es' g2
       subst g2
       try simp at g1
       simp [St.kst,hwk,hcw,hcf]
       refine back (k + 1,eF A n (c ++ [k]) (k + 1) O) ⟨by simp only; omega,by simp only; omega,by simp only; rw [<- hstep]; exact h3,by simp only; omega⟩ (by simp only; omega) rfl (by simp <;> omega) (by simp) (by simp)
   ·have hkn : k = A.length + n:=by omega
    rw [zq hcl (by omega)] at h3
    subst h3
    simp [hrl,show ¬ (k : Int) < (A.length : Int) + (n : Int) by omega,rN,qh,hcw,hcf]
end
section
attribute [local simp] pS cP fj cI
theorem AA {A : List (List Xw)} {n : Nat} (h : ∀ r ∈ A,r.length = n) : (augR A n).map (·.take n) = A ++ (List.range n).map (bG n):=by
 simp only [augR,Zj,List.map_map]
 congr 1
 ·conv=>rhs; rw [<- List.map_id A]
  apply List.map_congr_left
  intro r hr
  simp only [Function.comp,id]
  exact (mL (h r hr)).1
 ·apply List.map_congr_left
  intro j _
  simp only [Function.comp]
  exact (mL kN).1
theorem Az {A : List (List Xw)} {n : Nat} (h : ∀ r ∈ A,r.length = n) : (augR A n).map (fun r=>fnL r n) = List.replicate A.length 1 ++ List.replicate n 0:=by
 simp only [augR,Zj,List.map_map]
 congr 1
 ·rw [List.eq_replicate_iff]
  refine ⟨by simp,fun q hq=>?_⟩
  obtain ⟨r,hr,rfl⟩:=Xz.1 hq
  exact (mL (h r hr)).2
 ·rw [List.eq_replicate_iff]
  refine ⟨by simp,fun q hq=>?_⟩
  obtain ⟨j,_,rfl⟩:=Xz.1 hq
  exact (mL kN).2
theorem Ac {n i k : Nat} (h : k < n) : (bG n i).take (k + 1) = (bG n i).take k ++ [if k = i then 1 else 0]:=by
 rw [Jz (by simpa [bG] using h)]
 simp [bG]
theorem VK.nil2 {P : Program} {f : FuncId} {a : V} {caps : List V} {T sz : Nat} {es : List (List D)} {post : List (List D) -> Prop} (h : VK P f [a,.d (.pl [])] caps T sz es post) : VK P f [a,.d (.sl none none [])] caps T sz es post:=by
 refine ⟨h.1,fun w vals go gc ro A hg hin hLR=>h.2 w vals go gc ro A hg hin ?_⟩
 match vals,hLR with
 | v1 :: v2 :: r, hLR =>
   simp only [List.cons_append,LR] at hLR ⊢
   obtain ⟨h1,h2,h3⟩:=hLR
   refine ⟨h1,?_,h3⟩
   simp only [VR] at h2 ⊢
   exact h2.er
theorem om (A : List (List Xw)) (n : Nat) (h : LPok A n) :
  VC Tryz.prog 133 [.agg [.d (pS (cP eQ) A),.d (pS eQ (List.replicate A.length 1)),.d (pS eQ (List.replicate n 1))],.d (.int .i64 1)] (fun _ r=>r = .d (pS (cP eQ) (ptsQ A n))):=by
 have hn1:=h.n1
 have hn4:=h.n4
 have hm1:=h.m1
 have hm5:=h.m5
 have hrows:=AA h.m01.len
 have hright:=Az h.m01.len
 have hkc:=B2 A n h (((augR A n).map (·.take n)).map (cP eQ)) (((augR A n).map fun r=>fnL r n).map eQ) [.pl (A.map (cP eQ)),.pl ((List.replicate A.length (1 : Xw)).map eQ),.pl ((List.replicate n (1 : Xw)).map eQ)] rfl rfl rfl n [] 0 [] (by simp) (by simp) (by omega) (by simp) (by have:=tL (A:=A) (n:=n) (by omega); simp; omega)
 rw [qX,hrows,hright] at hkc
 obtain ⟨B1,hB1⟩ : ∃ B1,B1 = List.replicate A.length (1 : Xw):=⟨_,rfl⟩
 obtain ⟨C1,hC1⟩ : ∃ C1,C1 = List.replicate n (1 : Xw):=⟨_,rfl⟩
 have hB1l : B1.length = A.length:=by rw [hB1]; simp
 have hC1l : C1.length = n:=by rw [hC1]; simp
 have hB1n : B1 ≠ []:=fun e=>by rw [e] at hB1l; simp at hB1l; omega
 have hL0 : LenOk 24 A.length:=⟨by omega,by simp only [maxLen]; omega⟩
 have hA1 : ∀ l ∈ A.map (cP eQ),l.length = 1:=fun l hl=>by obtain ⟨q,_,rfl⟩:=Xz.1 hl; rfl
 rw [<- hB1,<- hC1] at hkc ⊢
 refine VC.ofL EP sZ Tryz.func133 fun B hl=>?_
 clear hl
 simp [Tryz.f133,hL0,hC1l]
 refine vR (e9 B1 (by omega) hB1n) (by simp) fun r2 n2 hs3 hn2 hm2 hp2=>?_
 obtain ⟨g2,rfl,hg2⟩:=hp2
 refine ⟨62,2,B1.map eQ,by omega,.inr ⟨g2,rfl,hg2,by simp⟩,?_⟩
 try simp at hn2
 simp [hB1l]
 refine ae (X:=Nat) (fun i=>i <= n) (fun i=>[(5,.ptr 5 0 0),(6,.ptr 6 0 0),(7,.ptr 7 0 0),(2,.ptr 2 0 0),(3,.ptr 3 0 0),(8,.d (.int .i64 i))])
  (fun i=>[(2,some (.box [.d (.pl (A.map (cP eQ))),.d (.pl (B1.map eQ)),.d (.pl (C1.map eQ))])),(3,some (.box [.d (.int .i64 1)])),(5,some (.box [.d (.int .i64 n)])),(6,some (.box [.own 16 0 (A.length + i)])),(7,some (.box [.own 22 0 (A.length + i)])),(16,some (.row 101 1 ((A ++ (List.range i).map (bG n)).map (cP eQ)))),(22,some (.row 62 2 ((B1 ++ List.replicate i 0).map eQ)))]) (fun i=>n - i) 0 (by simp) (by simp) (by simp) ?_
 intro i hs1 t1 m1 hi hh1
 by_cases hlt : i < n
 ·have hwi:=wr1 (i:=i) (by omega)
  have hL1 : LenOk 24 (A.length + i + 1):=⟨by omega,by simp only [maxLen]; omega⟩
  have hL2 : LenOk 16 (A.length + i + 1):=⟨by omega,by simp only [maxLen]; omega⟩
  obtain ⟨RA,hRA⟩ : ∃ RA,RA = (A ++ (List.range i).map (bG n)).map (cP eQ):=⟨_,rfl⟩
  obtain ⟨RB,hRB⟩ : ∃ RB,RB = (B1 ++ List.replicate i 0).map eQ:=⟨_,rfl⟩
  have hRAl : RA.length = A.length + i:=by rw [hRA]; simp
  have hRBl : RB.length = A.length + i:=by rw [hRB]; simp [hB1l]
  have s1 : (A ++ (List.range (i + 1)).map (bG n)).map (cP eQ) = RA ++ [cP eQ (bG n i)]:=by rw [hRA,List.range_succ]; simp
  have s2 : (B1 ++ List.replicate (i + 1) 0).map eQ = RB ++ [eQ 0]:=by rw [hRB,List.replicate_succ']; simp
  rw [<- hRA,<- hRB]
  refine anyQ fun Z=>?_
  simp [hlt]
  refine ae (X:=Nat) (fun k=>k <= n) (fun k=>[(5,.ptr 5 0 0),(6,.ptr 6 0 0),(7,.ptr 7 0 0),(2,.ptr 2 0 0),(3,.ptr 3 0 0),(8,.d (.int .i64 i)),(9,.own 28 0 k),(10,.d (.int .i64 k))])
   (fun k=>[(2,some (.box [.d (.pl (A.map (cP eQ))),.d (.pl (B1.map eQ)),.d (.pl (C1.map eQ))])),(3,some (.box [.d (.int .i64 1)])),(5,some (.box [.d (.int .i64 n)])),(6,some (.box [.own 16 0 (A.length + i)])),(7,some (.box [.own 22 0 (A.length + i)])),(16,some (.row 101 1 RA)),(22,some (.row 62 2 RB)),(28,some (.row 62 2 (((bG n i).take k).map eQ)))]) (fun k=>n - k) 0 (by simp) (by simp) (by simp) ?_
  intro k hs2 t2 m2 hk hh2
  by_cases hkn : k < n
  ·have hwk:=wr1 (i:=k) (by omega)
   have hL3 : LenOk 16 (k + 1):=⟨by omega,by simp only [maxLen]; omega⟩
   have s3:=Ac (i:=i) hkn
   have s4 : eQ (if k = i then 1 else 0) = [.int .i64 (if i = k then 1 else 0),.int .i64 1]:=by
    by_cases e : k = i
    ·subst e; rw [if_pos rfl,if_pos rfl]; rfl
    ·rw [if_neg e,if_neg (Ne.symm e)]; rfl
   obtain ⟨U,hU⟩ : ∃ U,U = ((bG n i).take k).map eQ:=⟨_,rfl⟩
   have hUl : U.length = k:=by rw [hU]; simp [bG]; omega
   have s5 : ((bG n i).take (k + 1)).map eQ = U ++ [[.int .i64 (if i = k then 1 else 0),.int .i64 1]]:=by rw [s3,hU,Zj,Qz,List.map_nil,s4]
   have hbit:=qi (decide (i = k))
   rw [List.map_take] at s5
   rw [<- hU]
   refine anyQ fun Z=>?_
   simp [hkn]
   refine ag hbit (by simp) rfl fun hs3 hh3=>?_
   try simp at hh3
   simp [hUl,hL3,hwk]
   refine back (k + 1) (by omega) (by omega) rfl (by simp <;> omega) (by simp) (by simp [s5])
  ·have hkn2 : k = n:=by omega
   subst hkn2
   have hut : (bG k i).take k = bG k i:=Jj (by rw [kN]; omega)
   have hul : List.take k ((bG k i).map eQ) = (bG k i).map eQ:=Jj (by simp [kN])
   simp only [Zj,List.map_map] at s1
   simp at s2
   rw [hut]
   simp [hRAl,hRBl,hL1,hL2,hwi]
   refine back (i + 1) (by omega) (by omega) rfl (by simp <;> omega) (by simp) (by simp [s1,s2,hul,Nat.add_assoc])
 ·have hin : i = n:=by omega
  subst hin
  obtain ⟨RA,hRA⟩ : ∃ RA,RA = (A ++ (List.range i).map (bG i)).map (cP eQ):=⟨_,rfl⟩
  obtain ⟨RB,hRB⟩ : ∃ RB,RB = (B1 ++ List.replicate i 0).map eQ:=⟨_,rfl⟩
  have hRAl : RA.length = A.length + i:=by rw [hRA]; simp
  have hRBl : RB.length = A.length + i:=by rw [hRB]; simp [hB1l]
  rw [<- hRA,<- hRB] at hkc ⊢
  simp
  have hkc2:=VK.nil2 (a:=.d (.int .i64 0)) (f:=147) (by simpa [lf] using hkc)
  refine nw ?_
  refine (mm 16 (T:=101) (sz:=1) (es:=RA) (by simp)).bind ?_
  rintro _ rfl
  refine (mm 22 (T:=62) (sz:=2) (es:=RB) (by simp)).bind ?_
  rintro _ rfl
  refine jS (k:=2) (ds:=[.pl (A.map (cP eQ)),.pl (B1.map eQ),.pl (C1.map eQ)]) (by simp) (by omega) ?_
  refine jS (k:=3) (ds:=[.int .i64 1]) (by simp [St.fbx,fbxL,fbx]) (by omega) ?_
  refine jS (k:=5) (ds:=[.int .i64 i]) (by simp [St.fbx,fbxL,fbx]) (by omega) ?_
  refine jS (k:=6) (ds:=[.pl RA]) (by simp [St.fbx,fbxL,fbx,hRAl,Jj]) (by omega) ?_
  refine jS (k:=7) (ds:=[.pl RB]) (by simp [St.fbx,fbxL,fbx,hRBl,Jj]) (by omega) ?_
  refine (cz 11 0 902 101 1 [.d (.sl none none [])] (by omega) (by omega) (by omega) (by simp [St.fbx,fbxL,fbx]) rfl).bind ?_
  rintro _ rfl
  refine Lead.of (DI (f:=147) (ko:=11) (kr:=902) (kc:=12) (T:=101) (sz:=1) (es:=[]) (caps:=fy i RA RB [.pl (A.map (cP eQ)),.pl (B1.map eQ),.pl (C1.map eQ)]) (post:=fun es'=>es' = (ptsQ A i).map (cP eQ)) (by simp [St.fbx,fbxL,fbx]) (by simp [St.fbx,fbxL,fbx]) ?_ (by simp [Hk]) ?_ rfl (by simp) (by simpa using hkc2) fun es' hs5 g1 g2 g3 g4 g5=>?_)
  ·simp [St.fbx,fbxL,fbx,fy,renK,hRAl,hRBl,Jj]
  ·simp [St.fbx,fbxL,fbx,fy,renK,hRAl,hRBl,Jj]
  have hpl:=yc h
  subst g2
  simp [St.kst,St.fbx,fbxL,fbx,Jj]
end
section
attribute [local simp] pS cP fj cI
theorem vr (A : List (List Xw)) (n : Nat) (h : LPok A n) (p : List Xw × Xw) (hp : minQ A n = some p) :
  VC Tryz.prog 108 [.agg [.d (pS (cP eQ) A),.d (pS eQ (List.replicate A.length 1)),.d (pS eQ (List.replicate n 1))],.d (.int .i64 1)]
   (fun _ r=>r = .tup [.d (.pl (p.1.map eQ)),.agg [.d (.int .i64 p.2.num),.d (.int .i64 (p.2.den : Int))],.d (.bool true)]):=by
 have hn4:=h.n4
 obtain ⟨PT,hPT⟩ : ∃ PT,PT = ptsQ A n:=⟨_,rfl⟩
 have hPl : PT.length <= 512:=by rw [hPT]; exact yc h
 have hPs : ∀ x ∈ PT,SolB n x:=by rw [hPT]; exact EZ h
 have hb : xk PT = some p:=by rw [hPT]; exact hp
 have hw1 : ∀ z : Int,-1 <= z -> z <= 1 -> IntKind.i64.wrap z = z:=fun z h1 h2=>aj (by omega) (by omega)
 have hcb : ∀ a b : Xw,-1 <= cmpQ a b /\ cmpQ a b <= 1:=fun a b=>by unfold cmpQ; split <;> (try split) <;> omega
 have hvs:=om A n h
 rw [<- hPT] at hvs
 obtain ⟨B1,hB1⟩ : ∃ B1,B1 = List.replicate A.length (1 : Xw):=⟨_,rfl⟩
 obtain ⟨C1,hC1⟩ : ∃ C1,C1 = List.replicate n (1 : Xw):=⟨_,rfl⟩
 have hC1l : C1.length = n:=by rw [hC1]; simp
 rw [<- hB1,<- hC1] at hvs ⊢
 refine VC.ofL EP s108 Tryz.func108 fun B hl=>?_
 clear hl
 simp [Tryz.f108]
 refine aF hvs (by simp) fun hs0 hh0 _=>?_
 try simp at hh0
 simp
 refine ae (X:=Nat) (fun i=>i <= PT.length) (fun i=>[(1,.d (.int .i64 1)),(2,.ptr 2 0 0),(5,.ptr 5 0 0),(7,match jz PT i with | none=>.d (.sl none none []) | some p=>.d (.pl (p.1.map eQ))),(8,.ptr 8 0 0),(9,.d (.bool (jz PT i).isSome)),(16,.d (.pl (PT.map (cP eQ)))),(17,.d (.int .i64 PT.length)),(18,.d (.int .i64 i))])
  (fun i=>[(2,some (.box [.d (.pl (A.map (cP eQ))),.d (.pl (B1.map eQ)),.d (.pl (C1.map eQ))])),(5,some (.box [.d (.int .i64 0),.d (.int .i64 0)])),(8,some (.box (match jz PT i with | none=>[.d (.int .i64 0),.d (.int .i64 0)] | some p=>[.d (.int .i64 p.2.num),.d (.int .i64 (p.2.den : Int))])))]) (fun i=>PT.length - i) 0 (by simp) (by simp [oO]) (by simp [oO]) ?_
 intro i hs1 t1 m1 hi hh1
 by_cases hlt : i < PT.length
 ·have hwi:=wr1 (i:=i) (by omega)
  have hm:=Jy hlt
  obtain ⟨x,hx⟩ : ∃ x,x = PT[i]:=⟨_,rfl⟩
  have hSx : SolB n x:=hPs x (by rw [hx]; exact hm)
  have hxl:=hSx.len
  have hdot:=ix C1 x (by rw [hC1l,hxl]) (by rw [hC1l,hC1]; exact uD hSx hn4)
  have hsq : dotF C1.length (fnL C1) (fnL x) = sumQ x:=by rw [hC1l,hC1]; exact yB hxl
  rw [hsq] at hdot
  have hsm:=C8 hSx hn4
  have hst:=vO hlt
  rw [<- hx] at hst
  refine anyQ fun Z=>?_
  cases hbt : jz PT i with
  | none =>
    rw [hbt] at hst
    simp only [kZ] at hst
    simp [hlt,<- hx]
    refine ag hdot (by simp) rfl fun hs2 hh2=>?_
    try simp at hh2
    simp [hwi]
    exact back (i + 1) (by omega) (by omega) rfl (by simp <;> omega) (by simp [hst]) (by simp [hst])
  | some b =>
    rw [hbt] at hst
    simp only [kZ] at hst
    obtain ⟨hb1,hb2⟩:=yQ hbt
    have hbm : smQ b.2:=by rw [hb1]; exact C8 (hPs _ (List.mem_of_mem_take hb2)) hn4
    simp [hlt,<- hx]
    refine ag hdot (by simp) rfl fun hs2 hh2=>?_
    try simp at hh2
    simp
    refine ag (eo (sumQ x) b.2 hsm hbm) (by simp) rfl fun hs3 hh3=>?_
    try simp at hh3
    have hc:=hcb (sumQ x) b.2
    simp [hw1 _ hc.1 hc.2]
    by_cases hl : sumQ x < b.2
    ·rw [if_pos hl] at hst
     simp [oq.2 hl,hwi]
     exact back (i + 1) (by omega) (by omega) rfl (by simp <;> omega) (by simp [hst]) (by simp [hst])
    ·rw [if_neg hl] at hst
     have hnc : ¬ cmpQ (sumQ x) b.2 < 0:=fun e=>hl (oq.1 e)
     simp [hnc,hwi]
     exact back (i + 1) (by omega) (by omega) rfl (by simp <;> omega) (by simp [hst]) (by simp [hst])
 ·have hin : i = PT.length:=by omega
  subst hin
  have hbt : jz PT PT.length = some p:=by rw [yP]; exact hb
  simp [hbt]
theorem oe (A : List (List Xw)) (n : Nat) (h : LPok A n) (p : List Xw × Xw) (hp : minQ A n = some p) :
  VC Tryz.prog 64 [.agg [.d (pS (cP eQ) A),.d (pS eQ (List.replicate A.length 1)),.d (pS eQ (List.replicate n 1))]]
   (fun _ r=>r = .tup [.d (.pl (p.1.map eQ)),.agg [.d (.int .i64 p.2.num),.d (.int .i64 (p.2.den : Int))],.d (.bool true)]):=by
 have hn4:=h.n4
 have hval:=dz A n h
 have hbest:=vr A n h p hp
 obtain ⟨B1,hB1⟩ : ∃ B1,B1 = List.replicate A.length (1 : Xw):=⟨_,rfl⟩
 rw [<- hB1] at hval hbest ⊢
 refine VC.ofL EP sZ Tryz.func64 fun B hl=>?_
 clear hl
 simp [Tryz.f64]
 refine ag hval (by simp) rfl fun hs0 hh0=>?_
 try simp at hh0
 simp
 refine ae (X:=Nat) (fun i=>i <= n) (fun i=>[(1,.ptr 1 0 0),(3,.ptr 3 0 0),(12,.d (.pl ((List.replicate n (1 : Xw)).map eQ))),(13,.d (.int .i64 n)),(14,.d (.int .i64 i))]) (fun _=>[(1,some (.box [.d (.pl (A.map (cP eQ))),.d (.pl (B1.map eQ)),.d (.pl ((List.replicate n (1 : Xw)).map eQ))])),(3,some (.box [.d (.int .i64 0),.d (.int .i64 0)]))]) (fun i=>n - i) 0 (by simp) (by simp) (by simp) ?_
 intro i hs t m hi hh
 by_cases hlt : i < n
 ·have hwi:=wr1 (i:=i) (by omega)
  simp [hlt,hwi]
  exact back (i + 1) (by omega) (by omega) rfl (by simp <;> omega) (by simp) (by simp)
 ·simp [hlt]
  refine aF hbest (by simp) fun hs1 hh1 _=>?_
  try simp at hh1
  simp
theorem qj (q : ab) (bag : List Int) (hq : q.atoms.length <= 4) (hb : bag.length <= 5) :
  VC Tryz.prog 65 [.agg ((au q).map V.d),.d (pS cI bag)]
   (fun _ r=>r = .agg [.d (pS (cP eQ) (covM q.atoms bag)),.d (pS eQ (List.replicate bag.length 1)),.d (pS eQ (List.replicate q.atoms.length 1))]):=by
 have hqe : (au q).map V.d = [V.d (.int .i64 q.n),V.d (.pl (q.atoms.map aB)),V.d (.pl (q.out.map cI))]:=by simp [au]
 obtain ⟨AT,hAT⟩ : ∃ AT,AT = q.atoms:=⟨_,rfl⟩
 obtain ⟨OU,hOU⟩ : ∃ OU,OU = q.out.map cI:=⟨_,rfl⟩
 obtain ⟨RW,hRW⟩ : ∃ RW : Int -> List Xw,RW = fun v=>AT.map fun a=>r01 (a.vars.contains v):=⟨_,rfl⟩
 have hcov : covM q.atoms bag = bag.map RW:=by rw [hRW,hAT]; rfl
 rw [hcov,hqe,<- hAT,<- hOU]
 rw [<- hAT] at hq
 refine VC.ofL EP sZ Tryz.func65 fun B hl=>?_
 clear hl
 simp [Tryz.f65]
 refine aE (X:=Nat) (fun i _=>i <= bag.length) (fun i=>[(2,.ptr 2 0 0),(4,.ptr 4 0 0),(5,.ptr 5 0 0),(11,.d (.pl (bag.map cI))),(12,.d (.int .i64 bag.length)),(13,.d (.int .i64 i))])
  (fun i=>[(2,some (.box [.d (.int .i64 q.n),.d (.pl (AT.map aB)),.d (.pl OU)])),(4,some (.box [.d (.sl none none []),.d (.sl none none []),.d (.sl none none [])])),(5,some (.box [.own 901 0 i,.own 902 0 i,.d (.sl none none [])])),(901,some (.row 101 1 (((bag.take i).map RW).map (cP eQ)))),(902,some (.row 62 2 ((List.replicate i (1 : Xw)).map eQ)))]) (fun i=>bag.length - i) ?_ ?_
 ·refine (cz 5 0 901 101 1 [.d (.sl none none []),.d (.sl none none []),.d (.sl none none [])] (by omega) (by omega) (by omega) (by simp) rfl).bind ?_
  rintro _ rfl
  refine (cz 5 1 902 62 2 [.own 901 0 0,.d (.sl none none []),.d (.sl none none [])] (by omega) (by omega) (by omega) (by simp) rfl).bind ?_
  rintro _ rfl
  exact Lead.of ⟨0,by omega,rfl,rfl,Jv _,by simp,by simp⟩
 intro i hs1 t1 m1 hi hh1
 by_cases hlt : i < bag.length
 ·have hwi:=wr1 (i:=i) (by omega)
  have hL1 : LenOk 24 (i + 1):=⟨by omega,by simp only [maxLen]; omega⟩
  have hL2 : LenOk 16 (i + 1):=⟨by omega,by simp only [maxLen]; omega⟩
  obtain ⟨v,hv⟩ : ∃ v,v = bag[i]:=⟨_,rfl⟩
  obtain ⟨RA,hRA⟩ : ∃ RA,RA = ((bag.take i).map RW).map (cP eQ):=⟨_,rfl⟩
  obtain ⟨RB,hRB⟩ : ∃ RB,RB = (List.replicate i (1 : Xw)).map eQ:=⟨_,rfl⟩
  have hRAl : RA.length = i:=by rw [hRA]; simp; omega
  have hRBl : RB.length = i:=by rw [hRB]; simp
  have s1 : List.take (i + 1) (List.map (cP eQ ∘ RW) bag) = RA ++ [cP eQ (RW v)]:=by rw [Jz (by simpa using hlt)]; simp [hRA,hv]
  have s2 : List.replicate (i + 1) [D.int .i64 1,D.int .i64 1] = RB ++ [[D.int .i64 1,D.int .i64 1]]:=by rw [hRB,List.replicate_succ']; simp
  rw [<- hRA,<- hRB]
  refine dx fun Z=>?_
  simp [hlt,<- hv]
  refine aE (X:=Nat) (fun k _=>k <= AT.length) (fun k=>[(2,.ptr 2 0 0),(4,.ptr 4 0 0),(5,.ptr 5 0 0),(7,.d (.int .i64 v)),(8,.own 903 0 k),(11,.d (.pl (bag.map cI))),(12,.d (.int .i64 bag.length)),(13,.d (.int .i64 i)),(18,.d (.pl (AT.map aB))),(19,.d (.int .i64 AT.length)),(20,.d (.int .i64 k))])
   (fun k=>[(2,some (.box [.d (.int .i64 q.n),.d (.pl (AT.map aB)),.d (.pl OU)])),(4,some (.box [.d (.sl none none []),.d (.sl none none []),.d (.sl none none [])])),(5,some (.box [.own 901 0 i,.own 902 0 i,.d (.sl none none [])])),(901,some (.row 101 1 RA)),(902,some (.row 62 2 RB)),(903,some (.row 62 2 (((AT.take k).map fun a=>r01 (a.vars.contains v)).map eQ)))]) (fun k=>AT.length - k) ?_ ?_
  ·refine (bA 8 903 62 2 (by omega) (by omega) (by simp)).bind ?_
   rintro _ rfl
   exact Lead.of ⟨0,by omega,rfl,rfl,Jv _,by simp,by simp⟩
  intro k hs2 t2 m2 hk hh2
  by_cases hkn : k < AT.length
  ·have hwk:=wr1 (i:=k) (by omega)
   have hL3 : LenOk 16 (k + 1):=⟨by omega,by simp only [maxLen]; omega⟩
   obtain ⟨a,ha⟩ : ∃ a,a = AT[k]:=⟨_,rfl⟩
   obtain ⟨U,hU⟩ : ∃ U,U = ((AT.take k).map fun a=>r01 (a.vars.contains v)).map eQ:=⟨_,rfl⟩
   have hUl : U.length = k:=by rw [hU]; simp; omega
   have s5 : List.take (k + 1) (List.map (eQ ∘ fun a=>r01 (decide (v ∈ a.vars))) AT) = U ++ [[.int .i64 (if v ∈ a.vars then 1 else 0),.int .i64 1]]:=by
    rw [Jz (by simpa using hkn)]
    simp [-fj,hU,<- ha,HS,List.contains_eq_mem]
   have hcon:=cX a v
   have hae : (aB a).map V.d = [V.d (.str a.rel),V.d (.pl (a.vars.map cI))]:=by simp [aB,cStr]
   have hbit:=qi (a.vars.contains v)
   rw [hae] at hcon
   rw [<- hU]
   refine dx fun Z=>?_
   have hgk : (AT.map aB).getD k [] = [.str a.rel,.pl (a.vars.map cI)]:=by simp [hkn,<- ha,aB,cStr]
   simp [hkn,<- ha,aB,cStr]
   refine ag hcon (by simp) rfl fun hs3 hh3=>?_
   try simp at hh3
   simp
   refine ag hbit (by simp) rfl fun hs4 hh4=>?_
   try simp at hh4
   simp [hUl,hL3,hwk]
   exact bg (k + 1) (by omega) (by omega) rfl (by simp <;> omega) (by simp) (by simp [s5])
  ·have hkn2 : k = AT.length:=by omega
   have hRWv : ((AT.take k).map fun a=>r01 (a.vars.contains v)) = RW v:=by rw [hRW,hkn2,Jj (Jv _)]
   rw [hRWv]
   have hRWl : (RW v).length = k:=by rw [hRW,hkn2]; simp
   have htk : ((RW v).map eQ).take k = (RW v).map eQ:=Jj (by simp; omega)
   simp [hkn2,hRAl,hRBl,hL1,hL2,hwi]
   exact bg (i + 1) (by omega) (by omega) rfl (by simp <;> omega) (by simp) (by simp [s1,s2,<- hkn2,htk])
 ·have hin : i = bag.length:=by omega
  subst hin
  rw [Jj (Jv _)]
  simp
  refine aE (X:=Nat) (fun k _=>k <= AT.length) (fun k=>[(4,.ptr 4 0 0),(5,.ptr 5 0 0),(48,.d (.int .i64 AT.length)),(49,.d (.int .i64 k))])
   (fun k=>[(4,some (.box [.d (.sl none none []),.d (.sl none none []),.d (.sl none none [])])),(5,some (.box [.own 901 0 bag.length,.own 902 0 bag.length,.own 904 0 k])),(901,some (.row 101 1 ((bag.map RW).map (cP eQ)))),(902,some (.row 62 2 ((List.replicate bag.length (1 : Xw)).map eQ))),(904,some (.row 62 2 ((List.replicate k (1 : Xw)).map eQ)))]) (fun k=>AT.length - k) ?_ ?_
  ·refine (cz 5 2 904 62 2 [.own 901 0 bag.length,.own 902 0 bag.length,.d (.sl none none [])] (by omega) (by omega) (by omega) (by simp) rfl).bind ?_
   rintro _ rfl
   exact Lead.of ⟨0,by omega,rfl,rfl,Jv _,by simp,by simp⟩
  intro k hs2 t2 m2 hk hh2
  by_cases hkn : k < AT.length
  ·have hwk:=wr1 (i:=k) (by omega)
   have hL3 : LenOk 16 (k + 1):=⟨by omega,by simp only [maxLen]; omega⟩
   obtain ⟨U,hU⟩ : ∃ U,U = (List.replicate k (1 : Xw)).map eQ:=⟨_,rfl⟩
   have hUl : U.length = k:=by rw [hU]; simp
   have s5 : List.replicate (k + 1) [D.int .i64 1,D.int .i64 1] = U ++ [[D.int .i64 1,D.int .i64 1]]:=by rw [hU,List.replicate_succ']; simp
   rw [<- hU]
   refine dx fun Z=>?_
   simp [hkn,hUl,hL3,hwk]
   exact bg (k + 1) (by omega) (by omega) rfl (by simp <;> omega) (by simp) (by simp [s5])
  ·have hkn2 : k = AT.length:=by omega
   subst hkn2
   simp [Jj]
theorem ka (q : ab) (b : List Int) : VC Tryz.prog 22 [.agg ((au q).map V.d),.d (pS cI b)] (fun _ r=>r = bcwV q b):=by
 have hqe : (au q).map V.d = [V.d (.int .i64 q.n),V.d (.pl (q.atoms.map aB)),V.d (.pl (q.out.map cI))]:=by simp [au]
 refine VC.ofL EP sZ Tryz.func22 fun B hl=>?_
 clear hl
 simp [hqe,Tryz.f22]
 refine ag (dO q) (by simp [hqe]) rfl fun hs0 hh0=>?_
 try simp at hh0
 cases hq : aw q
 ·simp [bcwV,hq]
 simp
 refine ag (mR q b) (by simp [hqe]) rfl fun hs1 hh1=>?_
 try simp at hh1
 cases hb : bagI q.n b
 ·simp [bcwV,hq,hb]
 obtain ⟨f1,f2,f3,f4,f5⟩:=mU hq hb
 obtain ⟨p,hp1,hp2⟩:=DP hq hb
 have hmin:=oe (covM q.atoms b) q.atoms.length (Hj hq hb) p hp1
 have hcl : (covM q.atoms b).length = b.length:=by simp [covM]
 rw [hcl,hp2] at hmin
 simp
 refine aF (qj q b f4 f2) (by simp [hqe]) fun hs2 hh2 _=>?_
 try simp at hh2
 simp
 refine aF hmin (by simp) fun hs3 hh3 _=>?_
 try simp at hh3
 simp [bcwV,hq,hb]
end
section
attribute [local simp] aR aC ax ay pS cP cI cStr dSl
theorem kB (l : List Ints) : erLL (l.map (cS cI)) = (l.map (plS plI)).map (cP cI):=bW (iQ eE) l
theorem nh (l : List Int) : erLL (l.map cI) = l.map cI:=by rw [bW eE,ax]
theorem yq (m : Nat -> Option Blk) (v : VRel) : rp m (.agg ((bu v).map V.d)) = some (.agg ((aX (cH v)).map V.d)):=by
 simp [bu,aA,cS,aX,ao,cH,aV,plS,kB,nh,rp,rpL]
theorem CY (m : Nat -> Option Blk) (v : Reln) : rp m (.agg ((aA v).map V.d)) = some (.agg ((ao (aV v)).map V.d)):=by
 simp [aA,cS,ao,aV,plS,kB,rp,rpL]
theorem rE {m : Nat -> Option Blk} {v v' : V} {l l' : List V} (h : rp m v = some v') (h' : rpL m l = some l') : rpL m (v :: l) = some (v' :: l'):=by simp only [rpL,h,h']
theorem KP (v : VRel) : (bu v).map V.d = [.d (.sl v.vars.id v.vars.T (v.vars.xs.map cI)),.d (.int .i64 v.rel.ar),.d (.sl v.rel.rows.id v.rel.rows.T (v.rel.rows.xs.map (cS cI)))]:=by simp [bu,aA,cS]
theorem vD (v : aG) : (aX v).map V.d = [.d (.pl (v.vars.map cI)),.d (.int .i64 v.rel.ar),.d (.pl (v.rel.rows.map (cP cI)))]:=by simp [aX,ao]
theorem pL (r : bE) (cols : List Int) (hb : cols.length <= 4294967296) : VC Tryz.prog 34 [.agg ((ao r).map V.d),.d (pS cI cols)] (fun _ v=>v = .tup [.agg ((ao (prP r cols)).map V.d),.d (.bool (prB r cols))]):=
 VC.plain (jO r cols hb) (fun n v h=>by
  obtain ⟨y,rfl,hp,_,_⟩:=h
  have:=CY (fun _=>none) y
  rw [hp] at this
  simp only [rp,rpL] at this ⊢
  rw [this]; rfl) (by simp [ao,rd,rdL])
theorem nA (b : aG) (bag : List Int) (hn : b.vars.Nodup) (h5 : b.vars.length <= 1000) : VC Tryz.prog 57 [.agg ((aX b).map V.d),.d (pS cI bag)] (fun _ r=>r = .agg ((aX (pjV b bag)).map V.d)):=by
 have hc1:=tM b.vars bag
 have hP:=pL b.rel (comC b.vars bag) (by simp [comC]; omega)
 obtain ⟨vs,⟨ar,rl⟩⟩:=b
 simp only at hn h5 hc1 hP
 rw [pjV]
 simp only
 obtain ⟨Rs,hRs⟩ : ∃ R,R = prP ⟨ar,rl⟩ (comC vs bag):=⟨_,rfl⟩
 rw [<- hRs] at hP ⊢
 refine VC.ofL EP sZ Tryz.func57 fun B hl=>?_
 clear hl
 simp [Tryz.f57,vD]
 have hcm:=iG vs bag (by omega)
 rw [show fA vs bag = comL vs bag from rfl] at hcm
 have hsub : ∀ v ∈ comL vs bag,v ∈ vs:=fun v hv=>(List.mem_filter.1 hv).1
 obtain ⟨C,hC⟩ : ∃ C,C = comL vs bag:=⟨_,rfl⟩
 have hcc : comC vs bag = C.map (idxL vs):=by rw [hC]; rfl
 rw [hcc] at hP
 rw [<- hC] at hcm hsub hc1 ⊢
 refine aF hcm (by simp) fun hs1 hh1 hl1=>?_
 simp at hh1
 simp
 refine aE (X:=Nat) (fun i _=>i <= C.length) (fun i=>[(1,.d (.pl (bag.map cI))),(2,.ptr 2 0 0),(4,.ptr 4 0 0),(5,.d (.pl (C.map cI))),(6,.own 90 0 i),(15,.d (.pl (C.map cI))),(16,.d (.int .i64 C.length)),(17,.d (.int .i64 i))])
  (fun i=>[(2,some (.box [.d (.pl (vs.map cI)),.d (.int .i64 ar),.d (.pl (rl.map (cP cI)))])),(4,some (.box [.d (.sl none none []),.d (.int .i64 0),.d (.sl none none [])])),(90,some (.row 3 1 (((C.take i).map (idxL vs)).map cI)))]) (fun i=>C.length - i) ?_ ?_
 ·refine (bA 6 90 3 1 (by omega) (by omega) (by simp)).bind ?_
  rintro _ rfl
  exact Lead.of ⟨0,by omega,rfl,rfl,Jv _,by simp,by simp⟩
 intro i hs t m hi hh
 by_cases hlt : i < C.length
 ·have hwi:=wr1 (i:=i) (by omega)
  have hmin : min i C.length = i:=by omega
  have L : LenOk 8 (i + 1):=⟨by omega,by simp only [maxLen]; omega⟩
  have htk : (C.map (cI ∘ idxL vs)).take (i + 1) = (C.map (cI ∘ idxL vs)).take i ++ [[D.int .i64 (idxL vs C[i])]]:=by
   rw [<- List.map_take,Jz hlt,Zj,List.map_take]; simp
  refine dx fun Q=>?_
  simp [hlt]
  refine ag (dC vs C[i]) (by simp) rfl fun hs3 hh3=>?_
  simp at hh3
  simp [hwi,L,hmin,Jj]
  exact bg (i + 1) (by omega) (by omega) rfl (by simp <;> omega) (by simp) (by simp [htk])
 have hn : i = C.length:=by omega
 subst hn
 rw [List.take_length]
 obtain ⟨X,hX⟩ : ∃ X,X = C.map (idxL vs):=⟨_,rfl⟩
 have hXl : X.length = C.length:=by rw [hX]; simp
 rw [<- hX] at hP ⊢
 simp [ao]
 refine aF hP (by simp [ao,Jj,hXl]) fun hs3 hh3 hl3=>?_
 simp at hh3
 simp [ao,aX]
theorem lF (d : PDb) (q : ab) (bag : List Int) : VC Tryz.prog 19 [.agg ((eDb d).map V.d),.agg ((au q).map V.d),.d (pS cI bag)]
  (fun n r=>∃ y : VRel,r = .tup [.agg ((bu y).map V.d),.d (.bool (brO d q bag).isSome)] /\ cH y = ovR (brO d q bag) /\ lM y /\ Good (bu y) (km y) n):=by
 obtain ⟨dl,hdl⟩ : ∃ dl,dl = d.tabs:=⟨_,rfl⟩
 have hde : (eDb d).map V.d = [V.d (.pl (dl.map eTab))]:=by rw [hdl]; simp [eDb]
 have hqe : (au q).map V.d = [V.d (.int .i64 q.n),V.d (.pl (q.atoms.map aB)),V.d (.pl (q.out.map cI))]:=by simp [au]
 have hBC:=ka q bag
 rw [bcwV] at hBC
 refine VC.of E s19 Tryz.func19 fun B=>?_
 have hZ : ∃ y : VRel,[V.d (.sl none none []),V.d (.int .i64 0),V.d (.sl none none [])] = (bu y).map V.d /\ cH y = ovR none /\ lM y /\ Good (bu y) (km y) B:=
  ⟨⟨nilS,⟨0,nilS⟩⟩,by simp [bu,aA,cS,nilS],by simp [ovR,cH,aV,nilS,plS],⟨ch,trivial,ch⟩,pC B⟩
 obtain ⟨yz,hz1,hz2,hz3,hz4⟩:=hZ
 simp [Tryz.f19,hde,hqe]
 cases hqb : aw q && bagI q.n bag
 ·have hO : brO d q bag = none:=by
   rw [brO,if_neg]
   intro h
   simp only [Jq] at h
   have:=(uN h.1).qok
   simp [this,h.2] at hqb
  rw [hqb] at hBC
  simp only [Zv,if_false] at hBC
  refine ag hBC (by simp [hqe]) rfl fun hs1 hh1=>?_
  simp at hh1
  simp
  exact ⟨yz,⟨hz1,hO⟩,by rw [hO]; exact hz2,hz3,hz4⟩
 rw [hqb] at hBC
 simp only [if_true] at hBC
 refine ag hBC (by simp [hqe]) rfl fun hs1 hh1=>?_
 simp at hh1
 simp
 refine ag (mQ d q) (by simp [hde,hqe]) rfl fun hs2 hh2=>?_
 simp at hh2
 cases hqf : cf d q
 ·have hO : brO d q bag = none:=by rw [brO,hqf]; rfl
  simp
  exact ⟨yz,⟨hz1,hO⟩,by rw [hO]; exact hz2,hz3,hz4⟩
 have f:=uN hqf
 have ha4:=f.a4
 have hbg : bagI q.n bag = true:=by simp only [Jq] at hqb; exact hqb.2
 have hOe : brO d q bag = brT d q bag q.atoms.length:=by rw [brO,hqf,hbg]; rfl
 rw [hOe]
 simp
 rw [vp (k':=30) (ks:=[]) _ _ _ (by simp) (by simp)]
 intro γ hs3 h3 hg
 obtain ⟨q1,q2⟩:=bz hg (k:=30) (T:=3) (sz:=1) (es:=[]) (by simp)
 clear hg
 simp [vpre,vnext,veff,vval,aJ,St.frzs,St.frz,Vs.frz,hpLL,St.kill]
 have h3' : hs2 <= hs3:=h3
 refine aE (X:=Nat × VRel) (fun p _=>p.1 <= q.atoms.length /\ brT d q bag p.1 = some (cH p.2) /\ lM p.2 /\ Good (bu p.2) (km p.2) B) (fun p=>[(2,.d (.pl (bag.map cI))),(3,.ptr 3 0 0),(4,.ptr 4 0 0),(6,.ptr 6 0 0),(10,.ptr 10 0 0),(35,.d (.pl (q.atoms.map aB))),(36,.d (.int .i64 q.atoms.length)),(37,.d (.int .i64 p.1))])
  (fun p=>[(3,some (.box [.d (.pl (dl.map eTab))])),(4,some (.box [.d (.int .i64 q.n),.d (.pl (q.atoms.map aB)),.d (.pl (q.out.map cI))])),(6,some (.box [.d (.sl none none []),.d (.int .i64 0),.d (.sl none none [])])),(10,some (.box [.d (.sl p.2.vars.id p.2.vars.T (p.2.vars.xs.map cI)),.d (.int .i64 p.2.rel.ar),.d (.sl p.2.rel.rows.id p.2.rel.rows.T (p.2.rel.rows.xs.map (cS cI)))]))]) (fun p=>q.atoms.length - p.1) ?_ ?_
 ·refine (fD 31 (T:=28) (sz:=1) (es:=[[.sl (γ 30) (some (3,1)) []]]) (by simp)).bind ?_
  rintro _ ⟨γ2,hs4,h4,hg2,rfl⟩
  obtain ⟨p1,p2⟩:=bz hg2 (k:=31) (T:=28) (sz:=1) (es:=[[.sl (γ 30) (some (3,1)) []]]) (by simp)
  have p3:=ea hg2 (k:=31) (T:=28) (sz:=1) (es:=[[.sl (γ 30) (some (3,1)) []]]) (by simp)
  clear hg2
  have G1 : Good (cS cI (⟨γ 30,some (3,1),[]⟩ : Ints)) (whS whI ⟨γ 30,some (3,1),[]⟩) B:=eh (fun g hg=>(q1 g hg).1) (by simp)
  have G2 : Good (cS (cS cI) (⟨γ2 31,some (28,1),[⟨γ 30,some (3,1),[]⟩]⟩ : Sl Ints)) (whS (whS whI) ⟨γ2 31,some (28,1),[⟨γ 30,some (3,1),[]⟩]⟩) B:=
   df (fun g hg=>(p1 g hg).1) (by simpa using p2 (by simp)) (fun g hg=>by have:=p3 g hg; simpa [cS] using this) ⟨by have:=G1.nd; simpa [cS,idsLL] using this,by have:=G1.lo; simpa [cS,idsLL] using this⟩ (by simpa using G1.wh)
  have G:=Good.app (gw (c:=cI) (wh:=whI) B) (kF (ar:=0) G2 (Jv _)) (fun g h h'=>by simp [cS,nilS,idsL,D.ids,dSl,idsLL] at h)
  exact Lead.of ⟨(0,⟨nilS,⟨0,⟨γ2 31,some (28,1),[⟨γ 30,some (3,1),[]⟩]⟩⟩⟩),⟨by omega,by simp [oR,cH,aV,plS,nilS],⟨ch,trivial,by simp only [List.length_singleton,maxLen]; omega,by simp [okS]⟩,⟨G.nd,G.lo,G.wh⟩⟩,rfl,rfl,by simp <;> omega,by simp,by simp [Vs.frz,St.frz,nilS,cS]⟩
 rintro ⟨i,y⟩ hs t m ⟨hi,hT,ky,Gy⟩ hh
 simp only at hi hT ky Gy
 by_cases hlt : i < q.atoms.length
 ·have hwi:=wr1 (i:=i) (by omega)
  have hmem:=Jy hlt
  obtain ⟨⟨nm,vs⟩,ha⟩ : ∃ a,a = q.atoms[i]:=⟨_,rfl⟩
  have hsc:=oQ d q bag hlt
  rw [hT] at hsc
  rw [<- ha] at hmem hsc
  have hlk:=f.lk _ hmem
  have har:=f.ar _ hmem
  have hvl:=f.vlen _ hmem
  have hvi : ∀ v ∈ vs,0 <= v /\ v < 5:=fun v hv=>by have:=f.vin _ hmem v hv; have:=f.n5; omega
  have hcm:=iG (aS vs) bag (by have:=jf vs; omega)
  rw [show fA (aS vs) bag = comL (aS vs) bag from rfl] at hcm
  have hAR:=kV d ⟨nm,vs⟩ hlk har hvl.2 hvi
  have hPJ:=nA (abV d ⟨nm,vs⟩) bag (cC (oH vs)) (by have:=jf vs; simp only [abV]; omega)
  rw [show (⟨aS (⟨nm,vs⟩ : aH).vars,⟨(aS (⟨nm,vs⟩ : aH).vars).length,abR d ⟨nm,vs⟩⟩⟩ : aG) = abV d ⟨nm,vs⟩ from rfl] at hAR
  simp only [brS] at hsc
  obtain ⟨AB,hAB⟩ : ∃ x,x = abV d ⟨nm,vs⟩:=⟨_,rfl⟩
  obtain ⟨PJ,hPJd⟩ : ∃ x,x = pjV AB bag:=⟨_,rfl⟩
  obtain ⟨CM,hCM⟩ : ∃ x,x = comL (aS vs) bag:=⟨_,rfl⟩
  rw [<- hAB] at hAR hPJ hsc
  rw [<- hPJd] at hPJ hsc
  rw [<- hCM] at hcm hsc
  have hNJ:=gI (cH y) PJ
  obtain ⟨⟨vid,vT,vx⟩,⟨yar,⟨rid,rT,rx⟩⟩⟩:=y
  have rNJ:=fun m=>rE (yq m ⟨⟨vid,vT,vx⟩,⟨yar,⟨rid,rT,rx⟩⟩⟩) (rE (show rp m (.agg ((aX PJ).map V.d)) = some (.agg ((aX PJ).map V.d)) by simp [aX,ao,rp,rpL]) (show rpL m [] = some [] from rfl))
  simp only [KP] at rNJ
  have hqB:=fun (e : brT d q bag (i + 1) = none)=>AF e q.atoms.length (by omega)
  simp [hlt,<- ha,aB]
  refine aF (dv ⟨nm,vs⟩) (by simp [aB,cStr]) fun hs5 hh5 hl5=>?_
  simp at hh5
  simp
  refine aF hcm (by simp) fun hs6 hh6 hl6=>?_
  simp at hh6
  by_cases hC0 : CM = []
  ·rw [if_pos hC0] at hsc
   simp [hC0,hwi]
   exact bg (i + 1,⟨⟨vid,vT,vx⟩,⟨yar,⟨rid,rT,rx⟩⟩⟩) ⟨by simp only; omega,hsc,ky,Gy⟩ (by simp only; omega) rfl (by simp <;> omega) (by simp) (by simp [cS])
  rw [if_neg hC0] at hsc
  simp [hC0]
  repeat' apply And.intro
  all_goals
   refine aF hAR (by simp [hde,aB,cStr]) fun hs7 hh7 hl7=>?_
   simp at hh7
   simp [vD AB]
   try (repeat' apply And.intro)
   all_goals
    refine aF hPJ (by simp [vD AB]) fun hs8 hh8 hl8=>?_
    simp at hh8
    simp [vD PJ]
    try (repeat' apply And.intro)
    all_goals
     refine ij hNJ (by rw [<- vD PJ]; exact rNJ _) fun n9 hs9 r9 hn9 hm9 hp9 hl9=>?_
     obtain ⟨⟨⟨wid,wT,wx⟩,⟨war,⟨sid,sT,sx⟩⟩⟩,rfl,pw,kw,Gw⟩:=hp9
     simp at hn9
     cases hnb : njB (cH ⟨⟨vid,vT,vx⟩,⟨yar,⟨rid,rT,rx⟩⟩⟩) PJ
     ·rw [hnb] at hsc
      simp only [Zv,if_false] at hsc
      have hO:=hqB hsc
      simp [bu,aA,cS]
      simp only [hO]
      exact ⟨yz,by simpa [bu,aA,cS] using hz1,hz2,hz3,hz4⟩
     ·rw [hnb] at hsc
      simp only [if_true] at hsc
      simp [bu,aA,cS,hwi]
      exact bg (i + 1,⟨⟨wid,wT,wx⟩,⟨war,⟨sid,sT,sx⟩⟩⟩) ⟨by simp only; omega,by rw [pw]; exact hsc,kw,Gw.le (by omega)⟩ (by simp only; omega) rfl (by simp <;> omega) (by simp) (by simp [cS])
 ·have hn : i = q.atoms.length:=by omega
  subst hn
  rw [hT]
  simp
  exact ⟨y,by simp [bu,aA,cS],rfl,ky,Gy⟩
end
section
attribute [local simp] aR aC ax ay pS cP cI cStr
end
section
attribute [local simp] aR aC ax ay pS cP cI cStr dSl
end
section
attribute [local simp] aR aC ax ay pS cP cI cStr dSl
theorem fP (d : PDb) (q : ab) (x : PDec) (hb : x.par.length <= 4294967296) : VC Tryz.prog 8 [.agg ((eDb d).map V.d),.agg ((au q).map V.d),.agg ((eDec x).map V.d)]
  (fun n r=>∃ y : Sl VRel,r = .tup [.d (dSl bu y),.d (.bool (rlO d q x).isSome)] /\ plS cH y = ovL (rlO d q x) /\ okS lM y /\ Good (cS bu y) (whS km y) n /\ ∀ g,y.id = some g -> y.T = some (53,3)):=by
 obtain ⟨dl,hdl⟩ : ∃ dl,dl = d.tabs:=⟨_,rfl⟩
 have hde : (eDb d).map V.d = [V.d (.pl (dl.map eTab))]:=by rw [hdl]; simp [eDb]
 have hqe : (au q).map V.d = [V.d (.int .i64 q.n),V.d (.pl (q.atoms.map aB)),V.d (.pl (q.out.map cI))]:=by simp [au]
 have hVD:=gh q x hb
 have hBR:=fun b=>lF d q b
 simp only [hde,hqe,pS] at hBR
 obtain ⟨bs,ps⟩:=x
 have hxe : (eDec ⟨bs,ps⟩).map V.d = [V.d (.pl (bs.map (cP cI))),V.d (.pl (ps.map cI))]:=by simp [eDec]
 refine VC.of E sZ Tryz.func8 fun B=>?_
 simp [Tryz.f8,hde,hqe,hxe]
 refine ag hVD (by simp [hqe,hxe]) rfl fun hs1 hh1=>?_
 simp at hh1
 cases hdo : bH q ⟨bs,ps⟩
 ·have hO : rlO d q ⟨bs,ps⟩ = none:=by rw [rlO,hdo]; rfl
  simp [hO,ovL]
  exact ⟨nilS,by simp [nilS],by simp [nilS,plS],ch,gw B,by simp [nilS]⟩
 have hOe : rlO d q ⟨bs,ps⟩ = rlT d q bs bs.length:=by rw [rlO,hdo]; rfl
 have hbl : bs.length <= 4294967296:=by
  simp only [bH,Jq,Xj] at hdo
  have:=hdo.1.1.1.1.2
  simp only at this hb; omega
 rw [hOe]
 simp
 refine aE (X:=Nat × List VRel) (fun p h=>p.1 <= bs.length /\ rlT d q bs p.1 = some (p.2.map cH) /\ e8 bu km B h p.2 /\ ∀ y ∈ p.2,lM y) (fun p=>[(3,.ptr 3 0 0),(4,.ptr 4 0 0),(5,.ptr 5 0 0),(8,.own 90 0 p.2.length),(18,.d (.pl (bs.map (cP cI)))),(19,.d (.int .i64 bs.length)),(20,.d (.int .i64 p.1))])
  (fun p=>[(3,some (.box [.d (.pl (dl.map eTab))])),(4,some (.box [.d (.int .i64 q.n),.d (.pl (q.atoms.map aB)),.d (.pl (q.out.map cI))])),(5,some (.box [.d (.pl (bs.map (cP cI))),.d (.pl (ps.map cI))])),(90,some (.row 53 3 (p.2.map bu)))]) (fun p=>bs.length - p.1) ?_ ?_
 ·refine (bA 8 90 53 3 (by omega) (by omega) (by simp)).bind ?_
  rintro _ rfl
  exact Lead.of ⟨(0,[]),⟨by omega,by simp [pX],e8.nil,by simp⟩,rfl,rfl,Jv _,by simp,by simp⟩
 rintro ⟨i,ys⟩ hs t m ⟨hi,hT,hG,hk⟩ hh
 simp only at hi hT hG hk
 have hyl:=oA hi hT
 simp only [List.length_map] at hyl
 by_cases hlt : i < bs.length
 ·have hwi:=wr1 (i:=i) (by omega)
  have hsc:=jZ d q hlt
  rw [hT] at hsc
  have hqB:=fun (e : rlT d q bs (i + 1) = none)=>uS e bs.length (by omega)
  have hL : LenOk 56 (ys.length + 1):=⟨by omega,by simp only [maxLen]; omega⟩
  simp [hlt]
  refine bb (hBR bs[i]) (by simp [hde,hqe]) (by simp [hde,hqe]) fun n2 hs2 r2 hn2 hm2 hp2 hr2=>?_
  obtain ⟨⟨⟨vid,vT,vx⟩,⟨yar,⟨rid,rT,rx⟩⟩⟩,rfl,p2,k2,G2⟩:=hp2
  have hn2' : hs <= n2:=hn2
  have hr2' : ∀ g ∈ idsL (bu ⟨⟨vid,vT,vx⟩,⟨yar,⟨rid,rT,rx⟩⟩⟩),g < hs2:=fun g hg=>hr2 g (by simp only [V.ids,idsVL,mg,im,Qq] at hg ⊢; simp [hg])
  clear hr2
  cases hO : brO d q bs[i] with
  | none =>
    simp only [rlS,hO] at hsc
    have hN:=hqB hsc
    simp [bu,aA,cS]
    simp only [hN,ovL]
    exact ⟨nilS,by simp [nilS],by simp [nilS,plS],ch,gw B,by simp [nilS]⟩
  | some v =>
    simp only [rlS,hO] at hsc
    rw [hO] at p2
    simp only [ovR] at p2
    simp [bu,aA,cS,hwi,hL,Jj]
    exact bg (i + 1,ys ++ [⟨⟨vid,vT,vx⟩,⟨yar,⟨rid,rT,rx⟩⟩⟩]) ⟨by simp only; omega,by rw [hsc]; simp [p2],hG.snoc ⟨by omega,by omega⟩ (by omega) G2 (fun g hg=>by have:=hr2' g hg; simpa using this),fun y hy=>by
     rcases Qq.1 hy with h | h
     ·exact hk y h
     ·rw [Qg.1 h]; exact k2⟩ (by simp only; omega) rfl (by simp <;> omega) (by simp) (by simp [bu,aA,cS])
 ·have hn : i = bs.length:=by omega
  subst hn
  rw [hT]
  simp [ovL,Jj]
  intro γ hs' h1 hg
  obtain ⟨q1,q2⟩:=bz hg (k:=90) (T:=53) (sz:=3) (es:=ys.map bu) (by simp)
  have q3:=ea hg (k:=90) (T:=53) (sz:=3) (es:=ys.map bu) (by simp)
  clear hg
  exact ⟨⟨γ 90,some (53,3),ys⟩,⟨rfl,rfl,rfl⟩,rfl,⟨by simp only [maxLen]; omega,hk⟩,df (fun g hg=>(q1 g hg).1) (by simpa using q2) q3 ⟨hG.nd,hG.lo⟩ hG.wh,fun _ _=>rfl⟩
end
def rcL (l : List aG) : List Int:=l.map fun v=>(v.rel.rows.length : Int)
section
attribute [local simp] aR aC ax ay pS cP cI cStr dSl
theorem fS (d : PDb) (q : ab) (x : PDec) (hb : x.par.length <= 4294967296) : VC Tryz.prog 8 [.agg ((eDb d).map V.d),.agg ((au q).map V.d),.agg ((eDec x).map V.d)]
  (fun _ r=>r = .tup [.d (.pl ((ovL (rlO d q x)).map aX)),.d (.bool (rlO d q x).isSome)]):=
 VC.plain (fP d q x hb) (fun n r h=>by
  obtain ⟨y,rfl,hp,_,_⟩:=h
  have e:=iQ (c:=bu) (e:=aX) (pl:=cH) (fun s=>by simp [bu,aA,cS,aX,ao,cH,aV,plS,kB,nh]) y
  rw [hp] at e
  simp only [cS,cP,erL,List.cons.injEq,and_true] at e
  simp only [rp,rpL,e,Jg,D.er,pS]) (by simp [rd,rdL])
theorem kR (d : PDb) (q : ab) (x : PDec) (hb : x.par.length <= 4294967296) : VC Tryz.prog 9 [.agg ((eDb d).map V.d),.agg ((au q).map V.d),.agg ((eDec x).map V.d)]
  (fun n r=>∃ y : Ints,r = .tup [.d (dSl cI y),.d (.bool (rlO d q x).isSome)] /\ plS plI y = rcL (ovL (rlO d q x)) /\ okS okI y /\ Good (cS cI y) (whS whI y) n):=by
 have hde : (eDb d).map V.d = [V.d (.pl (d.tabs.map eTab))]:=by simp [eDb]
 have hqe : (au q).map V.d = [V.d (.int .i64 q.n),V.d (.pl (q.atoms.map aB)),V.d (.pl (q.out.map cI))]:=by simp [au]
 have hxe : (eDec x).map V.d = [V.d (.pl (x.bags.map (cP cI))),V.d (.pl (x.par.map cI))]:=by simp [eDec]
 have hBR:=fS d q x hb
 have hl4 : ∀ v ∈ ovL (rlO d q x),v.rel.rows.length <= 4000:=fun v hv=>by
  cases h : rlO d q x with
  | none=>rw [h] at hv; simp [ovL] at hv
  | some l=>rw [h] at hv; exact (ck (J9 h v hv)).nr
 have hll : (ovL (rlO d q x)).length <= 4294967296:=by
  cases h : rlO d q x with
  | none=>simp [ovL]
  | some l =>
    have h2:=(wF h)
    have h3:=h2.1
    simp only [bH,Jq,Xj] at h3
    simp only [ovL]; have:=h3.1.1.1.1.2; omega
 refine VC.of E sZ Tryz.func9 fun B=>?_
 simp [Tryz.f9,hde,hqe,hxe]
 refine aF hBR (by simp [hde,hqe,hxe]) fun hs1 hh1 hl1=>?_
 simp at hh1
 cases hO : rlO d q x with
 | none =>
   simp [ovL,rcL]
   exact ⟨nilS,by simp [nilS],by simp [nilS,plS],ch,gw B⟩
 | some l=>
 rw [hO] at hl4 hll
 simp only [ovL] at hl4 hll
 simp [ovL]
 refine aE (X:=Nat) (fun i _=>i <= l.length) (fun i=>[(10,.own 90 0 i),(22,.d (.pl (l.map aX))),(23,.d (.int .i64 l.length)),(24,.d (.int .i64 i))])
  (fun i=>[(90,some (.row 3 1 ((rcL (l.take i)).map cI)))]) (fun i=>l.length - i) ?_ ?_
 ·refine (bA 10 90 3 1 (by omega) (by omega) (by simp)).bind ?_
  rintro _ rfl
  exact Lead.of ⟨0,by omega,rfl,rfl,Jv _,by simp,by simp [rcL]⟩
 intro i hs t m hi hh
 by_cases hlt : i < l.length
 ·have hwi:=wr1 (i:=i) (by omega)
  have hL : LenOk 8 (i + 1):=⟨by omega,by simp only [maxLen]; omega⟩
  have hr4:=hl4 _ (Jy hlt)
  obtain ⟨v,hv⟩ : ∃ v,v = l[i]:=⟨_,rfl⟩
  have hst' : rcL (l.take (i + 1)) = rcL (l.take i) ++ [(v.rel.rows.length : Int)]:=by
   rw [rcL,rcL,Jz hlt,Zj,<- hv]; rfl
  have hcl : (rcL (l.take i)).length = i:=by rw [rcL,List.length_map,Zq]; omega
  obtain ⟨C,hC⟩ : ∃ C,C = rcL (l.take i):=⟨_,rfl⟩
  rw [<- hC] at hst' hcl ⊢
  rw [<- hv] at hr4
  refine dx fun Q=>?_
  simp [hlt,<- hv,aX,ao,hwi,hL,hcl,Jj]
  exact bg (i + 1) (by omega) (by omega) rfl (by simp <;> omega) (by simp) (by simp [hst'])
 ·have hn : i = l.length:=by omega
  subst hn
  rw [List.take_length]
  have hcl : (rcL l).length = l.length:=by simp [rcL]
  obtain ⟨C,hC⟩ : ∃ C,C = rcL l:=⟨_,rfl⟩
  rw [<- hC] at hcl ⊢
  simp [hcl,Jj]
  intro γ hs' h1 hg
  obtain ⟨q1,q2⟩:=bz hg (k:=90) (T:=3) (sz:=1) (es:=C.map cI) (by simp)
  clear hg
  exact ⟨⟨γ 90,some (3,1),C⟩,⟨rfl,rfl,rfl⟩,by simp [plS],⟨by simp only [maxLen]; omega,fun _ _=>trivial⟩,eh (fun g hg=>(q1 g hg).1) (by simpa using q2)⟩
end
section
attribute [local simp] aR aC ax ay pS cP cI cStr
theorem og (a b : aG) : VC Tryz.prog 32 [.agg ((aX a).map V.d),.agg ((aX b).map V.d)] (fun _ r=>r = .tup [.agg ((aX (smP a b)).map V.d),.d (.bool (smB a b))]):=by
 have hVa:=bV a
 have hVb:=bV b
 have hae : (aX a).map V.d = [V.d (.pl (a.vars.map cI)),V.d (.int .i64 a.rel.ar),V.d (.pl (a.rel.rows.map (cP cI)))]:=by simp [aX,ao]
 have hbe : (aX b).map V.d = [V.d (.pl (b.vars.map cI)),V.d (.int .i64 b.rel.ar),V.d (.pl (b.rel.rows.map (cP cI)))]:=by simp [aX,ao]
 refine VC.ofL EP s32 Tryz.func32 fun B hl=>?_
 clear hl
 simp [Tryz.f32,hae,hbe]
 refine ag hVa (by simp [hae]) rfl fun hs1 hh1=>?_
 simp at hh1
 cases ha : vrOk a
 ·have hB : smB a b = false:=by simp [smB,ha]
  simp [smP,hB,aX,ao]
 simp
 refine ag hVb (by simp [hbe]) rfl fun hs2 hh2=>?_
 simp at hh2
 cases hb : vrOk b
 ·have hB : smB a b = false:=by simp [smB,hb]
  simp [smP,hB,aX,ao]
 have hB : smB a b = true:=by simp [smB,ha,hb]
 have fa:=ck ha
 have fb:=ck hb
 have hu:=gg (b:=b) fa
 have hu5:=qd fa fb
 have rb4:=fb.nr
 have ra4:=fa.nr
 have ha5:=fa.len
 have hb5:=fb.len
 have far:=fa.rl
 have fbr:=fb.rl
 have hun:=sA a.vars b.vars (by omega)
 obtain ⟨U,hU⟩ : ∃ U,U = uniL a.vars b.vars:=⟨_,rfl⟩
 rw [<- hU] at hu5 hun
 simp only [<- hU] at hu
 have hsR : ∀ r,semR a b r = b.rel.rows.any (fun s=>glB U a.vars r b.vars s):=fun r=>by rw [semR,hU]
 obtain ⟨A,⟨ra,R⟩⟩:=a
 obtain ⟨Bv,⟨rb,L⟩⟩:=b
 simp only at *
 obtain ⟨sB,hsB⟩ : ∃ s,s = semR ⟨A,⟨ra,R⟩⟩ ⟨Bv,⟨rb,L⟩⟩:=⟨_,rfl⟩
 rw [smP,if_pos hB,hB]
 simp only [<- hsB] at hsR ⊢
 simp
 repeat' apply And.intro
 all_goals
  refine aF (fO A (by omega)) (by simp) fun hs3 hh3 hl3=>?_
  simp at hh3
  simp
  refine aF hun (by simp) fun hs4 hh4 hl4=>?_
  simp at hh4
  simp
  refine aE (X:=Nat) (fun i _=>i <= R.length) (fun i=>[(2,.ptr 2 0 0),(3,.ptr 3 0 0),(4,.ptr 4 0 0),(6,.ptr 6 0 0),(7,.d (.pl (U.map cI))),(38,.d (.pl (R.map (cP cI)))),(39,.d (.int .i64 R.length)),(40,.d (.int .i64 i))])
   (fun i=>[(2,some (.box [.d (.pl (A.map cI)),.d (.int .i64 ra),.d (.pl (R.map (cP cI)))])),(3,some (.box [.d (.pl (Bv.map cI)),.d (.int .i64 rb),.d (.pl (L.map (cP cI)))])),(4,some (.box [.d (.sl none none []),.d (.int .i64 0),.d (.sl none none [])])),(6,some (.box [.d (.pl (A.map cI)),.d (.int .i64 ra),.own 901 0 ((R.take i).filter sB).length])),(901,some (.row 28 1 (((R.take i).filter sB).map (cP cI))))]) (fun i=>R.length - i) ?_ ?_
  ·refine (cz 6 2 901 28 1 [.d (.pl (A.map cI)),.d (.int .i64 ra),.d (.sl none none [])] (by omega) (by omega) (by omega) (by simp) rfl).bind ?_
   rintro _ rfl
   exact Lead.of ⟨0,by omega,rfl,rfl,Jv _,by simp,by simp⟩
  intro i hs t m hi hh
  by_cases hlt : i < R.length
  ·have hwi:=wr1 (i:=i) (by omega)
   have hst:=Bl (p:=sB) hlt
   have hfl:=Xy sB (R.take i)
   rw [Zq] at hfl
   have hrm:=Jy hlt
   obtain ⟨r,hr⟩ : ∃ r,r = R[i]:=⟨_,rfl⟩
   rw [<- hr] at hst hrm
   obtain ⟨F,hF⟩ : ∃ F,F = (R.take i).filter sB:=⟨_,rfl⟩
   rw [<- hF] at hst hfl ⊢
   have hL : LenOk 24 (F.length + 1):=⟨by omega,by simp only [maxLen]; omega⟩
   have hrl:=(far r hrm).1
   refine dx fun Q=>?_
   simp [hlt,<- hr]
   refine ae (X:=Nat) (fun j=>j <= L.length /\ bP (fun s=>!(glB U A r Bv s)) L j) (fun j=>[(2,.ptr 2 0 0),(3,.ptr 3 0 0),(4,.ptr 4 0 0),(6,.ptr 6 0 0),(7,.d (.pl (U.map cI))),(9,.d (.pl (r.map cI))),(38,.d (.pl (R.map (cP cI)))),(39,.d (.int .i64 R.length)),(40,.d (.int .i64 i)),(46,.d (.pl (L.map (cP cI)))),(47,.d (.int .i64 L.length)),(48,.d (.int .i64 j))])
    (fun j=>[(2,some (.box [.d (.pl (A.map cI)),.d (.int .i64 ra),.d (.pl (R.map (cP cI)))])),(3,some (.box [.d (.pl (Bv.map cI)),.d (.int .i64 rb),.d (.pl (L.map (cP cI)))])),(4,some (.box [.d (.sl none none []),.d (.int .i64 0),.d (.sl none none [])])),(6,some (.box [.d (.pl (A.map cI)),.d (.int .i64 ra),.own 901 0 F.length])),(901,some (.row 28 1 (F.map (cP cI))))]) (fun j=>L.length - j) 0 ⟨by omega,aQ⟩ (by simp) (by simp) ?_
   rintro j hs5 t m ⟨hj,hal⟩ hh5
   have hh5' : hs <= hs5:=hh5
   by_cases hjl : j < L.length
   ·have hwj:=wr1 (i:=j) (by omega)
    have hsl:=(fbr _ (Jy hjl)).1
    obtain ⟨s,hs'⟩ : ∃ s,s = L[j]:=⟨_,rfl⟩
    rw [<- hs'] at hsl
    simp [hjl,<- hs']
    refine aF (n8 U A r Bv s (by omega) (fun v hv=>(hu v).1 hv) hrl hsl) (by simp) fun hs6 hh6 hl6=>?_
    simp at hh6
    cases hg : glB U A r Bv s
    ·simp [hwj]
     exact back (j + 1) ⟨by omega,aM hal hjl (by rw [<- hs',hg]; rfl)⟩ (by omega) rfl (by simp <;> omega) (by simp) (by simp)
    ·have hs2 : sB r = true:=by rw [hsR,List.any_eq_true]; exact ⟨s,by rw [hs']; exact Jy _,hg⟩
     rw [hs2] at hst
     simp only [if_true] at hst
     simp
     try (repeat' apply And.intro)
     all_goals
      refine aF (fO r (by omega)) (by simp) fun hs7 hh7 hl7=>?_
      simp at hh7
      simp [hwi,hL,Jj]
      try (repeat' apply And.intro)
      all_goals exact bg (i + 1) (by omega) (by omega) rfl (by simp <;> omega) (by simp [hst]) (by simp [hst])
   ·have hs2 : sB r = false:=by
     rw [hsR,List.any_eq_false]
     intro s hs
     have:=Jk.1 (aP hal (by omega)) s hs
     simpa using this
    rw [hs2] at hst
    simp at hst
    have hjn : j = L.length:=by omega
    subst hjn
    simp [hwi]
    exact bg (i + 1) (by omega) (by omega) rfl (by simp <;> omega) (by simp [hst]) (by simp [hst])
  ·have hn : i = R.length:=by omega
   subst hn
   rw [List.take_length]
   simp [aX,ao,Jj]
end
section
attribute [local simp] aR aC ax ay pS cP cI cStr
theorem fU (ps : List Int) : VC Tryz.prog 35 [.agg [.d (pS cI ps)]] (fun _ r=>r = .d (.int .i64 (dM ps))):=by
 refine VC.ofL EP sZ Tryz.func35 fun B hl=>?_
 simp [maxLen] at hl
 simp [Tryz.f35]
 refine ae (X:=Nat × Int) (ie ps) (fun p=>[(3,.d (.int .i64 p.2)),(7,.d (.pl (ps.map cI))),(8,.d (.int .i64 ps.length)),(9,.d (.int .i64 p.1))]) (fun _=>[]) (fun p=>ps.length - p.1) (0,-1) .zero (by simp) (by simp) ?_
 rintro ⟨i,o⟩ hs t m hI hh
 have hle:=hI.le
 simp only at hle
 by_cases hlt : i < ps.length
 ·have hwi:=wr1 (i:=i) (by omega)
  by_cases h1 : ps[i] = -1
  ·by_cases h2 : 0 <= o
   ·simp [hlt,h1,h2,hI.two h2 hlt h1]
   ·simp [hlt,h1,h2,hwi]
    exact back (i + 1,(i : Int)) (hI.put (by omega) hlt h1) (by simp only; omega) rfl (by simp <;> omega) (by simp) (by simp)
  ·simp [hlt,h1,hwi]
   exact back (i + 1,o) (hI.skip hlt h1) (by simp only; omega) rfl (by simp <;> omega) (by simp) (by simp)
 ·simp [hlt,hI.done (by omega)]
theorem cY (ps : List Int) (k : Nat) (hb : ps.length <= 4294967296) : VC Tryz.prog 31 [.agg [.d (pS cI ps)],.d (.int .i64 k)] (fun _ r=>r = .d (pS cI (cN (kidN ps k)))):=by
 refine VC.ofL EP sZ Tryz.func31 fun B hl=>?_
 clear hl
 simp [Tryz.f31]
 refine aE (X:=Nat) (fun i _=>i <= ps.length) (fun i=>[(1,.d (.int .i64 k)),(5,.own 90 0 (cN (kidT ps k i)).length),(9,.d (.pl (ps.map cI))),(10,.d (.int .i64 ps.length)),(11,.d (.int .i64 i))])
  (fun i=>[(90,some (.row 3 1 ((cN (kidT ps k i)).map cI)))]) (fun i=>ps.length - i) ?_ ?_
 ·refine (bA 5 90 3 1 (by omega) (by omega) (by simp)).bind ?_
  rintro _ rfl
  exact Lead.of ⟨0,by omega,rfl,rfl,Jv _,by simp [kidT,cN],by simp [kidT,cN]⟩
 intro i hs t m hi hh
 by_cases hlt : i < ps.length
 ·have hwi:=wr1 (i:=i) (by omega)
  have hst:=zB (k:=k) hlt
  have hln:=uj ps k i
  rw [<- jI] at hln
  have hcs : cN (kidT ps k (i + 1)) = cN (kidT ps k i) ++ if ps[i] = (k : Int) then [(i : Int)] else []:=by
   rw [hst,AM]; by_cases e : ps[i] = (k : Int) <;> simp [e,cN]
  obtain ⟨C,hC⟩ : ∃ C,C = cN (kidT ps k i):=⟨_,rfl⟩
  rw [<- hC] at hcs hln ⊢
  have hL : LenOk 8 (C.length + 1):=⟨by omega,by simp only [maxLen]; omega⟩
  refine dx fun Q=>?_
  by_cases e : ps[i] = (k : Int)
  ·rw [if_pos e] at hcs
   simp [hlt,e,hwi,hL,Jj]
   exact bg (i + 1) (by omega) (by omega) rfl (by simp <;> omega) (by simp [hcs]) (by simp [hcs])
  ·rw [if_neg e,List.append_nil] at hcs
   simp [hlt,e,hwi]
   exact bg (i + 1) (by omega) (by omega) rfl (by simp <;> omega) (by simp [hcs]) (by simp [hcs])
 ·have hn : i = ps.length:=by omega
  subst hn
  have e : kidT ps k ps.length = kidN ps k:=rfl
  rw [e]
  simp [Jj]
theorem qk (ps : List Int) (rt : Nat) (T : dK ps rt) (hrt : dM ps = (rt : Int)) (hb : ps.length <= 4294967296) : VC Tryz.prog 30 [.agg [.d (pS cI ps)]]
  (fun _ r=>∃ (out : List Nat) (k : Nat),BfsI ps rt out k /\ out.length <= k /\ r = .d (pS cI (cN out.reverse))):=by
 have hR:=fU ps
 rw [hrt] at hR
 refine VC.ofL EP s30 Tryz.func30 fun B hl=>?_
 clear hl
 simp [Tryz.f30]
 refine ag hR (by simp) rfl fun hs1 hh1=>?_
 simp at hh1
 simp
 refine ae (X:=Nat × List Nat) (fun p=>BfsI ps rt p.2 p.1) (fun p=>[(1,.ptr 1 0 0),(3,.own 9 0 (cN p.2).length),(4,.d (.int .i64 p.1))])
  (fun p=>[(1,some (.box [.d (.pl (ps.map cI))])),(9,some (.row 3 1 ((cN p.2).map cI)))]) (fun p=>ps.length - p.1) (0,[rt]) T.bfs_zero (by simp [cN]) (by simp [cN]) ?_
 rintro ⟨k,out⟩ hs t m hI hh
 simp only at hI
 have hol:=T.bfs_len hI
 have hkl:=hI.le
 have hcl:=jI out
 by_cases hlt : k < out.length
 ·have hwi:=wr1 (i:=k) (by omega)
  have hs2:=T.bfs_step hI hlt
  have hol2:=T.bfs_len hs2
  have hkids:=pE ps out[k]
  have hCN:=cY ps out[k] hb
  have hck : (cN out)[k]'(by omega) = (out[k] : Int):=by simp [cN]
  have hkc : k < (cN out).length:=by omega
  obtain ⟨C,hC⟩ : ∃ C,C = cN out:=⟨_,rfl⟩
  obtain ⟨K,hK⟩ : ∃ K,K = cN (kidN ps out[k]):=⟨_,rfl⟩
  have hap : cN (out ++ kidN ps out[k]) = C ++ K:=by rw [AM,hC,hK]
  have hKl : K.length = (kidN ps out[k]).length:=by rw [hK,jI]
  have hL : LenOk 8 (C.length + K.length):=⟨by rw [hC,hKl,jI]; simp only [Qw] at hol2; omega,by rw [hC,hKl,jI]; simp only [Qw] at hol2; simp only [maxLen]; omega⟩
  rw [<- hK] at hCN
  simp only [<- hC] at hck hkc hcl ⊢
  have hlt' : k < C.length:=hkc
  simp [hlt',hck]
  try (repeat' apply And.intro)
  all_goals
   refine aF hCN (by simp) fun hs3 hh3 hl3=>?_
   simp at hh3
   simp [hlt',hck,hwi,hL,Jj]
   exact back (k + 1,out ++ kidN ps out[k]) hs2 (by simp only; omega) rfl (by simp <;> omega) (by simp [hap]) (by simp [hap])
 ·have hn1:=hI.eq
  have hpos : 0 < out.length:=by rw [hn1]; simp
  obtain ⟨C,hC⟩ : ∃ C,C = cN out:=⟨_,rfl⟩
  have hrev : C.reverse = cN out.reverse:=by rw [hC,cN,cN,List.map_reverse]
  have hfin : ∀ r,r = V.d (.pl (C.reverse.map cI)) -> ∃ (out : List Nat) (k : Nat),BfsI ps rt out k /\ out.length <= k /\ r = .d (pS cI (cN out.reverse)):=fun r hr=>⟨out,k,hI,by omega,by rw [hr,hrev]; simp⟩
  have hlt' : ¬ k < C.length:=by rw [hC]; omega
  have hCl : C.length = out.length:=by rw [hC]; exact hcl
  simp only [<- hC]
  have hw1 : IntKind.i64.wrap ((C.length : Int) - 1) = ((C.length - 1 : Nat) : Int):=by rw [aj (by omega) (by omega)]; omega
  simp [hlt',hw1]
  refine ae (X:=Nat) (fun s=>2 * s <= C.length) (fun s=>[(3,.own 9 0 C.length),(5,.d (.int .i64 s)),(6,.d (.int .i64 ((C.length : Int) - 1 - s)))])
   (fun s=>[(9,some (.row 3 1 ((rvL C s).map cI)))]) (fun s=>C.length - s) 0 (by omega) (by simp; omega) (by simp [C2]) ?_
  intro s hs3 t m hs2 hh3
  have hrl:=jq C s
  by_cases hsl : s < C.length - 1 - s
  ·have hst:=C0 hsl
   have hws:=wr1 (i:=s) (by omega)
   obtain ⟨j,hj⟩ : ∃ j,j = C.length - 1 - s:=⟨_,rfl⟩
   have hji : (C.length : Int) - 1 - s = (j : Int):=by omega
   have hwj : IntKind.i64.wrap ((j : Int) - 1) = (C.length : Int) - 1 - ((s + 1 : Nat) : Int):=by rw [aj (by omega) (by omega)]; omega
   rw [<- hj] at hst
   obtain ⟨R,hR⟩ : ∃ R,R = rvL C s:=⟨_,rfl⟩
   rw [<- hR] at hst hrl ⊢
   have hsR : s < R.length:=by omega
   have hjR : j < R.length:=by omega
   have hsj : s < j:=by omega
   have hjC : j < C.length:=by omega
   have hsC : s < C.length:=by omega
   rw [ak _ hsR,ak _ hjR] at hst
   rw [hji]
   simp [hsj,hsR,hjR,hsC,hjC,hws,hwj,hrl,-List.map_set]
   have hje : ((R.map cI).set s [D.int .i64 R[j]])[j]'(by simp; omega) = [D.int .i64 R[j]]:=by rw [List.getElem_set_ne (by omega)]; simp
   have hfs : ((R.map cI).set s [D.int .i64 R[j]]).set j [D.int .i64 R[s]] = (rvL C (s + 1)).map cI:=by rw [<- hst]; simp
   try (repeat' apply And.intro)
   ·rw [hje]; simp
   ·refine back (s + 1) (by omega) (by omega) rfl (by simp <;> omega) (by simp; try omega) ?_
    simp [hje,hfs]
    try simp [<- hfs]
  ·have hd:=CZ hsl
   have hc : ¬ (s : Int) < (C.length : Int) - 1 - s:=by omega
   have hrC : C.reverse.length = C.length:=by simp
   rw [hd]
   simp [hc,Jj]
   exact ⟨out,k,hI,by omega,by rw [<- hrev,List.map_reverse]⟩
end
section
attribute [local simp] aR aC ax ay pS cP cI cStr
theorem ze (v : VRel) : erL (bu v) = aX (cH v):=by
 simp [bu,aA,cS,aX,ao,cH,aV,plS,kB,nh,D.er,dSl,erL]
end
section
attribute [local simp] aR aC ax ay pS cP cI cStr
theorem lN (a b : aG) : VC Tryz.prog 33 [.agg ((aX a).map V.d),.agg ((aX b).map V.d)] (fun _ r=>r = .tup [.agg ((aX (njP a b)).map V.d),.d (.bool (njB a b))]):=
 VC.plain (gI a b) (fun n v h=>by
  obtain ⟨y,rfl,hp,_,_⟩:=h
  have:=yq (fun _=>none) y
  rw [hp] at this
  simp only [rp,rpL] at this ⊢
  rw [this]; rfl) (by simp [aX,ao,rd,rdL])
theorem fk (d : PDb) (q : ab) (x : PDec) (hb : x.par.length <= 4294967296) : VC Tryz.prog 7 [.agg ((eDb d).map V.d),.agg ((au q).map V.d),.agg ((eDec x).map V.d)]
  (fun n r=>∃ y : Reln,r = .tup [.agg ((aA y).map V.d),.d (.bool (evB d q x))] /\ aV y = evP d q x /\ eL y /\ Good (aA y) (fq y) n):=by
 have hde : (eDb d).map V.d = [V.d (.pl (d.tabs.map eTab))]:=by simp [eDb]
 have hqe : (au q).map V.d = [V.d (.int .i64 q.n),V.d (.pl (q.atoms.map aB)),V.d (.pl (q.out.map cI))]:=by simp [au]
 have hBR:=fP d q x hb
 obtain ⟨bs,ps⟩:=x
 have hxe : (eDec ⟨bs,ps⟩).map V.d = [V.d (.pl (bs.map (cP cI))),V.d (.pl (ps.map cI))]:=by simp [eDec]
 refine VC.of E s7 Tryz.func7 fun B=>?_
 simp [Tryz.f7,hde,hqe,hxe]
 cases hO : rlO d q ⟨bs,ps⟩ with
 | none =>
   rw [hO] at hBR
   have hE : evL d q ⟨bs,ps⟩ = none:=by rw [evL,hO]
   refine ij hBR (by simp [hde,hqe,hxe]) fun n1 hs1 r1 hn1 hm1 hp1 hl1=>?_
   obtain ⟨y,rfl,_⟩:=hp1
   simp [evB,hE,ao,dSl]
   exact ⟨⟨0,nilS⟩,by simp [aA,cS,cI,nilS,dSl],by simp [evP,hE,aV,nilS,plS],⟨trivial,ch⟩,fl B⟩
 | some L0=>
 have hdl:=wF hO
 obtain ⟨T,hbp,hrS⟩:=pe hdl.1
 simp only at T hbp hrS hb
 obtain ⟨rt,hrt⟩ : ∃ rt,rt = rtN ps:=⟨_,rfl⟩
 have hL0l : L0.length = ps.length:=by rw [hdl.2]; exact hbp
 rw [<- hrt] at T hrS
 have hR:=fU ps
 rw [hrS] at hR
 have hUp:=qk ps rt T hrS hb
 have hEq:=Bf hO
 simp only at hEq
 rw [show ordP ps = preF (kidN ps) (ps.length + 2) rt by rw [ordP,hrt]] at hEq
 have hrt0:=T.hr
 have hne0 : L0 ≠ []:=fun e=>by rw [e] at hL0l; simp at hL0l; omega
 have hrk : rkN ps rt <= ps.length + 2:=by rw [rkN]; omega
 rw [hO] at hBR
 simp only [ovL] at hBR
 have hout : q.out.length <= 4294967296:=by
  have hq : aw q = true:=by have:=hdl.1; simp only [bH,Jq] at this; exact this.1.1.1.1.1
  have hn:=bq hq
  simp only [aw,Jq] at hq
  have:=p8 hq.1.1.2 hn.1 hn.2
  omega
 refine D9 hBR (by simp [hde,hqe,hxe]) fun r1 n1 hs1 hn1 hm1 hp1=>?_
 obtain ⟨⟨yid,yT,ys⟩,rfl,hy,ky,Gy,hTy⟩:=hp1
 have hn1' : B <= n1:=hn1
 simp only [plS] at hy hTy
 have hyne : ys ≠ []:=fun e=>hne0 (by rw [<- hy,e]; rfl)
 obtain ⟨g,rfl⟩ : ∃ g,yid = some g:=by
  cases hq : yid with
  | none=>have:=Gy.wh.1.nil hq; exact absurd this hyne
  | some g=>exact ⟨g,rfl⟩
 obtain rfl:=hTy g rfl
 have hyl : ys.length = ps.length:=by rw [<- hL0l,<- hy]; simp
 have her : erLL (ys.map bu) = L0.map aX:=by rw [bW ze,hy]
 have hgd : n1 <= g /\ g ∉ idsLL (ys.map bu):=by
  refine ⟨Gy.lo g (by rw [bc]; simp [dSl,D.ids]),fun h=>?_⟩
  have:=Gy.nd
  rw [bc] at this
  simp only [dSl,D.ids,Option.toList_some,List.singleton_append,List.nodup_cons] at this
  exact this.1 h
 refine .inl ⟨g,53,3,ys.map bu,true,rfl,hgd.1,hgd.2,?_⟩
 simp
 refine ij hUp (by simp) fun n2 hs2 r2 hn2 hm2 hp2 hl2=>?_
 obtain ⟨out,kk,hBI,hkk,rfl⟩:=hp2
 simp at hn2
 obtain ⟨O,hOd⟩ : ∃ O,O = out.reverse:=⟨_,rfl⟩
 have hO1:=T.run_eq f1 hL0l hBI hkk hrk
 have hO : ∀ i ∈ O,i < ps.length:=fun i hi=>hBI.lt i (by rw [hOd] at hi; simpa using hi)
 have hol:=T.bfs_len hBI
 obtain ⟨OL,hOL⟩ : ∃ l,l = cN O:=⟨_,rfl⟩
 have hOl : OL.length = O.length:=by rw [hOL,jI]
 have hOn : O.length <= ps.length:=by rw [hOd]; simpa using hol
 have hOg : ∀ i (h : i < O.length) (h2 : i < OL.length),OL[i] = (O[i] : Int):=fun i h h2=>by simp [hOL,cN]
 rw [<- hOd] at hO1
 rw [<- hO1] at hEq
 rw [<- hOd,<- hOL]
 have hl3 : ∀ v,(aX v).length = 3:=fun v=>by simp [aX,ao]
 simp
 refine aE (X:=Nat × List aG) (fun p _=>p.1 <= O.length /\ twB f1 (kidN ps) (O.take p.1) L0 = some p.2) (fun p=>[(4,.ptr 4 0 0),(6,.ptr 6 0 0),(8,.own 26 0 ps.length),(10,.ptr 10 0 0),(11,.d (.pl (OL.map cI))),(37,.d (.pl (OL.map cI))),(38,.d (.int .i64 OL.length)),(39,.d (.int .i64 p.1))]) (fun p=>[(4,some (.box [.d (.int .i64 q.n),.d (.pl (q.atoms.map aB)),.d (.pl (q.out.map cI))])),(6,some (.box [.d (.int .i64 0),.d (.sl none none [])])),(10,some (.box [.d (.pl (ps.map cI))])),(26,some (.row 53 3 (p.2.map aX)))]) (fun p=>O.length - p.1) ?_ ?_
 ·refine (zD 26 (T:=53) (sz:=3) (es:=ys.map bu) (by simp)).bind ?_
  rintro _ rfl
  exact Lead.of ⟨(0,L0),⟨by omega,rfl⟩,rfl,rfl,Jv _,by simp [hyl],by simp [her]⟩
 rintro ⟨i,L⟩ hs4 t m ⟨hi,hT⟩ hh4
 simp only at hi hT
 have hLl:=sR hT
 rw [hL0l] at hLl
 by_cases hlt : i < O.length
 ·have hwi:=wr1 (i:=i) (by omega)
  have hpo:=hO _ (Jy hlt)
  have hgo : OL[i]'(by omega) = (O[i] : Int):=hOg i hlt (by omega)
  have hiO : i < OL.length:=by omega
  obtain ⟨p,hpd⟩ : ∃ p,p = O[i]:=⟨_,rfl⟩
  have hCN:=cY ps p hb
  have hst:=u7 hlt hT
  have hnn:=fun (e : twB f1 (kidN ps) (O.take (i + 1)) L0 = none)=>u6 e
  simp only [<- hpd] at hpo hgo hst
  obtain ⟨K,hK⟩ : ∃ K,K = kidN ps p:=⟨_,rfl⟩
  have hkid : ∀ c ∈ K,c < ps.length:=fun c hc=>by rw [hK] at hc; exact (dy.1 hc).1
  have hKn:=pE ps p
  rw [<- hK] at hCN hst hKn
  obtain ⟨KL,hKL⟩ : ∃ l,l = cN K:=⟨_,rfl⟩
  have hKl : KL.length = K.length:=by rw [hKL,jI]
  have hKg : ∀ j (h : j < K.length) (h2 : j < KL.length),KL[j] = (K[j] : Int):=fun j h h2=>by simp [hKL,cN]
  rw [<- hKL] at hCN
  simp [hiO,hgo]
  refine aF hCN (by simp) fun hs6 hh6 hl6=>?_
  simp at hh6
  simp
  refine ae (X:=Nat × List aG) (fun r=>r.1 <= K.length /\ twK f1 p (K.take r.1) L = some r.2) (fun r=>[(4,.ptr 4 0 0),(6,.ptr 6 0 0),(8,.own 26 0 ps.length),(10,.ptr 10 0 0),(11,.d (.pl (OL.map cI))),(37,.d (.pl (OL.map cI))),(38,.d (.int .i64 OL.length)),(39,.d (.int .i64 i)),(13,.d (.int .i64 p)),(45,.d (.pl (KL.map cI))),(46,.d (.int .i64 KL.length)),(47,.d (.int .i64 r.1))]) (fun r=>[(4,some (.box [.d (.int .i64 q.n),.d (.pl (q.atoms.map aB)),.d (.pl (q.out.map cI))])),(6,some (.box [.d (.int .i64 0),.d (.sl none none [])])),(10,some (.box [.d (.pl (ps.map cI))])),(26,some (.row 53 3 (r.2.map aX)))]) (fun r=>K.length - r.1) (0,L) ⟨by omega,rfl⟩ (by simp) (by simp) ?_
  rintro ⟨j,N⟩ hs7 t m ⟨hj,hTK⟩ hh7
  simp only at hj hTK
  have hh7' : hs6 <= hs7:=hh7
  have hNl:=oE hTK
  rw [hLl] at hNl
  have hpN : p < N.length:=by omega
  by_cases hjl : j < K.length
  ·have hwj:=wr1 (i:=j) (by omega)
   have hck:=hkid _ (Jy hjl)
   have hgk : KL[j]'(by omega) = (K[j] : Int):=hKg j hjl (by omega)
   have hjK : j < KL.length:=by omega
   have hstk:=vb hjl hTK
   have hnk:=fun (e : twK f1 p (K.take (j + 1)) L = none)=>u9 e
   obtain ⟨c,hcd⟩ : ∃ c,c = K[j]:=⟨_,rfl⟩
   simp only [<- hcd] at hck hgk hstk
   have hcN : c < N.length:=by omega
   rw [dR hpN,dR hcN] at hstk
   have hSJ:=og N[p] N[c]
   simp only [f1,Jg] at hstk
   obtain ⟨SV,hSV⟩ : ∃ v,v = smP N[p] N[c]:=⟨_,rfl⟩
   rw [<- hSV] at hstk hSJ
   simp [hjK,hgk,hpo,hck,hNl,hpN,hcN,hl3]
   try (repeat' apply And.intro)
   all_goals
    refine aF hSJ (by simp [aX,ao]) fun hs8 hh8 hl8=>?_
    simp at hh8
    simp [hjK,hgk,hpo,hck,hNl,hpN,hcN,hl3,hwj,aX,ao,-List.map_set]
    try (repeat' apply And.intro)
    all_goals exact back (j + 1,N.set p SV) ⟨by simp only; omega,hstk⟩ (by simp only; omega) rfl (by simp <;> omega) (by simp) (by simp [aX,ao])
  have hjn : j = K.length:=by omega
  subst hjn
  rw [List.take_length] at hTK
  rw [hTK] at hst
  simp [hKl,hwi]
  exact bg (i + 1,N) ⟨by simp only; omega,hst⟩ (by simp only; omega) rfl (by simp <;> omega) (by simp) (by simp)
 have hin : i = O.length:=by omega
 subst hin
 rw [List.take_length] at hT
 rw [hT,Option.bind_some] at hEq
 have hO2:=T.run_eq f2 hLl hBI hkk hrk
 rw [<- hOd] at hO2
 rw [<- hO2] at hEq
 simp [hOl]
 refine ae (X:=Nat × List aG) (fun p=>p.1 <= O.length /\ twB f2 (kidN ps) (O.take p.1) L = some p.2) (fun p=>[(4,.ptr 4 0 0),(6,.ptr 6 0 0),(8,.own 26 0 ps.length),(10,.ptr 10 0 0),(11,.d (.pl (OL.map cI))),(68,.d (.pl (OL.map cI))),(69,.d (.int .i64 OL.length)),(70,.d (.int .i64 p.1))]) (fun p=>[(4,some (.box [.d (.int .i64 q.n),.d (.pl (q.atoms.map aB)),.d (.pl (q.out.map cI))])),(6,some (.box [.d (.int .i64 0),.d (.sl none none [])])),(10,some (.box [.d (.pl (ps.map cI))])),(26,some (.row 53 3 (p.2.map aX)))]) (fun p=>O.length - p.1) (0,L) ⟨by omega,rfl⟩ (by simp [hOl]) (by simp) ?_
 rintro ⟨i,M⟩ hs5 t m ⟨hi,hT2⟩ hh5
 simp only at hi hT2
 have hMl:=sR hT2
 rw [hLl] at hMl
 by_cases hlt : i < O.length
 ·have hwi:=wr1 (i:=i) (by omega)
  have hpo:=hO _ (Jy hlt)
  have hgo : OL[i]'(by omega) = (O[i] : Int):=hOg i hlt (by omega)
  have hiO : i < OL.length:=by omega
  obtain ⟨p,hpd⟩ : ∃ p,p = O[i]:=⟨_,rfl⟩
  have hCN:=cY ps p hb
  have hst:=u7 hlt hT2
  have hnn:=fun (e : twB f2 (kidN ps) (O.take (i + 1)) L = none)=>u6 e
  simp only [<- hpd] at hpo hgo hst
  obtain ⟨K,hK⟩ : ∃ K,K = kidN ps p:=⟨_,rfl⟩
  have hkid : ∀ c ∈ K,c < ps.length:=fun c hc=>by rw [hK] at hc; exact (dy.1 hc).1
  have hKn:=pE ps p
  rw [<- hK] at hCN hst hKn
  obtain ⟨KL,hKL⟩ : ∃ l,l = cN K:=⟨_,rfl⟩
  have hKl : KL.length = K.length:=by rw [hKL,jI]
  have hKg : ∀ j (h : j < K.length) (h2 : j < KL.length),KL[j] = (K[j] : Int):=fun j h h2=>by simp [hKL,cN]
  rw [<- hKL] at hCN
  simp [hiO,hgo]
  refine aF hCN (by simp) fun hs6 hh6 hl6=>?_
  simp at hh6
  simp
  refine ae (X:=Nat × List aG) (fun r=>r.1 <= K.length /\ twK f2 p (K.take r.1) M = some r.2) (fun r=>[(4,.ptr 4 0 0),(6,.ptr 6 0 0),(8,.own 26 0 ps.length),(10,.ptr 10 0 0),(11,.d (.pl (OL.map cI))),(68,.d (.pl (OL.map cI))),(69,.d (.int .i64 OL.length)),(70,.d (.int .i64 i)),(17,.d (.int .i64 p)),(76,.d (.pl (KL.map cI))),(77,.d (.int .i64 KL.length)),(78,.d (.int .i64 r.1))]) (fun r=>[(4,some (.box [.d (.int .i64 q.n),.d (.pl (q.atoms.map aB)),.d (.pl (q.out.map cI))])),(6,some (.box [.d (.int .i64 0),.d (.sl none none [])])),(10,some (.box [.d (.pl (ps.map cI))])),(26,some (.row 53 3 (r.2.map aX)))]) (fun r=>K.length - r.1) (0,M) ⟨by omega,rfl⟩ (by simp) (by simp) ?_
  rintro ⟨j,N⟩ hs7 t m ⟨hj,hTK⟩ hh7
  simp only at hj hTK
  have hh7' : hs6 <= hs7:=hh7
  have hNl:=oE hTK
  rw [hMl] at hNl
  have hpN : p < N.length:=by omega
  by_cases hjl : j < K.length
  ·have hwj:=wr1 (i:=j) (by omega)
   have hck:=hkid _ (Jy hjl)
   have hgk : KL[j]'(by omega) = (K[j] : Int):=hKg j hjl (by omega)
   have hjK : j < KL.length:=by omega
   have hstk:=vb hjl hTK
   have hnk:=fun (e : twK f2 p (K.take (j + 1)) M = none)=>u9 e
   obtain ⟨c,hcd⟩ : ∃ c,c = K[j]:=⟨_,rfl⟩
   simp only [<- hcd] at hck hgk hstk
   have hcN : c < N.length:=by omega
   rw [dR hpN,dR hcN] at hstk
   have hNJ:=lN N[p] N[c]
   simp [hjK,hgk,hpo,hck,hNl,hpN,hcN,hl3]
   try (repeat' apply And.intro)
   all_goals
    refine aF hNJ (by simp [aX,ao]) fun hs8 hh8 hl8=>?_
    simp at hh8
    cases hnb : njB N[p] N[c]
    ·simp only [f2,hnb,Zv,if_false,Option.map_none] at hstk
     rw [hnk hstk] at hst
     have hE:=hnn hst
     rw [hE] at hEq
     simp [evB,hEq,ao,aX]
     exact ⟨⟨0,nilS⟩,by simp [aA,cS,cI,nilS,dSl],by simp [evP,hEq,aV,nilS,plS],⟨trivial,ch⟩,fl B⟩
    ·simp only [f2,hnb,if_true,Jg] at hstk
     obtain ⟨SV,hSV⟩ : ∃ v,v = njP N[p] N[c]:=⟨_,rfl⟩
     rw [<- hSV] at hstk ⊢
     simp [hjK,hgk,hpo,hck,hNl,hpN,hcN,hl3,hwj,aX,ao,-List.map_set]
     try (repeat' apply And.intro)
     all_goals exact back (j + 1,N.set p SV) ⟨by simp only; omega,hstk⟩ (by simp only; omega) rfl (by simp <;> omega) (by simp) (by simp [aX,ao])
  have hjn : j = K.length:=by omega
  subst hjn
  rw [List.take_length] at hTK
  rw [hTK] at hst
  simp [hKl,hwi]
  exact back (i + 1,N) ⟨by simp only; omega,hst⟩ (by simp only; omega) rfl (by simp <;> omega) (by simp) (by simp)
 ·have hin : i = O.length:=by omega
  subst hin
  rw [List.take_length] at hT2
  rw [hT2] at hEq
  have hrM : rt < M.length:=by omega
  have hPr:=jO M[rt].rel q.out hout
  have hP1 : evP d q ⟨bs,ps⟩ = prP M[rt].rel q.out:=by rw [evP,hEq]; simp only [<- hrt,dR hrM]
  have hP2 : evB d q ⟨bs,ps⟩ = prB M[rt].rel q.out:=by rw [evB,hEq]; simp only [<- hrt,dR hrM]
  rw [hP1,hP2]
  simp [hOl]
  try (repeat' apply And.intro)
  all_goals
   refine ag hR (by simp) rfl fun hs6 hh6=>?_
   simp at hh6
   simp [hMl,hrM,hrt0,hl3,aX,ao]
   try (repeat' apply And.intro)
   all_goals
    refine ij hPr (by simp [ao]) fun n7 hs7 r7 hn7 hm7 hp7 hl7=>?_
    obtain ⟨⟨ya,⟨yid,yT,yx⟩⟩,rfl,py,ky',Gy'⟩:=hp7
    simp at hn7
    simp [aA,cS]
    exact ⟨⟨ya,⟨yid,yT,yx⟩⟩,by simp [aA,cS],py,ky',Gy'.le (by omega)⟩
end
section
attribute [local simp] aR aC ax ay pS cP cI cW dSl
theorem zd (l : List Atom) : erLL (l.map aU) = (l.map cr).map aB:=bW jR l
theorem Bc (l : List Ints) : erLL (l.map (cS cI)) = (l.map (plS plI)).map (cP cI):=bW (iQ eE) l
theorem pv (l : List Int) : erLL (l.map cI) = (l.map plI).map cI:=bW eE l
theorem Be (l : List Tab) : erLL (l.map cTab) = (l.map mw).map eTab:=bW El l
theorem E9 (m : Nat -> Option Blk) (v : dQ) : rp m (.agg ((az v).map V.d)) = some (.agg ((au (aO v)).map V.d)):=by
 simp [az,cS,au,aO,plS,zd,pv,rp,rpL]
theorem E8 (m : Nat -> Option Blk) (v : Dec) : rp m (.agg ((cDec v).map V.d)) = some (.agg ((eDec (fG v)).map V.d)):=by
 simp [cDec,cS,eDec,fG,plS,Bc,pv,rp,rpL]
theorem HZ (m : Nat -> Option Blk) (v : Db) : rp m (.agg ((cDb v).map V.d)) = some (.agg ((eDb (plDb v)).map V.d)):=by
 simp [cDb,cS,eDb,plDb,plS,Be,rp,rpL]
theorem xDbJ (d : PDb) : (eDb d).map V.d = [.d (.pl (d.tabs.map eTab))]:=by simp [eDb]
theorem cd (q : ab) : (au q).map V.d = [.d (.int .i64 q.n),.d (.pl (q.atoms.map aB)),.d (.pl (q.out.map cI))]:=by simp [au]
theorem et (d : PDec) : (eDec d).map V.d = [.d (.pl (d.bags.map (cP cI))),.d (.pl (d.par.map cI))]:=by simp [eDec]
theorem c9 (r : bE) : (ao r).map V.d = [.d (.int .i64 r.ar),.d (.pl (r.rows.map (cP cI)))]:=by simp [ao]
theorem wW (b : Sl Int) : VC Tryz.prog 5 [.d (dSl cW b)] (fun _ r=>r = .d (.bool (decide (1048576 < (b.xs.length : Int))))):=by
 refine VC.of E sZ Tryz.func5 fun B=>?_
 simp [Tryz.f5]
structure DjP (v : V) : Prop where
 ex : ∃ (d : PDb) (q : ab) (x : PDec),v = .tup [.agg ((eDb d).map V.d),.agg ((au q).map V.d),.agg ((eDec x).map V.d)] /\ ((∀ t ∈ d.tabs,t.name.length <= maxLen) /\ ∀ nm,dmW (lkR d nm)) /\ (∀ a ∈ q.atoms,a.rel.length <= maxLen) /\ QA q /\ x.par.length <= 5
theorem Hz {d : Db} (h : bdD d) (nm : List UInt8) : dmW (lkR (plDb d) nm):=by
 have h0 : dmW ⟨0,[]⟩:=⟨by simp,by simp⟩
 rw [lkR,lkT]
 split
 ·cases e : (plDb d).tabs.find? fun t=>t.name == nm with
  | none=>exact h0
  | some t =>
    have hm:=List.mem_of_find?_eq_some e
    simp only [plDb,plS] at hm
    obtain ⟨u,hu,rfl⟩:=Xz.1 hm
    have hb:=(h.2 u hu).2.2
    refine ⟨by simpa [mw,aV,plS] using hb.1,fun t ht v hv=>?_⟩
    simp only [Jg,Option.getD_some,mw,aV,plS] at ht
    obtain ⟨r,hr,rfl⟩:=Xz.1 ht
    simp only [plS,ax] at hv
    exact hb.2 r hr v hv
 ·exact h0
theorem ed (b : Sl Int) (hb : b.xs.length <= 1048576) : VC Tryz.prog 6 [.d (dSl cW b)] (fun _ v=>DjP v):=
 VC.plainE (eg b hb) fun n r hr=>by
  obtain ⟨d,q,x,rfl,⟨h1,h2⟩,h3,h4,h5⟩:=hr.ex
  refine ⟨.tup [.agg ((eDb (plDb d)).map V.d),.agg ((au (aO q)).map V.d),.agg ((eDec (fG x)).map V.d)],?_,?_,⟨⟨_,_,_,rfl,⟨zJ h2,Hz h1⟩,mr h3,h4,by simpa [fG,plS] using h5⟩⟩⟩
  ·simp only [rp,rpL]
   have e1:=HZ (fun _=>none) d
   have e2:=E9 (fun _=>none) q
   have e3:=E8 (fun _=>none) x
   simp only [rp] at e1 e2 e3
   simp [e1,e2,e3]
  ·simp [xDbJ,cd,et,rd,rdL]
theorem fo (d : PDb) (q : ab) (x : PDec) (hb : x.par.length <= 4294967296) : VC Tryz.prog 7 [.agg ((eDb d).map V.d),.agg ((au q).map V.d),.agg ((eDec x).map V.d)]
  (fun _ r=>r = .tup [.agg ((ao (evP d q x)).map V.d),.d (.bool (evB d q x))]):=
 VC.plain2 (c:=aA) (e:=ao) (pl:=aV) tU (fk d q x hb)
theorem kS (d : PDb) (q : ab) (x : PDec) (hb : x.par.length <= 4294967296) : VC Tryz.prog 9 [.agg ((eDb d).map V.d),.agg ((au q).map V.d),.agg ((eDec x).map V.d)]
  (fun _ r=>r = .tup [.d (.pl ((rcL (ovL (rlO d q x))).map cI)),.d (.bool (rlO d q x).isSome)]):=
 VC.plain (kR d q x hb) (fun n r h=>by
  obtain ⟨y,rfl,hp,_,_⟩:=h
  simp only [plS,ax] at hp
  simp [rp,rpL,D.er,pv,hp]) (by simp [rd,rdL])
theorem g9 (b : Sl Int) : VC Tryz.prog 3 [.d (dSl cW b)] (fun _ r=>r = .d (.bool true)):=by
 refine VC.ofL EP s3 Tryz.func3 fun B hl=>?_
 clear hl
 simp [Tryz.f3]
 refine fi (wW b) rfl (by simp) rfl fun hz zz=>?_
 by_cases hb : (1048576 : Int) < b.xs.length
 ·simp [hb]
 simp [hb]
 refine bb (ed b (by omega)) rfl (by simp) fun n1 hs1 r1 hn1 hm1 hp1 hr1=>?_
 obtain ⟨d,q,x,rfl,⟨hst,hdm⟩,hsq,hqa,hx5⟩:=hp1.ex
 have rA : ∀ m,rpL m [.agg ((eDb d).map V.d),.agg ((au q).map V.d),.agg ((eDec x).map V.d)] = some [.agg ((eDb d).map V.d),.agg ((au q).map V.d),.agg ((eDec x).map V.d)]:=fun m=>by simp [xDbJ,cd,et,rpL,rp,D.er]
 have rQ : ∀ m,rpL m [.agg ((eDb d).map V.d),.agg ((au q).map V.d)] = some [.agg ((eDb d).map V.d),.agg ((au q).map V.d)]:=fun m=>by simp [xDbJ,cd,rpL,rp,D.er]
 have rX : ∀ m,rpL m [.agg ((au q).map V.d),.agg ((eDec x).map V.d)] = some [.agg ((au q).map V.d),.agg ((eDec x).map V.d)]:=fun m=>by simp [et,cd,rpL,rp,D.er]
 have hx4 : x.par.length <= 4294967296:=by omega
 have hEv:=fo d q x hx4
 have hBR:=fS d q x hx4
 have hRC:=kS d q x hx4
 have hIQ:=e6 d q hst hsq
 have hVD:=gi q x hsq hx4
 simp only [xDbJ,cd,et] at rA rQ rX
 by_cases hc : (cf d q && bH q x) = true
 case neg=>
  have hc : (cf d q && bH q x) = false:=by simpa using hc
  obtain ⟨n1,n2⟩:=E6 hc
  rw [n1] at hBR hRC
  rw [n2] at hEv
  simp [xDbJ,cd,et]
  refine aF hEv (rA _) fun hs2 hh2 hl2=>?_
  simp at hh2
  simp [xDbJ,cd,et,c9]
  refine aF hBR (rA _) fun hs3 hh3 hl3=>?_
  simp at hh3
  simp [xDbJ,cd,et,c9]
  refine aF hRC (rA _) fun hs4 hh4 hl4=>?_
  simp at hh4
  simp [xDbJ,cd,et,c9]
  refine ag hIQ (rQ _) rfl fun hs5 hh5=>?_
  cases hq : cf d q with
  | false=>simp [xDbJ,cd,et,c9]
  | true =>
    have hd : bH q x = false:=by simpa [hq] using hc
    rw [hd] at hVD
    simp [xDbJ,cd,et,c9]
    refine ag hVD (rX _) rfl fun hs6 hh6=>?_
    simp [xDbJ,cd,et,c9]
 simp only [Jq] at hc
 obtain ⟨hq,hd⟩:=hc
 have hf:=uN hq
 obtain ⟨L,F⟩:=A5 (x:=x) ⟨hf,hqa.sm hf.qok,hdm⟩ hd
 rw [F.rl] at hBR hRC
 rw [F.ev] at hEv
 rw [F.evp] at hEv
 rw [hq] at hIQ
 rw [hd] at hVD
 simp only [ovL] at hBR hRC
 simp [xDbJ,cd,et]
 refine aF hEv (rA _) fun hs2 hh2 hl2=>?_
 simp at hh2
 simp [xDbJ,cd,et,c9]
 refine aF hBR (rA _) fun hs3 hh3 hl3=>?_
 simp at hh3
 simp [xDbJ,cd,et,c9]
 refine aF hRC (rA _) fun hs4 hh4 hl4=>?_
 simp at hh4
 simp [xDbJ,cd,et,c9]
 refine ag hIQ (rQ _) rfl fun hs5 hh5=>?_
 simp [xDbJ,cd,et,c9]
 refine ag hVD (rX _) rfl fun hs6 hh6=>?_
 simp [xDbJ,cd,et,c9]
 have hEQ:=ke d q hst hsq hf.out5 F.bd
 have hAB:=hY d q hst hsq
 rw [Gh] at hAB
 rw [F.pr] at hEQ
 obtain ⟨R,hR⟩ : ∃ R,R = bdP d q:=⟨_,rfl⟩
 have hPr:=fun c h=>kh R c h
 have hbag:=F.bag
 rw [<- hR] at hEQ hAB hbag
 obtain ⟨O,hO⟩ : ∃ O,O = prP R q.out:=⟨_,rfl⟩
 rw [<- hR,<- hO]
 rw [<- hO] at hEQ
 have hER:=jF O O
 have hll : L.length = x.bags.length:=F.len
 have hrl : (rcL L).length = L.length:=by simp [rcL]
 have h5 : x.bags.length <= 5:=by rw [F.par]; exact hx5
 refine aF hEQ (rQ _) fun hs7 hh7 hl7=>?_
 simp at hh7
 simp [xDbJ,cd,et,c9]
 refine aF hAB (rQ _) fun hs8 hh8 hl8=>?_
 simp at hh8
 simp [xDbJ,cd,et,c9]
 refine ag hER (by simp [c9]) rfl fun hs9 hh9=>?_
 simp [hll,hrl,xDbJ,cd,et,c9]
 refine ae (X:=Nat) (fun i=>i <= L.length) (fun i=>[(5,.ptr 5 0 0),(8,.d (.pl (L.map aX))),(10,.d (.pl ((rcL L).map cI))),(14,.ptr 14 0 0),(15,.d (.int .i64 i))]) (fun _=>[(5,some (.box [.d (.pl (x.bags.map (cP cI))),.d (.pl (x.par.map cI))])),(14,some (.box [.d (.int .i64 R.ar),.d (.pl (R.rows.map (cP cI)))]))]) (fun i=>L.length - i) 0 (by simp) (by simp) (by simp) ?_
 intro i hs t m hi hh
 by_cases hlt : i < L.length
 ·have hwi:=wr1 (i:=i) (by omega)
  have hlb : i < x.bags.length:=by omega
  have hlr : i < (rcL L).length:=by omega
  obtain ⟨b1,b2⟩:=hbag i hlt hlb
  refine anyQ fun Q=>?_
  simp [hlt,hlb,hlr]
  have hbl : x.bags[i].length <= 4294967296:=by
   have hd':=(A3 hf hd).bag i (by have:=F.par; omega)
   rw [ak _ hlb] at hd'
   have:=(ji hf.n5 hd')
   have:=mz this.1 fun y hy=>by have:=this.2 y hy; have:=hf.n5; omega
   omega
  have hP:=hPr x.bags[i] hbl
  obtain ⟨P0,hP0⟩ : ∃ P,P = prP R x.bags[i]:=⟨_,rfl⟩
  rw [<- hP0] at hP b2
  have hD:=mS P0 L[i].rel
  have hS:=oo L[i].vars x.bags[i]
  rw [b1] at hS
  obtain ⟨D0,hD0⟩ : ∃ D0,D0 = difR P0 L[i].rel:=⟨_,rfl⟩
  rw [<- hD0] at hD b2
  have hrc : (rcL L)[i] = (L[i].rel.rows.length : Int):=by simp [rcL]
  repeat' apply And.intro
  all_goals
   refine aF hP (by simp [c9]) fun hsa hha hla=>?_
   simp at hha
   simp [hlt,hlb,hlr,aX,ao,c9]
   repeat' apply And.intro
   all_goals
    refine aF hD (by simp [ao,c9]) fun hsb hhb hlb2=>?_
    simp at hhb
    simp [hlt,hlb,hlr,b1,aX,ao,c9]
    refine ag hS (by simp [b1]) rfl fun hsc hhc=>?_
    simp at hhc
    simp [hlt,hlb,hlr,b1,b2,hrc,hwi,aX,ao,c9]
    exact back (i + 1) (by omega) (by omega) rfl (by simp <;> omega) (by simp) (by simp)
 ·simp [hlt]
end
end Go.Proofs.YtgjfmjiildjelaaGreatDoor
