/-
  EV1A3: a part of a proof of this seat: the value-level semantics of Go code without maps, its walk rules, the frame of a row, facts of types, schedules, walks, plain lemmas (Vs22 Vs23 Vt1 Vt2 Vt3 Ty Vt4 Vt5 Vt6 Vt7 Vt8 Vg Pl3 Pl4 Pl5 Pl6 Vs24 Vs25). It holds of every program and state that its hypotheses name.
-/
import Derived.Test.YtglilmkmkdkedaaGreatDoorEV1A2
set_option linter.unusedSimpArgs false
set_option linter.unusedVariables false
set_option linter.unnecessarySimpa false
namespace Go.Vs
open Go.RowKit
section
variable {P : Program} {E : Md} {A0 : Env} [GlobC A0 P] {N : Nat} {w0 : World} {ρ : Nat -> Option (Nat × Nat)} {σ : St} {a : Act} {w : World}
omit [GlobC A0 P] in
theorem res_run (h : Rel A0 N w0 ρ σ a w) (rv : ResultVar) (hr : resOk P σ rv) :
  ∃ val,((match rv with | .tmp t=>Pure.pure (a.tmps.getD t undef) | .cell c t=>do loadVar t (<- asAddr (a.tmps.getD c undef)) : Sem Value)).run P w = .ok val w /\ VR ρ σ.m (Sof A0 σ.B ρ σ.m w) w (resV P σ rv) val:=by
 cases rv with
 | tmp t=>exact ⟨_,by simp [Sem.run_pure,Act.eval],h.tmps t⟩
 | cell c T =>
   simp only [resOk] at hr
   obtain ⟨val,hrun,hv⟩:=load_run (w':=w) h Ext.refl T (h.tmps c) hr.1 hr.2.1 hr.2.2.1 hr.2.2.2
   obtain ⟨ad,ha,hl⟩:=hrun w Ext.refl
   refine ⟨val,?_,hv⟩
   simp only [Act.eval] at ha
   simp only
   rw [Sem.run_bind,ha]
   simp [asAddr,Sem.run_pure,Result.andThen,hl]
omit [GlobC A0 P] in
theorem res_list (h : Rel A0 N w0 ρ σ a w) : ∀ (rs : List ResultVar),(∀ r ∈ rs,resOk P σ r) ->
  ∃ vals,(rs.mapM fun rv=>(match rv with | .tmp t=>Pure.pure (a.tmps.getD t undef) | .cell c t=>do loadVar t (<- asAddr (a.tmps.getD c undef)) : Sem Value)).run P w = .ok vals w /\ LR ρ σ.m (Sof A0 σ.B ρ σ.m w) w (rs.map (resV P σ)) vals
 | [],_=>⟨[],by simp [Sem.run_pure],by simp [LR]⟩
 | r :: rs, hr => by
   obtain ⟨v,h1,h2⟩:=res_run h r (hr r (by simp))
   obtain ⟨vs,h3,h4⟩:=res_list h rs fun r hr'=>hr r (by simp [hr'])
   refine ⟨v :: vs,?_,by simp only [List.map_cons,LR]; exact ⟨h2,h4⟩⟩
   rw [List.mapM_cons,Sem.run_bind,h1]
   simp only [Result.andThen]
   rw [Sem.run_bind,h3]
   simp [Sem.run_pure,Result.andThen]
omit [GlobC A0 P] in
theorem results_run (h : Rel A0 N w0 ρ σ a w) (fn : Func) (hr : ∀ r ∈ fn.results.toList,resOk P σ r) :
  ∃ val,(results fn a.tmps).run P w = .ok val w /\ VR ρ σ.m (Sof A0 σ.B ρ σ.m w) w (oneV (fn.results.toList.map (resV P σ))) val:=by
 obtain ⟨vals,h1,h2⟩:=res_list h fn.results.toList hr
 have hrun : (results fn a.tmps).run P w = .ok (if h : vals.toArray.size = 1 then vals.toArray[0] else .tuple vals.toArray) w:=by
  unfold results
  rw [Array.mapM_eq_mapM_toList]
  simp only [Sem.run_bind,map_eq_pure_bind,bind_assoc,pure_bind]
  erw [h1]
  simp [Sem.run_pure,Result.andThen]
 refine ⟨_,hrun,?_⟩
 match hl : fn.results.toList.map (resV P σ),vals,h2 with
 | [],[],_=>simp only [oneV,VR]; exact ⟨[],by simp,by simp [LR]⟩
 | [v],[u],h2=>simp only [LR] at h2; simpa [oneV] using h2.1
 | v1 :: v2 :: r,u1 :: u2 :: s,h2=>simp only [oneV,VR]; exact ⟨u1 :: u2 :: s,by simp,h2⟩
 | [],_ :: _,h2=>simp [LR] at h2
 | [_],[],h2=>simp [LR] at h2
 | _ :: _ :: _,[],h2=>simp [LR] at h2
 | [_],_ :: _ :: _,h2=>simp [LR] at h2
 | _ :: _ :: _,[_],h2=>simp [LR] at h2
omit [GlobC A0 P] in
theorem vend_sound (h : Rel A0 N w0 ρ σ a w) (fn : Func) {post : Nat -> V -> Prop} (hv : vend P E fn.results.toList post σ) :
  a.defers = [] /\ ∃ v,(results fn a.tmps).run P w = .ok v w /\ ∃ r,Bel A0.G w0.heap.size w0 w /\ VR (fun _=>none) (fun _=>none) (fun g=>(A0.A g \/ w0.heap.size <= g) /\ g < w.heap.size) w r v /\
   rd (fun _=>none) (fun _=>none) r = some r /\ post w0.heap.size r:=by
 obtain ⟨hok,hv⟩:=hv
 obtain ⟨val,hrun,hV⟩:=results_run h fn hok
 refine ⟨h.defers,val,hrun,?_⟩
 split at hv
 ·obtain ⟨r,hr,hpost⟩:=hv
  rw [h.hB] at hpost
  refine ⟨r,h.below,VR.mono (fun g hg=>?_) (fun _ _=>rfl) (fun k=>KC.refl k) _ _ (rp_VR h _ _ _ hV hr),rp_rd _ _ hr,hpost⟩
  have:=hg.noBox h
  rw [h.hB] at this
  exact ⟨this.1,this.2.1⟩
 have main : ∃ r,rd (fun k=>(ρ k).map (·.1)) σ.m (oneV (fn.results.toList.map (resV P σ))) = some r /\ post σ.B r:=by
  split at hv
  ·rename_i hk
   obtain ⟨h1,h2⟩:=hv
   rw [rd_keys _ (fun k=>(ρ k).map (·.1)) _ _ hk] at h1
   exact ⟨_,h1,h2⟩
  ·exact hv _ _ h.hs h.gam
 obtain ⟨r,hr,hpost⟩:=main
 rw [h.hB] at hpost
 refine ⟨r,h.below,VR.mono (fun g hg=>?_) (fun _ _=>rfl) (fun k=>KC.refl k) _ _ (rd_VR h _ _ _ hV hr),rd_fz _ _ hr,hpost⟩
 rw [h.hB] at hg
 exact ⟨hg.1,hg.2.1⟩
theorem dsV_DR (h : Rel A0 N w0 ρ σ a w) (i : Nat) : ∀ d ∈ dsV (σ.t i),∃ v',DR (Sof A0 σ.B ρ σ.m w) w d v':=by
 intro d hd
 have hv:=h.tmps i
 generalize σ.t i = x at *
 cases x with
 | d y =>
   simp only [dsV,List.mem_singleton] at hd
   subst hd
   simp only [VR] at hv
   exact ⟨_,hv⟩
 | agg cs =>
   simp only [dsV,List.mem_map,List.mem_filter] at hd
   obtain ⟨c,⟨hc,hdc⟩,rfl⟩:=hd
   simp only [VR] at hv
   obtain ⟨l,_,hl⟩:=hv
   obtain ⟨n,hn⟩:=List.mem_iff_getElem?.1 hc
   obtain ⟨v,_,hcv⟩:=hl.get n c hn
   cases c with
   | d y=>simp only [VR] at hcv; exact ⟨_,hcv⟩
   | _=>simp [isD] at hdc
 | _=>simp [dsV] at hd
omit [GlobC A0 P] in
theorem vendX_sound (h : Rel A0 N w0 ρ σ a w) (fn : Func) {post : Nat -> V -> List V -> List D -> Prop} {W : List Nat} {bx : Bool} {gb : Nat} (hkey : bx = true -> ρ 1000 = some (gb,0)) (hv : vendX P E fn.results.toList post W bx σ) :
  a.defers = [] /\ ∃ v,(results fn a.tmps).run P w = .ok v w /\ ∃ r cs' ws,Bel A0.G w0.heap.size w0 w /\ VR (fun _=>none) (fun _=>none) (fun g=>(A0.A g \/ w0.heap.size <= g) /\ g < w.heap.size /\ ¬ (bx = true /\ g = gb)) w r v /\
   rd (fun _=>none) (fun _=>none) r = some r /\
   (bx = true -> ∃ cur T,w.heap[gb]? = some (.cells cur T (0,0)) /\ LR (fun _=>none) (fun _=>none) (fun g=>(A0.A g \/ w0.heap.size <= g) /\ g < w.heap.size /\ ¬ (bx = true /\ g = gb)) w cs' cur.toList /\ rdL (fun _=>none) (fun _=>none) cs' = some cs') /\
   (∀ d ∈ ws,∃ v',DR (fun g=>(A0.A g \/ w0.heap.size <= g) /\ g < w.heap.size /\ ¬ (bx = true /\ g = gb)) w d v') /\ post w0.heap.size r cs' ws:=by
 obtain ⟨hok,hbx,hv⟩:=hv
 obtain ⟨val,hrun,hV⟩:=results_run h fn hok
 refine ⟨h.defers,val,hrun,?_⟩
 have hbox : bx = true -> ∃ cs0,σ.m 1000 = some (.box cs0):=fun hb=>by
  have:=hbx hb
  cases hm : σ.m 1000 with
  | none=>rw [hm] at this; cases this
  | some b =>
    cases b with
    | box cs0=>exact ⟨cs0,rfl⟩
    | row _ _ _=>rw [hm] at this; cases this
 rw [<- h.hB]
 have conv : ∀ g,NoBox ρ σ.m g -> ¬ (bx = true /\ g = gb):=fun g hg hh=>by
  obtain ⟨cs0,hcs0⟩:=hbox hh.1
  exact hg 1000 cs0 _ hcs0 (hkey hh.1) hh.2.symm
 split at hv
 ·obtain ⟨r,cs',hr,hcs,hpost⟩:=hv
  refine ⟨r,cs',[],by rw [h.hB]; exact h.below,VR.mono (fun g hg=>by have:=hg.noBox h; exact ⟨this.1,this.2.1,conv g this.2.2⟩) (fun _ _=>rfl) (fun k=>KC.refl k) _ _ (rp_VR h _ _ _ hV hr),rp_rd _ _ hr,fun hb=>?_,(by simp),hpost⟩
  obtain ⟨cs0,hcs0⟩:=hbox hb
  have hmem:=h.mem 1000 _ hcs0
  obtain ⟨g,cap,hρ,_,cur,T,hcur,hl⟩:=hmem
  rw [hkey hb] at hρ
  cases hρ
  simp only [hb,if_true,hcs0,getC] at hcs
  rcases hcs with hcs | ⟨rfl,hcs⟩
  ·exact ⟨cur,T,hcur,LR.mono (fun g hg=>by have:=hg.noBox h; exact ⟨this.1,this.2.1,conv g this.2.2⟩) (fun _ _=>rfl) (fun k=>KC.refl k) _ _ (rpL_LR h _ _ _ hl hcs),rpL_rd _ _ hcs⟩
  ·exact ⟨cur,T,hcur,LR.mono (fun g hg=>⟨hg.1,hg.2.1,conv g fun k cs p hk hp=>hg.2.2 k _ hk p hp⟩) (fun _ _=>rfl) (fun k=>KC.refl k) _ _ (LR.zf _ _ hcs hl),rdL_fz _ _ hcs⟩
 obtain ⟨is,hv⟩:=hv
 obtain ⟨r,cs',hr,hcs,hpost⟩:=hv _ _ h.hs h.gam
 refine ⟨r,cs',_,by rw [h.hB]; exact h.below,VR.mono (fun g hg=>⟨hg.1,hg.2.1,conv g hg.2.2⟩) (fun _ _=>rfl) (fun k=>KC.refl k) _ _ (rd_VR h _ _ _ hV hr),rd_fz _ _ hr,fun hb=>?_,fun d hd=>?_,hpost⟩
 ·obtain ⟨cs0,hcs0⟩:=hbox hb
  have hmem:=h.mem 1000 _ hcs0
  obtain ⟨g,cap,hρ,_,cur,T,hcur,hl⟩:=hmem
  rw [hkey hb] at hρ
  cases hρ
  simp only [hb,if_true,hcs0,getC] at hcs
  exact ⟨cur,T,hcur,LR.mono (fun g hg=>⟨hg.1,hg.2.1,conv g hg.2.2⟩) (fun _ _=>rfl) (fun k=>KC.refl k) _ _ (rdL_LR h _ _ _ hl hcs),rdL_fz _ _ hcs⟩
 ·simp only [List.mem_flatMap] at hd
  obtain ⟨i,_,hd⟩:=hd
  obtain ⟨v',hv'⟩:=dsV_DR h i d hd
  exact ⟨v',hv'.mono (fun g hg=>⟨hg.1,hg.2.1,conv g fun k cs p hk hp=>hg.2.2 k _ hk p hp⟩) (fun _ _=>rfl)⟩
theorem VC.of (E : Md) {f : FuncId} {fn : Func} {c : Code} {args : List V} {post : Nat -> V -> Prop} (sch : Nat -> Tr) (hm : P.follows .mixedOrders = true) (hf : P.funcs[f]? = some fn) (hb : fn.body = some c)
  (hname : (fn.name == "runtime.NumGoroutine") = false) (hn : args.length <= fn.ntmps) (hN : fn.ntmps <= 1000) (hok : okCode E fn.ntmps sch c = true) (h : ∀ B,vwp P E sch c (vret P E fn.results.toList post) (St.start args B)) : VC P f args post:=by
 refine ⟨⟨fn,hf,by simp [hb],hname⟩,fun w vals A hgl hLR=>?_⟩
 have hlen:=hLR.length
 refine calls_of_wp hf hb ?_
 have h0 : Rel ⟨A,fun _=>False,fun _=>none,gdat P⟩ fn.ntmps w (fun _=>none) (St.start args w.heap.size) { tmps:=vals.toArray ++ Array.replicate (fn.ntmps - vals.toArray.size) undef,defers:=[] } w:=by
  refine ⟨Bel.refl _ _ _,⟨hN,hgl⟩,fun _ _=>rfl,fun _ _=>rfl,by simp [St.start],rfl,Nat.le_refl _,Nat.le_refl _,rfl,by simp; omega,fun i=>?_,by simp [St.start],by simp [St.start]⟩
  simp only [St.start]
  by_cases hi : i < args.length
  ·obtain ⟨v,hv,hd⟩:=hLR.get i args[i] (List.getElem?_eq_getElem hi)
   have he : ({ tmps:=vals.toArray ++ Array.replicate (fn.ntmps - vals.toArray.size) undef,defers:=[] } : Act).eval (.tmp i) = v:=by
    have hi' : i < vals.length:=by omega
    simp only [Act.eval,Array.getD_eq_getD_getElem?]
    rw [Array.getElem?_append_left (by simpa using hi')]
    simpa using by rw [hv]; rfl
   rw [he]
   have hg : args.getD i (.tup []) = args[i]:=by simp [List.getD,List.getElem?_eq_getElem hi]
   rw [hg]
   exact VR.mono (fun g hg=>⟨.inl hg.2,hg.1,by simp⟩) (fun _ _=>rfl) (fun k=>KC.refl k) _ _ hd
  ·have hg : args.getD i (.tup []) = .tup []:=by simp [List.getD,List.getElem?_eq_none (Nat.le_of_not_lt hi)]
   rw [hg]
   have he : ({ tmps:=vals.toArray ++ Array.replicate (fn.ntmps - vals.toArray.size) undef,defers:=[] } : Act).eval (.tmp i) = undef:=by
    have hi' : vals.length <= i:=by omega
    simp only [Act.eval,Array.getD_eq_getD_getElem?]
    rw [Array.getElem?_append_right (by simpa using hi')]
    cases hx : (Array.replicate (fn.ntmps - vals.toArray.size) undef)[i - vals.toArray.size]? with
    | none=>rfl
    | some y =>
      rw [Array.getElem?_replicate] at hx
      split at hx
      ·cases hx; rfl
      ·cases hx
   rw [he]
   exact VR_tup0
 haveI : GlobC ⟨A,fun _=>False,fun _=>none,gdat P⟩ P:=⟨rfl⟩
 refine wp_mono (vwp_sound hm sch c _ _ _ _ _ hok h0 (h w.heap.size)) fun e a' w' he=>?_
 obtain ⟨σ',ρ',hR,hK⟩:=he
 cases e with
 | normal =>
   obtain ⟨hd,v,hrun,r,hbel,hV,hfz,hpost⟩:=vend_sound hR fn hK
   exact ⟨hd,v,hrun,v,r,rfl,hbel.below,hV,hfz,hpost⟩
 | ret =>
   obtain ⟨hd,v,hrun,r,hbel,hV,hfz,hpost⟩:=vend_sound hR fn hK
   exact ⟨hd,v,hrun,v,r,rfl,hbel.below,hV,hfz,hpost⟩
 | _=>exact hK.elim
theorem rdL_dm (γ : Nat -> Option Nat) (m : Nat -> Option Blk) (l : List D) : rdL γ m (l.map V.d) = some (l.map V.d):=by
 induction l with
 | nil=>rfl
 | cons x r ih=>simp [rdL,rd,ih]
omit [GlobC A0 P] in
theorem vendN_sound (h : Rel A0 N w0 ρ σ a w) (fn : Func) {post : Nat -> List D -> Prop} (hG : ∀ g,¬ A0.G g) (hv : vendN P fn.results.toList post σ) :
  a.defers = [] /\ ∃ gb ds,(results fn a.tmps).run P w = .ok (.pointer (some ⟨gb,0,none⟩)) w /\ Bel A0.G w0.heap.size w0 w /\ w0.heap.size <= gb /\ gb < w.heap.size /\
   (∃ cur T,w.heap[gb]? = some (.cells cur T (0,0)) /\ LR (fun _=>none) (fun _=>none) (fun g=>(A0.A g \/ w0.heap.size <= g) /\ g < w.heap.size /\ g ≠ gb) w (ds.map V.d) cur.toList) /\ post w0.heap.size ds:=by
 obtain ⟨hok,k,cs,ds,hp,hk0,hm,hrp,hpost⟩:=hv
 obtain ⟨val,hrun,hV⟩:=results_run h fn hok
 rw [hp] at hV
 simp only [VR,hm] at hV
 obtain ⟨_,g,cap,hρ,rfl⟩:=hV
 obtain ⟨g',cap',hρ',hB,cur,T,hcur,hl⟩:=h.mem k _ hm
 rw [hρ] at hρ'
 cases hρ'
 rw [h.hB] at hpost
 refine ⟨h.defers,g,ds,hrun,h.below,?_,(Array.getElem?_eq_some_iff.1 hcur).1,⟨cur,T,hcur,?_⟩,hpost⟩
 ·rcases hB with hB | hB
  ·rw [<- h.hB]; exact hB
  ·exact (hG _ hB.2).elim
 ·have hl' : LR (fun _=>none) (fun _=>none) (SofK A0 ρ σ w (keysVL cs)) w (ds.map V.d) cur.toList:=by
   rcases hrp with hrp | rfl
   ·exact rpL_LR h _ _ _ hl hrp
   ·exact LR.mono (fun g hg=>.inl hg) (fun _ _=>rfl) (fun k=>KC.refl k) _ _ (LR.zf (γ:=fun _=>none) _ _ (rdL_dm _ _ _) hl)
  refine LR.mono (fun q hq=>?_) (fun _ _=>rfl) (fun k=>KC.refl k) _ _ hl'
  have:=hq.noBox h
  rw [h.hB] at this
  exact ⟨this.1,this.2.1,fun e=>this.2.2 k cs _ hm hρ e.symm⟩
theorem VN.of (E : Md) {f : FuncId} {fn : Func} {c : Code} {args : List V} {post : Nat -> List D -> Prop} (sch : Nat -> Tr) (hm : P.follows .mixedOrders = true) (hf : P.funcs[f]? = some fn) (hb : fn.body = some c)
  (hname : (fn.name == "runtime.NumGoroutine") = false) (hn : args.length <= fn.ntmps) (hN : fn.ntmps <= 1000) (hok : okCode E fn.ntmps sch c = true) (h : ∀ B,vwp P E sch c (vretN P fn.results.toList post) (St.start args B)) : VN P f args post:=by
 refine ⟨⟨fn,hf,by simp [hb],hname⟩,fun w vals A hgl hLR=>?_⟩
 have hlen:=hLR.length
 refine calls_of_wp hf hb ?_
 have h0 : Rel ⟨A,fun _=>False,fun _=>none,gdat P⟩ fn.ntmps w (fun _=>none) (St.start args w.heap.size) { tmps:=vals.toArray ++ Array.replicate (fn.ntmps - vals.toArray.size) undef,defers:=[] } w:=by
  refine ⟨Bel.refl _ _ _,⟨hN,hgl⟩,fun _ _=>rfl,fun _ _=>rfl,by simp [St.start],rfl,Nat.le_refl _,Nat.le_refl _,rfl,by simp; omega,fun i=>?_,by simp [St.start],by simp [St.start]⟩
  simp only [St.start]
  by_cases hi : i < args.length
  ·obtain ⟨v,hv,hd⟩:=hLR.get i args[i] (List.getElem?_eq_getElem hi)
   have he : ({ tmps:=vals.toArray ++ Array.replicate (fn.ntmps - vals.toArray.size) undef,defers:=[] } : Act).eval (.tmp i) = v:=by
    have hi' : i < vals.length:=by omega
    simp only [Act.eval,Array.getD_eq_getD_getElem?]
    rw [Array.getElem?_append_left (by simpa using hi')]
    simpa using by rw [hv]; rfl
   rw [he]
   have hg : args.getD i (.tup []) = args[i]:=by simp [List.getD,List.getElem?_eq_getElem hi]
   rw [hg]
   exact VR.mono (fun g hg=>⟨.inl hg.2,hg.1,by simp⟩) (fun _ _=>rfl) (fun k=>KC.refl k) _ _ hd
  ·have hg : args.getD i (.tup []) = .tup []:=by simp [List.getD,List.getElem?_eq_none (Nat.le_of_not_lt hi)]
   rw [hg]
   have he : ({ tmps:=vals.toArray ++ Array.replicate (fn.ntmps - vals.toArray.size) undef,defers:=[] } : Act).eval (.tmp i) = undef:=by
    have hi' : vals.length <= i:=by omega
    simp only [Act.eval,Array.getD_eq_getD_getElem?]
    rw [Array.getElem?_append_right (by simpa using hi')]
    cases hx : (Array.replicate (fn.ntmps - vals.toArray.size) undef)[i - vals.toArray.size]? with
    | none=>rfl
    | some y =>
      rw [Array.getElem?_replicate] at hx
      split at hx
      ·cases hx; rfl
      ·cases hx
   rw [he]
   exact VR_tup0
 haveI : GlobC ⟨A,fun _=>False,fun _=>none,gdat P⟩ P:=⟨rfl⟩
 refine wp_mono (vwp_sound hm sch c _ _ _ _ _ hok h0 (h w.heap.size)) fun e a' w' he=>?_
 obtain ⟨σ',ρ',hR,hK⟩:=he
 cases e with
 | normal =>
   obtain ⟨hd,gb,ds,hrun,hbel,h1,h2,h3,hpost⟩:=vendN_sound hR fn (fun _ h=>h) hK
   exact ⟨hd,_,hrun,gb,ds,rfl,hbel.below,h1,h2,h3,hpost⟩
 | ret =>
   obtain ⟨hd,gb,ds,hrun,hbel,h1,h2,h3,hpost⟩:=vendN_sound hR fn (fun _ h=>h) hK
   exact ⟨hd,_,hrun,gb,ds,rfl,hbel.below,h1,h2,h3,hpost⟩
 | _=>exact hK.elim
theorem VC.ofB (E : Md) {f : FuncId} {fn : Func} {c : Code} {args : List V} {post : Nat -> V -> Prop} (sch : Nat -> Tr) (hm : P.follows .mixedOrders = true) (hf : P.funcs[f]? = some fn) (hb : fn.body = some c)
  (hname : (fn.name == "runtime.NumGoroutine") = false) (hn : args.length <= fn.ntmps) (hN : fn.ntmps <= 1000) (hok : okCode E fn.ntmps sch c = true) (h : ∀ B,(∀ g ∈ idsVL args,g < B) -> vwp P E sch c (vret P E fn.results.toList post) (St.start args B)) : VC P f args post:=by
 refine ⟨⟨fn,hf,by simp [hb],hname⟩,fun w vals A hgl hLR=>?_⟩
 have hlen:=hLR.length
 refine calls_of_wp hf hb ?_
 have h0 : Rel ⟨A,fun _=>False,fun _=>none,gdat P⟩ fn.ntmps w (fun _=>none) (St.start args w.heap.size) { tmps:=vals.toArray ++ Array.replicate (fn.ntmps - vals.toArray.size) undef,defers:=[] } w:=by
  refine ⟨Bel.refl _ _ _,⟨hN,hgl⟩,fun _ _=>rfl,fun _ _=>rfl,by simp [St.start],rfl,Nat.le_refl _,Nat.le_refl _,rfl,by simp; omega,fun i=>?_,by simp [St.start],by simp [St.start]⟩
  simp only [St.start]
  by_cases hi : i < args.length
  ·obtain ⟨v,hv,hd⟩:=hLR.get i args[i] (List.getElem?_eq_getElem hi)
   have he : ({ tmps:=vals.toArray ++ Array.replicate (fn.ntmps - vals.toArray.size) undef,defers:=[] } : Act).eval (.tmp i) = v:=by
    have hi' : i < vals.length:=by omega
    simp only [Act.eval,Array.getD_eq_getD_getElem?]
    rw [Array.getElem?_append_left (by simpa using hi')]
    simpa using by rw [hv]; rfl
   rw [he]
   have hg : args.getD i (.tup []) = args[i]:=by simp [List.getD,List.getElem?_eq_getElem hi]
   rw [hg]
   exact VR.mono (fun g hg=>⟨.inl hg.2,hg.1,by simp⟩) (fun _ _=>rfl) (fun k=>KC.refl k) _ _ hd
  ·have hg : args.getD i (.tup []) = .tup []:=by simp [List.getD,List.getElem?_eq_none (Nat.le_of_not_lt hi)]
   rw [hg]
   have he : ({ tmps:=vals.toArray ++ Array.replicate (fn.ntmps - vals.toArray.size) undef,defers:=[] } : Act).eval (.tmp i) = undef:=by
    have hi' : vals.length <= i:=by omega
    simp only [Act.eval,Array.getD_eq_getD_getElem?]
    rw [Array.getElem?_append_right (by simpa using hi')]
    cases hx : (Array.replicate (fn.ntmps - vals.toArray.size) undef)[i - vals.toArray.size]? with
    | none=>rfl
    | some y =>
      rw [Array.getElem?_replicate] at hx
      split at hx
      ·cases hx; rfl
      ·cases hx
   rw [he]
   exact VR_tup0
 haveI : GlobC ⟨A,fun _=>False,fun _=>none,gdat P⟩ P:=⟨rfl⟩
 refine wp_mono (vwp_sound hm sch c _ _ _ _ _ hok h0 (h w.heap.size fun g hg=>(LR.ids_ _ _ hLR g hg).1)) fun e a' w' he=>?_
 obtain ⟨σ',ρ',hR,hK⟩:=he
 cases e with
 | normal =>
   obtain ⟨hd,v,hrun,r,hbel,hV,hfz,hpost⟩:=vend_sound hR fn hK
   exact ⟨hd,v,hrun,v,r,rfl,hbel.below,hV,hfz,hpost⟩
 | ret =>
   obtain ⟨hd,v,hrun,r,hbel,hV,hfz,hpost⟩:=vend_sound hR fn hK
   exact ⟨hd,v,hrun,v,r,rfl,hbel.below,hV,hfz,hpost⟩
 | _=>exact hK.elim
theorem VC.ofL (E : Md) {f : FuncId} {fn : Func} {c : Code} {args : List V} {post : Nat -> V -> Prop} (sch : Nat -> Tr) (hm : P.follows .mixedOrders = true) (hf : P.funcs[f]? = some fn) (hb : fn.body = some c)
  (hname : (fn.name == "runtime.NumGoroutine") = false) (hn : args.length <= fn.ntmps) (hN : fn.ntmps <= 1000) (hok : okCode E fn.ntmps sch c = true) (h : ∀ B,lnVL args -> vwp P E sch c (vret P E fn.results.toList post) (St.start args B)) : VC P f args post:=by
 by_cases hln : lnVL args
 ·exact VC.of E sch hm hf hb hname hn hN hok fun B=>h B hln
 ·exact ⟨⟨fn,hf,by simp [hb],hname⟩,fun w vals A _ hLR=>absurd (LR.ln _ _ hLR) hln⟩
theorem VX.of (E : Md) {f : FuncId} {fn : Func} {c : Code} {W : List Nat} {args : List V} {bx : Option (List V)} {post : Nat -> V -> List V -> List D -> Prop} (sch : Nat -> Tr) (hm : P.follows .mixedOrders = true) (hf : P.funcs[f]? = some fn) (hb : fn.body = some c)
  (hname : (fn.name == "runtime.NumGoroutine") = false) (hn : args.length <= fn.ntmps) (hN : fn.ntmps <= 1000) (hok : okCode E fn.ntmps sch c = true) (hW : ∀ g ∈ W,g ∈ idsVL args \/ g ∈ idsVL (bx.getD []))
  (hbd : ∀ cs,bx = some cs -> rdL (fun _=>none) (fun _=>none) cs = some cs)
  (h : ∀ B,(∀ g,g ∈ idsVL args \/ g ∈ idsVL (bx.getD []) -> g < B) -> vwp P E sch c (vretX P E fn.results.toList post W bx.isSome) (St.startX args W bx B)) : VX P f W args bx post:=by
 refine ⟨⟨fn,hf,by simp [hb],hname⟩,hW,fun w vals gb A1 hgl hLR hbx=>?_⟩
 have hlen:=hLR.length
 refine calls_of_wp hf hb ?_
 let A : Nat -> Prop:=fun g=>A1 g /\ ¬ (bx.isSome = true /\ g = gb)
 let G : Nat -> Prop:=fun g=>g ∈ W \/ (bx.isSome = true /\ g = gb)
 have hSof : ∀ g,(g < w.heap.size /\ A1 g /\ ¬ (bx.isSome = true /\ g = gb)) ->
   Sof ⟨A,G,fun k=>if k = 1000 then some (gb,0) else none,gdat P⟩ w.heap.size (fun k=>if k = 1000 then some (gb,0) else none) (fun k=>if k = 1000 then bx.map .box else none) w g:=by
  intro g hg
  refine ⟨.inl hg.2,hg.1,fun k b hk p hp heq=>?_⟩
  by_cases h1 : k = 1000
  ·simp only [h1,if_true,Option.some.injEq] at hk hp
   subst hp
   cases hbx1 : bx with
   | none=>rw [hbx1] at hk; cases hk
   | some cs=>exact hg.2.2 ⟨by rw [hbx1]; rfl,heq.symm⟩
  ·simp [h1] at hk
 have h0 : Rel ⟨A,G,fun k=>if k = 1000 then some (gb,0) else none,gdat P⟩ fn.ntmps w (fun k=>if k = 1000 then some (gb,0) else none) (St.startX args W bx w.heap.size) { tmps:=vals.toArray ++ Array.replicate (fn.ntmps - vals.toArray.size) undef,defers:=[] } w:=by
  refine ⟨Bel.refl _ _ _,⟨hN,hgl⟩,fun _ _=>rfl,fun kk _=>?_,fun g hg=>.inl hg,rfl,Nat.le_refl _,Nat.le_refl _,rfl,by simp; omega,fun i=>?_,fun k b hk=>?_,fun k k' b b' p p' hk hk' _ _ _=>?_⟩
  ·simp only [St.startX]
   by_cases e : kk = 1000
   ·rw [if_pos e]; cases bx <;> rfl
   ·rw [if_neg e]; rfl
  ·simp only [St.startX]
   by_cases hi : i < args.length
   ·obtain ⟨v,hv,hd⟩:=hLR.get i args[i] (List.getElem?_eq_getElem hi)
    have he : ({ tmps:=vals.toArray ++ Array.replicate (fn.ntmps - vals.toArray.size) undef,defers:=[] } : Act).eval (.tmp i) = v:=by
     have hi' : i < vals.length:=by omega
     simp only [Act.eval,Array.getD_eq_getD_getElem?]
     rw [Array.getElem?_append_left (by simpa using hi')]
     simpa using by rw [hv]; rfl
    rw [he]
    have hg : args.getD i (.tup []) = args[i]:=by simp [List.getD,List.getElem?_eq_getElem hi]
    rw [hg]
    exact VR.mono hSof (fun _ _=>rfl) (fun k=>KC.refl k) _ _ hd
   ·have hg : args.getD i (.tup []) = .tup []:=by simp [List.getD,List.getElem?_eq_none (Nat.le_of_not_lt hi)]
    rw [hg]
    have he : ({ tmps:=vals.toArray ++ Array.replicate (fn.ntmps - vals.toArray.size) undef,defers:=[] } : Act).eval (.tmp i) = undef:=by
     have hi' : vals.length <= i:=by omega
     simp only [Act.eval,Array.getD_eq_getD_getElem?]
     rw [Array.getElem?_append_right (by simpa using hi')]
     cases hx : (Array.replicate (fn.ntmps - vals.toArray.size) undef)[i - vals.toArray.size]? with
     | none=>rfl
     | some y =>
       rw [Array.getElem?_replicate] at hx
       split at hx
       ·cases hx; rfl
       ·cases hx
    rw [he]
    exact VR_tup0
  ·by_cases h1 : k = 1000
   ·subst h1
    simp only [St.startX,if_true] at hk
    cases hbx1 : bx with
    | none=>rw [hbx1] at hk; cases hk
    | some cs =>
      rw [hbx1] at hk
      cases hk
      obtain ⟨cur,T,hcur,hl⟩:=hbx cs hbx1
      refine ⟨gb,0,by simp,.inr ⟨by decide,.inr ⟨by rw [hbx1]; rfl,rfl⟩⟩,cur,T,hcur,?_⟩
      exact LR.fz _ _ (hbd cs hbx1) hl fun g hg _=>by
       have:=hSof g hg
       simp only [St.startX,hbx1] at this ⊢
       exact this
   ·simp [St.startX,h1] at hk
  ·have h1 : k = 1000:=Classical.byContradiction fun hne=>by simp [St.startX,hne] at hk
   have h2 : k' = 1000:=Classical.byContradiction fun hne=>by simp [St.startX,hne] at hk'
   rw [h1,h2]
 have hlt : ∀ g,g ∈ idsVL args \/ g ∈ idsVL (bx.getD []) -> g < w.heap.size:=by
  rintro g (hg | hg)
  ·exact (LR.ids_ _ _ hLR g hg).1
  ·cases hbx1 : bx with
   | none=>rw [hbx1] at hg; simp [idsVL] at hg
   | some cs =>
     obtain ⟨cur,T,hcur,hl⟩:=hbx cs hbx1
     rw [hbx1] at hg
     exact (LR.ids_ _ _ hl g hg).1
 haveI : GlobC ⟨A,G,fun k=>if k = 1000 then some (gb,0) else none,gdat P⟩ P:=⟨rfl⟩
 refine wp_mono (vwp_sound hm sch c _ _ _ _ _ hok h0 (h w.heap.size hlt)) fun e a' w' he=>?_
 obtain ⟨σ',ρ',hR,hK⟩:=he
 cases e with
 | normal =>
   obtain ⟨hd,v,hrun,r,cs',ws,hbel,hV,hfz,hbb,hws,hpost⟩:=vendX_sound (W:=W) (gb:=gb) hR fn (fun _=>by simpa using hR.key 1000 ⟨Nat.le_refl _,by decide⟩) hK
   have cv : ∀ g,((A g \/ w.heap.size <= g) /\ g < w'.heap.size /\ ¬ (bx.isSome = true /\ g = gb)) -> ((A1 g \/ w.heap.size <= g) /\ g < w'.heap.size /\ ¬ (bx.isSome = true /\ g = gb)):=fun g hg=>⟨by
    rcases hg.1 with ⟨h1,_⟩ | h1
    ·exact .inl h1
    ·exact .inr h1,hg.2⟩
   exact ⟨hd,v,hrun,v,r,cs',ws,rfl,hbel,VR.mono cv (fun _ _=>rfl) (fun k=>KC.refl k) _ _ hV,hfz,fun hb=>by
    obtain ⟨cur,T,h1,h2,h3⟩:=hbb hb
    exact ⟨cur,T,h1,LR.mono cv (fun _ _=>rfl) (fun k=>KC.refl k) _ _ h2,h3⟩,fun d hd=>by obtain ⟨v',hv'⟩:=hws d hd; exact ⟨v',hv'.mono cv (fun _ _=>rfl)⟩,hpost⟩
 | ret =>
   obtain ⟨hd,v,hrun,r,cs',ws,hbel,hV,hfz,hbb,hws,hpost⟩:=vendX_sound (W:=W) (gb:=gb) hR fn (fun _=>by simpa using hR.key 1000 ⟨Nat.le_refl _,by decide⟩) hK
   have cv : ∀ g,((A g \/ w.heap.size <= g) /\ g < w'.heap.size /\ ¬ (bx.isSome = true /\ g = gb)) -> ((A1 g \/ w.heap.size <= g) /\ g < w'.heap.size /\ ¬ (bx.isSome = true /\ g = gb)):=fun g hg=>⟨by
    rcases hg.1 with ⟨h1,_⟩ | h1
    ·exact .inl h1
    ·exact .inr h1,hg.2⟩
   exact ⟨hd,v,hrun,v,r,cs',ws,rfl,hbel,VR.mono cv (fun _ _=>rfl) (fun k=>KC.refl k) _ _ hV,hfz,fun hb=>by
    obtain ⟨cur,T,h1,h2,h3⟩:=hbb hb
    exact ⟨cur,T,h1,LR.mono cv (fun _ _=>rfl) (fun k=>KC.refl k) _ _ h2,h3⟩,fun d hd=>by obtain ⟨v',hv'⟩:=hws d hd; exact ⟨v',hv'.mono cv (fun _ _=>rfl)⟩,hpost⟩
 | _=>exact hK.elim
end
end Go.Vs
namespace Go.Vs
section
variable {P : Program} {E : Md} {ops : Array Oper} {K : St -> Prop} {r : List Oper} {σ : St} {dst : Option Tmp} {k d : Tmp} {ty : TypeId} {pos : String} {af : Array Edge} {sch : Nat -> Tr} {Q : Exit -> St -> Prop}
def guardV (ops : Array Oper) (σ : St) (j : Nat) : V:=match (ops[j]?).bind (·.dst) with | some d=>σ.t d | none=>.bad
def vguard (g : V) (want : Bool) (X Y : Prop) : Prop:=
 match g with
 | .d (.bool b)=>(b = want -> X) /\ ((!(b == want)) = true -> Y)
 | .tup []=>Y
 | _=>False
theorem vop_guard {op : Op} {g : Option (Nat × Bool)} : vop P E ⟨dst,op,ty,pos,af,g⟩ K σ = vop P E ⟨dst,op,ty,pos,af,none⟩ K σ:=by
 cases op <;> rfl
theorem w_guard {op : Op} (j : Nat) (want : Bool) : vops P E ops K (⟨dst,op,ty,pos,af,some (j,want)⟩ :: r) σ =
  vguard (guardV ops σ j) want (vops P E ops K (⟨dst,op,ty,pos,af,none⟩ :: r) σ) (vops P E ops K r (σ.put dst (.tup []))):=by
 simp only [vops,vguard,guardV]
 rw [vop_guard]
 cases h : (ops[j]?).bind (·.dst) with
 | none=>rfl
 | some d =>
   simp only
   split <;> simp_all
theorem w_bs0 (T n : Nat) (parts : Array (Nat × Operand)) (hk : keysVL (allC (parts.toList.map fun p=>σ.ev p.2)) = []) : vops P E ops K (⟨some k,.buildSlice T n parts,ty,pos,af,none⟩ :: r) σ =
  (((tslice P T).isSome = true /\ n * (slT P T).2.1 <= 16777216 /\ parts.size = n /\ partsOk σ (slT P T).2.1 0 parts.toList /\ (allC (parts.toList.map fun p=>σ.ev p.2)).all isD = true) /\
   vops P E ops K r ((σ.lay k (.row (slT P T).1 (slT P T).2.1 (chunk (slT P T).2.1 n ((allC (parts.toList.map fun p=>σ.ev p.2)).map dD)))).put (some k) (.own k 0 n))):=by
 simp only [vops,vop,hk]
 simp [vpre,vnext,veff,isPure]
theorem w_bs1 (T n k' : Nat) (ks : List Nat) (parts : Array (Nat × Operand)) (hE : E.p = false) (hk : keysVL (allC (parts.toList.map fun p=>σ.ev p.2)) = k' :: ks) : vops P E ops K (⟨some k,.buildSlice T n parts,ty,pos,af,none⟩ :: r) σ =
  ∀ γ hs',σ.hs <= hs' -> Gam σ γ hs' -> vpre P ⟨some k,.buildSlice T n parts,ty,pos,af,none⟩ ({ σ with hs:=hs' }.frzs γ (k' :: ks)) /\ vops P E ops K r (vnext P ⟨some k,.buildSlice T n parts,ty,pos,af,none⟩ ({ σ with hs:=hs' }.frzs γ (k' :: ks))):=by
 simp [vops,vop,hk,hE]
theorem w_bsP (T n : Nat) (parts : Array (Nat × Operand)) (hE : E.p = true) : vops P E ops K (⟨some k,.buildSlice T n parts,ty,pos,af,none⟩ :: r) σ =
  (((tslice P T).isSome = true /\ n * (slT P T).2.1 <= 16777216 /\ parts.size = n /\ partsOk (σ.frps (keysVL (allC (parts.toList.map fun p=>σ.ev p.2)))) (slT P T).2.1 0 parts.toList /\ (allC (parts.toList.map fun p=>(σ.frps (keysVL (allC (parts.toList.map fun p=>σ.ev p.2)))).ev p.2)).all isD = true) /\
   vops P E ops K r (((σ.frps (keysVL (allC (parts.toList.map fun p=>σ.ev p.2)))).lay k (.row (slT P T).1 (slT P T).2.1 (chunk (slT P T).2.1 n ((allC (parts.toList.map fun p=>(σ.frps (keysVL (allC (parts.toList.map fun p=>σ.ev p.2)))).ev p.2)).map dD)))).put (some k) (.own k 0 n))):=by
 cases hk : keysVL (allC (parts.toList.map fun p=>σ.ev p.2)) with
 | nil =>
   rw [w_bs0 T n parts hk]
   rfl
 | cons k' ks =>
   simp [vops,vop,hk,hE,vpre,vnext,veff,isPure]
theorem w_makeSlice (T : Nat) (l c : Operand) : vops P E ops K (⟨some k,.makeSlice T l c,ty,pos,af,none⟩ :: r) σ =
  (((tslice P T).isSome = true ∧ (tzero P (slT P T).1).isSome = true ∧ kOf (σ.ev l) = some .i64 ∧ kOf (σ.ev c) = some .i64 ∧ getZ (σ.ev c) = getZ (σ.ev l) ∧ 0 ≤ getZ (σ.ev l) ∧ LenOk (slT P T).2.2 (getZ (σ.ev l)).toNat) ∧
    vops P E ops K r ((σ.lay k (.row (slT P T).1 (slT P T).2.1 (List.replicate (getZ (σ.ev l)).toNat (zrT P (slT P T).1)))).put (some k) (.own k 0 (getZ (σ.ev l)).toNat))):=by
 simp [vops,vop,vpre,vnext,veff,isPure]
theorem w_append (s x : Operand) (t : TypeId) : vops P E ops K (⟨some k,.call ⟨.builtin .append,#[s,x],#[t,t]⟩,ty,pos,af,none⟩ :: r) σ =
  (appOk P t σ (σ.ev s) (σ.ev x) /\ vops P E ops K r (appSt P t σ (some k) (σ.ev s) (σ.ev x))):=by
 have e0 : #[s,x].getD 0 default = s:=rfl
 have e1 : #[s,x].getD 1 default = x:=rfl
 have e2 : #[t,t].getD 0 0 = t:=rfl
 have e3 : #[t,t].getD 1 0 = t:=rfl
 simp [vops,vop,vpre,vnext,veff,isPure]
theorem w_slice (T : Nat) (x : Operand) (lo hi : Option Operand) : vops P E ops K (⟨dst,.slice T x lo hi none,ty,pos,af,none⟩ :: r) σ =
  ((tstr P T = some (isStr (σ.ev x)) ∧ lnOk (σ.ev x) = true ∧ bdOk σ lo ∧ bdOk σ hi ∧ loB σ lo ≤ hiB σ (σ.ev x) hi ∧ hiB σ (σ.ev x) hi ≤ lnV (σ.ev x) ∧ cutOk P T σ.m (σ.ev x)) ∧
    vops P E ops K r (σ.put dst (cutV (σ.ev x) (loB σ lo) (hiB σ (σ.ev x) hi)))):=by
 simp [vops,vop,vpre,vnext,vval,isPure]
theorem w_convert (s t : Nat) (x : Operand) : vops P E ops K (⟨dst,.convert s t x,ty,pos,af,none⟩ :: r) σ = (convOk P s t σ (σ.ev x) /\ vops P E ops K r (σ.put dst (convV P t σ (σ.ev x)))):=by
 simp [vops,vop,vpre,vnext,vval,isPure]
theorem w_extract (x : Operand) (i : Nat) : vops P E ops K (⟨dst,.extract x i,ty,pos,af,none⟩ :: r) σ = (tupOk (σ.ev x) i /\ vops P E ops K r (σ.put dst (tupAt (σ.ev x) i))):=by
 simp [vops,vop,vpre,vnext,vval,isPure]
theorem w_max (x y : Operand) (tys : Array TypeId) : vops P E ops K (⟨dst,.call ⟨.builtin .max,#[x,y],tys⟩,ty,pos,af,none⟩ :: r) σ =
  ((kOf (σ.ev x) = some .i64 /\ kOf (σ.ev y) = some .i64) /\ vops P E ops K r (σ.put dst (.d (.int .i64 (if getZ (σ.ev y) > getZ (σ.ev x) then getZ (σ.ev y) else getZ (σ.ev x)))))):=by
 simp [vops,vop,vpre,vnext,vval,isPure]
theorem w_min (x y : Operand) (tys : Array TypeId) : vops P E ops K (⟨dst,.call ⟨.builtin .min,#[x,y],tys⟩,ty,pos,af,none⟩ :: r) σ =
  ((kOf (σ.ev x) = some .i64 /\ kOf (σ.ev y) = some .i64) /\ vops P E ops K r (σ.put dst (.d (.int .i64 (if getZ (σ.ev y) < getZ (σ.ev x) then getZ (σ.ev y) else getZ (σ.ev x)))))):=by
 simp [vops,vop,vpre,vnext,vval,isPure]
theorem w_store' (T : TypeId) (a x : Operand) : vops P E ops K (⟨dst,.store T a x,ty,pos,af,none⟩ :: r) σ = (stOk P T σ (σ.ev a) (σ.ev x) /\ vops P E ops K r (stSt σ dst (σ.ev a) (σ.ev x))):=by
 simp [vops,vop,vpre,vnext,veff,isPure]
variable {B hs : Nat} {W : List Nat} {t : Nat -> V} {m : Nat -> Option Blk}
theorem x_put (v : V) : (St.mk B hs W t m).put (some d) v = St.mk B hs W (upd t d v) m:=rfl
theorem x_lay (b : Blk) : (St.mk B hs W t m).lay k b = St.mk B hs W (mapV (wipe k) t) (upd (mapM (wipe k) m) k (some (b.map (wipe k)))):=rfl
theorem x_mapV (f : V -> V) (v : V) : mapV f (upd t d v) = upd (mapV f t) d (f v):=by
 funext i; simp only [mapV,upd]; split <;> rfl
theorem x_mapM (f : V -> V) (b : Option Blk) : mapM f (upd m d b) = upd (mapM f m) d (b.map (Blk.map f)):=by
 funext i; simp only [mapM,upd]; split <;> rfl
theorem x_mapM0 (f : V -> V) : mapM f (fun _=>none) = fun _=>none:=rfl
end
end Go.Vs
namespace Go.Vs
theorem w_condT {P : Program} {E : Md} {sch : Nat -> Tr} {Q : Exit -> St -> Prop} {σ : St} (c : Operand) (x y : Code) (_ : E.p = false) : vwp P E sch (.cond c x y) Q σ = (isBool (σ.ev c) = true /\ (getB (σ.ev c) = true -> vwp P E sch x Q σ) /\ (getB (σ.ev c) = false -> vwp P E sch y Q σ)):=rfl
theorem w_cond' {P : Program} {E : Md} {sch : Nat -> Tr} {Q : Exit -> St -> Prop} {σ : St} (c : Operand) (x y : Code) (_ : E.p = true) : vwp P E sch (.cond c x y) Q σ = (isBool (σ.ev c) = true /\ if getB (σ.ev c) = true then vwp P E sch x Q σ else vwp P E sch y Q σ):=by
 rw [w_cond]
 cases getB (σ.ev c) <;> simp
attribute [simp] w_seq w_skip w_region w_draw w_cond' w_condT w_block w_loop w_exit w_ret o_nil thenV_n thenV_e thenV_r inB_n inB_e inB_r
 w_makeFunc zbx w_move w_assign w_pick w_alloc w_box w_build w_load w_gload w_nilCheck w_binOp w_unOp w_fieldAddr w_field w_indexAddr w_index w_len w_call w_bs0 w_makeSlice w_append w_slice w_convert w_extract w_max w_min w_store'
 t_nil t_seq t_both pick_nil pick_cons x_put put_none x_lay x_mapV x_mapM x_mapM0 ev_tmp ev_const
attribute [simp] lstD getB isBool getZ isInt getL getC isBox isRow szOf tyOf elV elOk lnV lnOk agB szT foT slT zrT atP ptrOk hd binD binOk boolOk fldV fldOk kdV eqC eqCL kdL unD unOk kOf addP idxV idxOk strOf isStr cutV cutOk live cellsOk
 buildC buildOk allC partsOk dD isD appOk appSt stOk stSt convOk convV tupAt tupOk loB hiB bdOk ownOk vite constV upd_apply Blk.map wipe wipeL V.cells V.one splice chunk guardV keysVL V.keys rdL rd thenV inBlockV loopV vret vend vretN vendN resV resOk oneV V.ids idsVL D.ids
def gT (g : V) (want : Bool) : Bool:=match g with | .d (.bool b)=>b == want | _=>false
def gF (g : V) (want : Bool) : Bool:=match g with | .d (.bool b)=>!(b == want) | .tup []=>true | _=>false
@[simp] theorem gT_b (b want : Bool) : gT (.d (.bool b)) want = (b == want):=rfl
@[simp] theorem gF_b (b want : Bool) : gF (.d (.bool b)) want = !(b == want):=rfl
@[simp] theorem gT_t (want : Bool) : gT (.tup []) want = false:=rfl
@[simp] theorem gF_t (want : Bool) : gF (.tup []) want = true:=rfl
@[simp] theorem guardV_mk (ops : Array Oper) (σ : St) (j : Nat) : guardV ops σ j = match (ops[j]?).bind (·.dst) with | some d=>σ.t d | none=>.bad:=rfl
@[simp] theorem w_guard2 {P : Program} {E : Md} {ops : Array Oper} {K : St → Prop} {σ : St} {dst : Option Tmp} {ty : TypeId} {pos : String} {af : Array Edge} {r : List Oper} {op : Op} (j : Nat) (want : Bool) : vops P E ops K (⟨dst, op, ty, pos, af, some (j, want)⟩ :: r) σ =
   if gT (guardV ops σ j) want = true then vops P E ops K (⟨dst,op,ty,pos,af,none⟩ :: r) σ else if gF (guardV ops σ j) want = true then vops P E ops K r (σ.put dst (.tup [])) else False:=by
  rw [w_guard]
  generalize guardV ops σ j = g
  cases g with
  | d x =>
    cases x with
    | bool b=>cases b <;> cases want <;> simp [vguard,gT,gF]
    | _=>simp [vguard,gT,gF]
  | tup l=>cases l <;> simp [vguard,gT,gF]
  | _=>simp [vguard,gT,gF]
@[simp] theorem start1 (a : V) (B : Nat) : St.start [a] B = ⟨B, B, [], upd (fun _ => .tup []) 0 a, fun _ => none⟩ := by
  simp only [St.start,St.mk.injEq,true_and,and_true]
  funext i; match i with | 0=>rfl | _ + 1=>rfl
@[simp] theorem start2 (a b : V) (B : Nat) : St.start [a, b] B = ⟨B, B, [], upd (upd (fun _ => .tup []) 1 b) 0 a, fun _ => none⟩ := by
  simp only [St.start,St.mk.injEq,true_and,and_true]
  funext i; match i with | 0=>rfl | 1=>rfl | _ + 2=>rfl
@[simp] theorem start3 (a b c : V) (B : Nat) : St.start [a, b, c] B = ⟨B, B, [], upd (upd (upd (fun _ => .tup []) 2 c) 1 b) 0 a, fun _ => none⟩ := by
  simp only [St.start,St.mk.injEq,true_and,and_true]
  funext i; match i with | 0=>rfl | 1=>rfl | 2=>rfl | _ + 3=>rfl
@[simp] theorem start4 (a b c d : V) (B : Nat) : St.start [a, b, c, d] B = ⟨B, B, [], upd (upd (upd (upd (fun _ => .tup []) 3 d) 2 c) 1 b) 0 a, fun _ => none⟩ := by
  simp only [St.start,St.mk.injEq,true_and,and_true]
  funext i; match i with | 0=>rfl | 1=>rfl | 2=>rfl | 3=>rfl | _ + 4=>rfl
@[simp] theorem x_mapV0 (k : Nat) : mapV (wipe k) (fun _ => V.tup []) = fun _ => V.tup [] := by
  funext i; simp [mapV,wipe,wipeL]
structure Sl (α : Type) where
 id : Option Nat
 T : Option (TypeId × Nat)
 xs : List α
instance {α : Type} : Inhabited (Sl α):=⟨⟨none,none,[]⟩⟩
def dSl {α : Type} (f : α -> List D) (s : Sl α) : D:=.sl s.id s.T (s.xs.map f)
abbrev Ints:=Sl Int
def cI (n : Int) : List D:=[.int .i64 n]
def cS {α : Type} (c : α -> List D) (s : Sl α) : List D:=[dSl c s]
abbrev dInts (a : Ints) : D:=dSl cI a
abbrev Rows:=Sl Ints
abbrev dRows (a : Rows) : D:=dSl (cS cI) a
def Rows.pl (a : Rows) : List (List Int):=a.xs.map (·.xs)
@[simp] theorem getD_map_lt {α β : Type} [Inhabited α] (f : α → β) (l : List α) (i : Nat) (d : β) (h : i < l.length) : (l.map f).getD i d = f (l.getD i default) := by
  simp [List.getD,List.getElem?_eq_getElem h]
theorem wrap64_of {n : Int} (h1 : -9223372036854775808 <= n) (h2 : n <= 9223372036854775807) : IntKind.i64.wrap n = n:=by
 rw [IntKind.wrap_i64]; omega
def szv (left : Int) (w : Nat) : Int:=if (w : Int) <= left then left - w else -1
theorem szv_pos {left : Int} {w : Nat} (h : (w : Int) <= left) : szv left w = left - w:=if_pos h
theorem szv_neg {left : Int} {w : Nat} (h : left < w) : szv left w = -1:=if_neg (by omega)
def sumW {α : Type} (w : α -> Nat) (l : List α) : Nat:=(l.map w).sum
@[simp] theorem sumW_nil {α : Type} (w : α -> Nat) : sumW w [] = 0:=rfl
@[simp] theorem sumW_cons {α : Type} (w : α -> Nat) (a : α) (l : List α) : sumW w (a :: l) = w a + sumW w l:=by simp [sumW]
theorem sumW_append {α : Type} (w : α -> Nat) (l l' : List α) : sumW w (l ++ l') = sumW w l + sumW w l':=by simp [sumW]
theorem sumW_succ {α : Type} (w : α -> Nat) {l : List α} {i : Nat} (h : i < l.length) : sumW w (l.take (i + 1)) = sumW w (l.take i) + w l[i]:=by
 rw [List.take_succ_eq_append_getElem h,sumW_append]; simp
theorem sumW_le {α : Type} (w : α -> Nat) (l : List α) (i : Nat) : sumW w (l.take i) <= sumW w l:=by
 have h:=sumW_append w (l.take i) (l.drop i)
 rw [List.take_append_drop] at h; omega
theorem sumW_mem {α : Type} (w : α -> Nat) {l : List α} {a : α} (h : a ∈ l) : w a <= sumW w l:=by
 induction l with
 | nil=>simp at h
 | cons b l ih =>
   rcases List.mem_cons.1 h with rfl | h
   ·simp
   ·have:=ih h; simp; omega
theorem gam_at {σ : St} {γ : Nat -> Option Nat} {hs' k T sz : Nat} {es : List (List D)} (hg : Gam σ γ hs') (hm : σ.m k = some (.row T sz es)) (hlk : k < 1000:=by decide) : (∀ g,γ k = some g -> σ.B <= g /\ g < hs') /\ (es ≠ [] -> γ k ≠ none):=
 ⟨fun g h=>⟨(hg.fr k T sz es g hm h hlk).1.lo,(hg.fr k T sz es g hm h hlk).2⟩,fun hne h=>by obtain ⟨g,h'⟩:=hg.some k T sz es hm hne hlk; rw [h] at h'; cases h'⟩
def fill (z : List D) (l : List (List D)) (i : Nat) : List (List D):=l.take i ++ List.replicate (l.length - i) z
@[simp] theorem fill_length (z : List D) (l : List (List D)) (i : Nat) : (fill z l i).length = l.length := by
  simp [fill]; omega
@[simp] theorem fill_zero (z : List D) (l : List (List D)) : fill z l 0 = List.replicate l.length z:=by simp [fill]
theorem fill_all {z : List D} {l : List (List D)} {i : Nat} (h : i = l.length) : fill z l i = l:=by subst h; simp [fill]
theorem fill_at (z : List D) (l : List (List D)) (k j : Nat) : (fill z l k)[j]? = if j < k then l[j]? else if j < l.length then some z else none:=by
 simp only [fill,List.getElem?_append,List.length_take,List.getElem?_take,List.getElem?_replicate]
 by_cases hjk : j < k
 ·by_cases hjl : j < l.length
  ·rw [if_pos (by omega),if_pos hjk,if_pos hjk]
  ·have h1 : ¬ j < min k l.length:=by omega
   have h2 : ¬ j - min k l.length < l.length - k:=by omega
   rw [if_neg h1,if_neg h2,if_pos hjk,List.getElem?_eq_none (by omega)]
 ·have h1 : ¬ j < min k l.length:=by omega
  rw [if_neg h1,if_neg hjk]
  by_cases hjl : j < l.length
  ·have h2 : j - min k l.length < l.length - k:=by omega
   rw [if_pos h2,if_pos hjl]
  ·have h2 : ¬ j - min k l.length < l.length - k:=by omega
   rw [if_neg h2,if_neg hjl]
@[simp] theorem fill_get {z : List D} {l : List (List D)} {i : Nat} (h : i < l.length) : (fill z l i)[i]? = some z := by
  rw [fill_at,if_neg (Nat.lt_irrefl i),if_pos h]
@[simp] theorem fill_getElem {z : List D} {l : List (List D)} {i : Nat} (h : i < (fill z l i).length) : (fill z l i)[i] = z := by
  have h1:=List.getElem?_eq_getElem h
  rw [fill_get (by simpa using h)] at h1
  exact (Option.some.inj h1).symm
theorem fill_set {z e : List D} {l : List (List D)} {i : Nat} (h : i < l.length) (he : l[i]? = some e) : (fill z l i).set i e = fill z l (i + 1):=by
 apply List.ext_getElem?
 intro j
 rw [List.getElem?_set,fill_length,fill_at,fill_at]
 by_cases hij : i = j
 ·subst hij
  rw [if_pos rfl,if_pos h,if_pos (Nat.lt_succ_self i),he]
 ·rw [if_neg hij]
  by_cases hji : j < i
  ·have h2 : j < i + 1:=by omega
   rw [if_pos hji,if_pos h2]
  ·have h2 : ¬ j < i + 1:=by omega
   rw [if_neg hji,if_neg h2]
theorem vcall_mono {P : Program} {f : FuncId} {vs : List V} {dst : Option Tmp} {K K' : St -> Prop} {σ : St} (hk : ∀ σ,K σ -> K' σ) (h : vcall P f vs dst K σ) : vcall P f vs dst K' σ:=by
 unfold vcall at *
 split at h
 ·obtain ⟨h1,post,h2,h3⟩:=h
  exact ⟨h1,post,h2,fun r n hs' a b c d=>hk _ (h3 r n hs' a b c d)⟩
 ·intro γ n a b
  obtain ⟨As,post,h1,h2,h3⟩:=h γ n a b
  exact ⟨As,post,h1,h2,fun r hs' a b c=>⟨(h3 r hs' a b c).1,(h3 r hs' a b c).2.1,hk _ (h3 r hs' a b c).2.2⟩⟩
theorem vcallP_mono {P : Program} {f : FuncId} {vs : List V} {dst : Option Tmp} {K K' : St -> Prop} {σ : St} (hk : ∀ σ,K σ -> K' σ) (h : vcallP P f vs dst K σ) : vcallP P f vs dst K' σ:=by
 obtain ⟨As,post,h1,h2,h3⟩:=h
 refine ⟨As,post,h1,h2,?_⟩
 rcases h3 with h3 | h3
 ·exact .inl fun r n hs' a b c d=>⟨(h3 r n hs' a b c d).1,hk _ (h3 r n hs' a b c d).2⟩
 ·exact .inr fun r n hs' a b c d=>hk _ (h3 r n hs' a b c d)
theorem vcallXP_mono {P : Program} {E : Md} {f : FuncId} {args : List Operand} {dst : Option Tmp} {K K' : St -> Prop} {σ : St} (hk : ∀ σ,K σ -> K' σ) (h : vcallXP P E f args dst K σ) : vcallXP P E f args dst K' σ:=by
 obtain ⟨h0,k,rest,As,Cs,post,h1,h2,h3,h4,h5,h6⟩:=h
 exact ⟨h0,k,rest,As,Cs,post,h1,h2,h3,h4,h5,fun r cs' ws n hs' a b c d e f=>hk _ (h6 r cs' ws n hs' a b c d e f)⟩
theorem coreX_mono {P : Program} {f : FuncId} {W : List Nat} {post : Nat -> V -> List V -> List D -> Prop} {n : Nat} {vs : List V} {dst : Option Tmp} {K K' : St -> Prop} {σ : St} (hk : ∀ σ,K σ -> K' σ) (h : coreX P f W post n vs dst K σ) : coreX P f W post n vs dst K' σ:=by
 unfold coreX at *
 split at h
 ·obtain ⟨h1,h2,h3,h4,h5,h6,h7⟩:=h
  exact ⟨h1,h2,h3,h4,h5,h6,fun r cs' ws hs' a b c d e=>hk _ (h7 r cs' ws hs' a b c d e)⟩
 ·obtain ⟨h1,h2,h3,h4⟩:=h
  exact ⟨h1,h2,h3,fun r cs' ws hs' a b c d=>hk _ (h4 r cs' ws hs' a b c d)⟩
theorem vcallA_mono {P : Program} {E : Md} {f : FuncId} {args : List Operand} {vs : List V} {dst : Option Tmp} {K K' : St -> Prop} {σ : St} (hk : ∀ σ,K σ -> K' σ) (h : vcallA P E f args vs dst K σ) : vcallA P E f args vs dst K' σ:=by
 rcases h with h | ⟨h1,h2⟩ | h | h | h | h
 ·exact .inl (vcall_mono hk h)
 ·refine .inr (.inl ⟨h1,fun γ n a b=>?_⟩)
  obtain ⟨W,post,h3,h4⟩:=h2 γ n a b
  exact ⟨W,post,h3,coreX_mono hk h4⟩
 ·exact .inr (.inr (.inl (vcallP_mono hk h)))
 ·exact .inr (.inr (.inr (.inl (vcallXP_mono hk h))))
 ·obtain ⟨d,As,post,h1,h2,h3,h4,h5⟩:=h
  exact .inr (.inr (.inr (.inr (.inl ⟨d,As,post,h1,h2,h3,h4,fun ds n hs' a b c e f=>hk _ (h5 ds n hs' a b c e f)⟩))))
 ·obtain ⟨d,As,post,h1,h2,h3,h4⟩:=h
  refine .inr (.inr (.inr (.inr (.inr ⟨d,As,post,h1,h2,h3,fun r n hs' a b c=>?_⟩))))
  rcases h4 r n hs' a b c with ⟨e1,T,sz,e2,e3⟩ | ⟨g,T,sz,es,e1,e2,e3,e4⟩ | e | ⟨g,T,sz,es,b,e1,e2,e3,e4⟩
  ·exact .inl ⟨e1,T,sz,e2,hk _ e3⟩
  ·exact .inr (.inl ⟨g,T,sz,es,e1,e2,e3,hk _ e4⟩)
  ·exact .inr (.inr (.inl (hk _ e)))
  ·exact .inr (.inr (.inr ⟨g,T,sz,es,b,e1,e2,e3,hk _ e4⟩))
theorem vop_mono {P : Program} {E : Md} {E : Md} {o : Oper} {K K' : St -> Prop} {σ : St} (hk : ∀ σ,K σ -> K' σ) (h : vop P E o K σ) : vop P E o K' σ:=by
 unfold vop at *
 split at h
 ·exact vcallA_mono hk h
 ·intro A0 _ N w0 ρ a w hR hd next Q hn
  exact h A0 N w0 ρ a w hR hd next Q fun σ' ρ' a' w' h1 h2=>hn σ' ρ' a' w' h1 (hk _ h2)
 ·split at h
  ·exact ⟨h.1,hk _ h.2⟩
  ·split at h
   ·rename_i hp; rw [if_pos hp]; exact ⟨h.1,hk _ h.2⟩
   ·rename_i hp; rw [if_neg hp]; exact fun γ hs' a b=>⟨(h γ hs' a b).1,hk _ (h γ hs' a b).2⟩
 ·exact ⟨h.1,hk _ h.2⟩
theorem vops_mono {P : Program} {E : Md} {ops : Array Oper} {K K' : St -> Prop} (hk : ∀ σ,K σ -> K' σ) : ∀ (l : List Oper) (σ : St),vops P E ops K l σ -> vops P E ops K' l σ
 | [],σ,h=>hk σ h
 | o :: r, σ, h => by
   simp only [vops] at *
   split at h
   ·exact vop_mono (E:=E) (vops_mono hk r) h
   ·split at h
    ·split at h
     ·exact ⟨fun hb=>vop_mono (E:=E) (vops_mono hk r) (h.1 hb),fun hb=>vops_mono hk r _ (h.2 hb)⟩
     ·exact vops_mono hk r _ h
     ·exact h.elim
    ·exact h.elim
theorem vtr_mono {P : Program} {E : Md} {ops : Array Oper} {K K' : St -> Prop} (hk : ∀ σ,K σ -> K' σ) : ∀ (t : Tr) (σ : St),vtr P E ops K t σ -> vtr P E ops K' t σ
 | .nil,σ,h=>hk σ h
 | .seq l t,σ,h=>vops_mono (vtr_mono hk t) _ σ h
 | .app i ts t,σ,h=>⟨h.1,vops_mono (vtr_mono hk t) _ σ h.2⟩
 | .both t u,σ,h=>⟨vtr_mono hk t σ h.1,vtr_mono hk u σ h.2⟩
theorem vwp_mono {P : Program} {E : Md} {sch : Nat -> Tr} : ∀ (c : Code) (Q Q' : Exit -> St -> Prop) (σ : St),(∀ e σ,Q e σ -> Q' e σ) -> vwp P E sch c Q σ -> vwp P E sch c Q' σ
 | .skip,Q,Q',σ,hq,h=>hq _ _ h
 | .region id ops true,Q,Q',σ,hq,h=>vtr_mono (fun σ=>hq _ σ) _ σ h
 | .region id ops false,Q,Q',σ,hq,h=>vops_mono (fun σ=>hq _ σ) _ σ h
 | .seq a b,Q,Q',σ,hq,h=>vwp_mono a _ _ σ (fun e σ he=>by cases e <;> first | exact vwp_mono b _ _ σ hq he | exact hq _ _ he) h
 | .cond c x y,Q,Q',σ,hq,h=>⟨h.1,fun hb=>vwp_mono x _ _ σ hq (h.2.1 hb),fun hb=>vwp_mono y _ _ σ hq (h.2.2 hb)⟩
 | .block id c,Q,Q',σ,hq,h=>vwp_mono c _ _ σ (fun e σ he=>by
  cases e <;> first | exact hq _ _ he | skip
  simp only [inBlockV] at *
  split <;> rename_i hid <;> simp only [hid,if_true,if_false] at he <;> exact hq _ _ he) h
 | .loop c, Q, Q', σ, hq, h => by
   obtain ⟨I,h0,hr⟩:=h
   exact ⟨I,h0,fun n σ' hI=>vwp_mono c _ _ σ' (fun e σ he=>by cases e <;> first | exact he | exact hq _ _ he) (hr n σ' hI)⟩
 | .exit id,Q,Q',σ,hq,h=>hq _ _ h
 | .ret,Q,Q',σ,hq,h=>hq _ _ h
 | .rangeFunc ..,_,_,_,_,h=>h.elim
 | .scope _,_,_,_,_,h=>h.elim
 | .label _,_,_,_,_,h=>h.elim
 | .goto _,_,_,_,_,h=>h.elim
 | .refuse _,_,_,_,_,h=>h.elim
theorem upd_has {α : Type} {t : Nat -> α} {k : Nat} {x : α} (h : t k = x) : upd t k x = t:=by subst h; exact upd_self t k
def updL {α : Type} (t : Nat -> α) : List (Nat × α) -> Nat -> α
 | []=>t
 | (k,x) :: r=>upd (updL t r) k x
@[simp] theorem updL_nil {α : Type} (t : Nat -> α) : updL t [] = t:=rfl
@[simp] theorem updL_cons {α : Type} (t : Nat -> α) (k : Nat) (x : α) (r : List (Nat × α)) : updL t ((k,x) :: r) = upd (updL t r) k x:=rfl
theorem updL_has {α : Type} {t : Nat -> α} : ∀ {l : List (Nat × α)},(∀ p ∈ l,t p.1 = p.2) -> updL t l = t
 | [],_=>rfl
 | (k, x) :: r, h => by
   simp only [updL]
   rw [updL_has (fun p hp=>h p (by simp [hp]))]
   exact upd_has (h (k,x) (by simp))
def Back {X : Type} (Inv : X -> Prop) (S : X -> List (Nat × V)) (M : X -> List (Nat × Option Blk)) (μ : X -> Nat) (B : Nat) (W : List Nat) (hs n : Nat) (σ : St) : Prop:=
 Lead (fun s=>∃ x,Inv x /\ μ x < n /\ s.B = B /\ s.W = W /\ hs <= s.hs /\ (∀ p ∈ S x,s.t p.1 = p.2) /\ (∀ p ∈ M x,s.m p.1 = p.2)) σ
theorem back {X : Type} {Inv : X -> Prop} {S : X -> List (Nat × V)} {M : X -> List (Nat × Option Blk)} {μ : X -> Nat} {B : Nat} {W : List Nat} {hs n : Nat} {σ : St} (x : X) (h1 : Inv x) (h2 : μ x < n) (h3 : (σ.B,σ.W) = (B,W)) (h4 : hs <= σ.hs)
 (h5 : ∀ p ∈ S x,σ.t p.1 = p.2) (h6 : ∀ p ∈ M x,σ.m p.1 = p.2) : Back Inv S M μ B W hs n σ:=Lead.of ⟨x,h1,h2,(Prod.mk.inj h3).1,(Prod.mk.inj h3).2,h4,h5,h6⟩
def backV {X : Type} (Inv : X -> Prop) (S : X -> List (Nat × V)) (M : X -> List (Nat × Option Blk)) (μ : X -> Nat) (B : Nat) (W : List Nat) (hs n : Nat) (Q : Exit -> St -> Prop) : Exit -> St -> Prop
 | .normal,σ=>Back Inv S M μ B W hs n σ
 | e,σ=>Q e σ
theorem loop_rule {P : Program} {E : Md} {sch : Nat -> Tr} {c : Code} {Q : Exit -> St -> Prop} {B hs0 : Nat} {W : List Nat} {t0 : Nat -> V} {m0 : Nat -> Option Blk} {X : Type} (Inv : X -> Prop) (S : X -> List (Nat × V)) (M : X -> List (Nat × Option Blk)) (μ : X -> Nat) (x0 : X)
  (h0 : Inv x0) (hS : ∀ p ∈ S x0,t0 p.1 = p.2) (hM : ∀ p ∈ M x0,m0 p.1 = p.2)
  (hr : ∀ x hs t m,Inv x -> hs0 <= hs -> vwp P E sch c (backV Inv S M μ B W hs (μ x) Q) ⟨B,hs,W,updL t (S x),updL m (M x)⟩) : vloop P E sch c Q ⟨B,hs0,W,t0,m0⟩:=by
 refine ⟨fun n σ=>∃ x hs t m,Inv x /\ μ x = n /\ hs0 <= hs /\ σ = ⟨B,hs,W,updL t (S x),updL m (M x)⟩,Lead.of ⟨_,x0,hs0,t0,m0,h0,rfl,Nat.le_refl _,by rw [updL_has hS,updL_has hM]⟩,?_⟩
 rintro n σ ⟨x,hs,t,m,hx,rfl,hhs,rfl⟩
 refine vwp_mono _ _ _ _ ?_ (hr x hs t m hx hhs)
 intro e σ he
 cases e with
 | normal =>
   refine Lead.mono he ?_
   rintro s ⟨x',h1,h2,h3,h7,h4,h5,h6⟩
   obtain ⟨B',hs',W',t',m'⟩:=s
   simp only at h3 h7 h4 h5 h6
   subst h3 h7
   exact ⟨_,h2,x',hs',t',m',h1,rfl,Nat.le_trans hhs h4,by rw [updL_has h5,updL_has h6]⟩
 | _=>exact he
@[simp] theorem backV_n {X : Type} (Inv : X -> Prop) (S : X -> List (Nat × V)) (M : X -> List (Nat × Option Blk)) (μ : X -> Nat) (B : Nat) (W : List Nat) (hs n : Nat) (Q : Exit -> St -> Prop) (σ : St) : backV Inv S M μ B W hs n Q .normal σ = Back Inv S M μ B W hs n σ:=rfl
@[simp] theorem backV_e {X : Type} (Inv : X -> Prop) (S : X -> List (Nat × V)) (M : X -> List (Nat × Option Blk)) (μ : X -> Nat) (B : Nat) (W : List Nat) (hs n id : Nat) (Q : Exit -> St -> Prop) (σ : St) : backV Inv S M μ B W hs n Q (.exit id) σ = Q (.exit id) σ:=rfl
@[simp] theorem backV_r {X : Type} (Inv : X -> Prop) (S : X -> List (Nat × V)) (M : X -> List (Nat × Option Blk)) (μ : X -> Nat) (B : Nat) (W : List Nat) (hs n : Nat) (Q : Exit -> St -> Prop) (σ : St) : backV Inv S M μ B W hs n Q .ret σ = Q .ret σ:=rfl
theorem call_pure {P : Program} {E : Md} {args : List Operand} {f : FuncId} {vs : List V} {dst : Option Tmp} {K : St -> Prop} {σ : St} {v : V} (hc : VC P f vs (fun _ r=>r = v)) (hk : keysVL vs = []) (hr : rdL (fun _=>none) σ.m vs = some vs) (hv : v.ids = [])
  (hK : ∀ hs',σ.hs <= hs' -> K ({ σ with hs:=hs' }.put dst v)) : vcallA P E f args vs dst K σ:=by
 refine .inl ?_
 unfold vcall
 split
 ·refine ⟨hr,_,hc,?_⟩
  intro r n hs' a b c _
  subst c
  exact hK hs' (by omega)
 ·rename_i h; rw [hk] at h; cases h
theorem call_some {P : Program} {E : Md} {args : List Operand} {f : FuncId} {vs : List V} {dst : Option Tmp} {K : St -> Prop} {σ : St} {post : Nat -> V -> Prop} (hc : VC P f vs post) (hk : keysVL vs = []) (hr : rdL (fun _=>none) σ.m vs = some vs)
  (hK : ∀ n hs' r,σ.hs <= n -> n <= hs' -> post n r -> (∀ i ∈ r.ids,i < hs') -> K ({ σ with hs:=hs' }.put dst r)) : vcallA P E f args vs dst K σ:=by
 refine .inl ?_
 unfold vcall
 split
 ·exact ⟨hr,_,hc,fun r n hs' a b c d=>hK n hs' r a b c d⟩
 ·rename_i h; rw [hk] at h; cases h
theorem call_p {P : Program} {E : Md} {args : List Operand} {f : FuncId} {vs As : List V} {dst : Option Tmp} {K : St -> Prop} {σ : St} {v : V} (hc : VC P f As (fun _ r=>r = v)) (hr : rpL σ.m vs = some As)
  (hK : ∀ hs',σ.hs <= hs' -> v.ln -> K ({ (σ.frps (keysVL vs)) with hs:=hs' }.put dst v)) : vcallA P E f args vs dst K σ:=
 .inr (.inr (.inl ⟨As,_,hr,hc,.inr fun r n hs' a b c d=>by subst c; exact hK hs' (by omega) d⟩))
theorem call_f {P : Program} {E : Md} {args : List Operand} {f : FuncId} {vs As : List V} {dst : Option Tmp} {K : St -> Prop} {σ : St} {v : V} (hc : VC P f As (fun _ r=>r = v)) (hr : rpL σ.m vs = some As) (hf : v.flat = true)
  (hK : ∀ hs',σ.hs <= hs' -> K ({ σ with hs:=hs' }.put dst v)) : vcallA P E f args vs dst K σ:=
 .inr (.inr (.inl ⟨As,_,hr,hc,.inl fun r n hs' a b c _=>by subst c; exact ⟨hf,hK hs' (by omega)⟩⟩))
theorem call_pq {P : Program} {E : Md} {args : List Operand} {f : FuncId} {vs As : List V} {dst : Option Tmp} {K : St -> Prop} {σ : St} {post : Nat -> V -> Prop} (hc : VC P f As post) (hr : rpL σ.m vs = some As)
  (hK : ∀ n hs' r,σ.hs <= n -> n <= hs' -> post n r -> r.ln -> K ({ (σ.frps (keysVL vs)) with hs:=hs' }.put dst r)) : vcallA P E f args vs dst K σ:=
 .inr (.inr (.inl ⟨As,_,hr,hc,.inr fun r n hs' a b c d=>hK n hs' r a b c d⟩))
theorem call_o {P : Program} {E : Md} {args : List Operand} {f : FuncId} {vs As : List V} {d : Tmp} {K : St -> Prop} {σ : St} {post : Nat -> V -> Prop} (hc : VC P f As post) (hr : rpL σ.m vs = some As)
  (hK : ∀ r n hs',σ.hs <= n -> n <= hs' -> post n r -> ∃ T sz es,0 < sz /\ ((r = .d (.sl none none []) /\ es = []) \/ ∃ g,r = .d (.sl (some g) (some (T,sz)) es) /\ n <= g /\ g ∉ idsLL es) /\
   K ({ ((σ.frps (keysVL vs)).lay d (.row T sz es)) with hs:=hs' }.put (some d) (.own d 0 es.length))) : vcallA P E f args vs (some d) K σ:=
 .inr (.inr (.inr (.inr (.inr ⟨d,As,post,rfl,hr,hc,fun r n hs' a b c=>by
  obtain ⟨T,sz,es,h1,h2,h3⟩:=hK r n hs' a b c
  rcases h2 with ⟨rfl,rfl⟩ | ⟨g,rfl,h4,h5⟩
  ·exact .inl ⟨rfl,T,sz,h1,h3⟩
  ·exact .inr (.inl ⟨g,T,sz,es,rfl,h4,h5,h3⟩)⟩))))
theorem call_oe {P : Program} {E : Md} {args : List Operand} {f : FuncId} {vs As : List V} {d : Tmp} {K : St -> Prop} {σ : St} {post : Nat -> V -> Prop} (hc : VC P f As post) (hr : rpL σ.m vs = some As)
  (hK : ∀ r n hs',σ.hs <= n -> n <= hs' -> post n r -> (∃ g T sz es,r = .d (.sl (some g) (some (T,sz)) es) /\ n <= g /\ g ∉ idsLL es /\ K ({ ((σ.frps (keysVL vs)).lay d (.row T sz es)) with hs:=hs' }.put (some d) (.own d 0 es.length))) \/
   K ({ (σ.frps (keysVL vs)) with hs:=hs' }.put (some d) r)) : vcallA P E f args vs (some d) K σ:=
 .inr (.inr (.inr (.inr (.inr ⟨d,As,post,rfl,hr,hc,fun r n hs' a b c=>(hK r n hs' a b c).elim (fun h=>.inr (.inl h)) fun h=>.inr (.inr (.inl h))⟩))))
theorem call_ot {P : Program} {E : Md} {args : List Operand} {f : FuncId} {vs As : List V} {d : Tmp} {K : St -> Prop} {σ : St} {post : Nat -> V -> Prop} (hc : VC P f As post) (hr : rpL σ.m vs = some As)
  (hK : ∀ r n hs',σ.hs <= n -> n <= hs' -> post n r -> (∃ g T sz es b,r = .tup [.d (.sl (some g) (some (T,sz)) es),.d (.bool b)] /\ n <= g /\ g ∉ idsLL es /\ K ({ ((σ.frps (keysVL vs)).lay d (.row T sz es)) with hs:=hs' }.put (some d) (.tup [.own d 0 es.length,.d (.bool b)]))) \/
   K ({ (σ.frps (keysVL vs)) with hs:=hs' }.put (some d) r)) : vcallA P E f args vs (some d) K σ:=
 .inr (.inr (.inr (.inr (.inr ⟨d,As,post,rfl,hr,hc,fun r n hs' a b c=>(hK r n hs' a b c).elim (fun h=>.inr (.inr (.inr h))) fun h=>.inr (.inr (.inl h))⟩))))
@[simp] theorem t_app {P : Program} {E : Md} {ops : Array Oper} {K : St -> Prop} {σ : St} (i : Nat) (ts : List Nat) (t : Tr) : vtr P E ops K (.app i ts t) σ = (vsep σ (ops.getD i default) ts /\ vops P E ops (vtr P E ops K t) [ops.getD i default] σ):=rfl
attribute [simp] D.ln lnL lnLL V.ln lnVL
@[simp] theorem lnLL_map {α : Type} (c : α → List D) (l : List α) : lnLL (l.map c) ↔ ∀ a ∈ l, lnL (c a) := by
  induction l with
  | nil=>simp
  | cons x r ih=>simp [ih]
theorem lnL_app (l l' : List D) : lnL (l ++ l') ↔ lnL l /\ lnL l':=by
 induction l with
 | nil=>simp
 | cons x r ih=>simp [ih,and_assoc]
attribute [simp] lnL_app
attribute [simp] vsep appKey sepV sepD St.frps St.frp Vs.frp frpL rp rpL D.er erL erLL D.hp V.hp hpVL V.flat flatL
theorem x_mapVp0 (k : Nat) (es : List (List D)) : mapV (Vs.frp k es) (fun _=>V.tup []) = fun _=>V.tup []:=by
 funext i; simp [mapV,Vs.frp,frpL]
attribute [simp] x_mapVp0
@[simp] theorem w_bsP' {P : Program} {E : Md} {ops : Array Oper} {K : St -> Prop} {r : List Oper} {σ : St} {k : Tmp} {ty : TypeId} {pos : String} {af : Array Edge} (T n : Nat) (parts : Array (Nat × Operand)) (hE : E.p = true) : vops P E ops K (⟨some k,.buildSlice T n parts,ty,pos,af,none⟩ :: r) σ =
 (((tslice P T).isSome = true /\ n * (slT P T).2.1 <= 16777216 /\ parts.size = n /\ partsOk (σ.frps (keysVL (allC (parts.toList.map fun p=>σ.ev p.2)))) (slT P T).2.1 0 parts.toList /\ (allC (parts.toList.map fun p=>(σ.frps (keysVL (allC (parts.toList.map fun p=>σ.ev p.2)))).ev p.2)).all isD = true) /\
  vops P E ops K r (((σ.frps (keysVL (allC (parts.toList.map fun p=>σ.ev p.2)))).lay k (.row (slT P T).1 (slT P T).2.1 (chunk (slT P T).2.1 n ((allC (parts.toList.map fun p=>(σ.frps (keysVL (allC (parts.toList.map fun p=>σ.ev p.2)))).ev p.2)).map dD)))).put (some k) (.own k 0 n))):=w_bsP T n parts hE
def pS {α : Type} (c : α -> List D) (xs : List α) : D:=.pl (xs.map c)
def cP {α : Type} (c : α -> List D) (xs : List α) : List D:=[pS c xs]
end Go.Vs
namespace Go.Vs
def Back2 {X : Type} (Inv : X -> Nat -> Prop) (S : X -> List (Nat × V)) (M : X -> List (Nat × Option Blk)) (μ : X -> Nat) (B : Nat) (W : List Nat) (hs n : Nat) (σ : St) : Prop:=
 Lead (fun s=>∃ x,Inv x s.hs /\ μ x < n /\ s.B = B /\ s.W = W /\ hs <= s.hs /\ (∀ p ∈ S x,s.t p.1 = p.2) /\ (∀ p ∈ M x,s.m p.1 = p.2)) σ
theorem back2 {X : Type} {Inv : X -> Nat -> Prop} {S : X -> List (Nat × V)} {M : X -> List (Nat × Option Blk)} {μ : X -> Nat} {B : Nat} {W : List Nat} {hs n : Nat} {σ : St} (x : X) (h1 : Inv x σ.hs) (h2 : μ x < n) (h3 : (σ.B,σ.W) = (B,W)) (h4 : hs <= σ.hs)
 (h5 : ∀ p ∈ S x,σ.t p.1 = p.2) (h6 : ∀ p ∈ M x,σ.m p.1 = p.2) : Back2 Inv S M μ B W hs n σ:=Lead.of ⟨x,h1,h2,(Prod.mk.inj h3).1,(Prod.mk.inj h3).2,h4,h5,h6⟩
def backV2 {X : Type} (Inv : X -> Nat -> Prop) (S : X -> List (Nat × V)) (M : X -> List (Nat × Option Blk)) (μ : X -> Nat) (B : Nat) (W : List Nat) (hs n : Nat) (Q : Exit -> St -> Prop) : Exit -> St -> Prop
 | .normal,σ=>Back2 Inv S M μ B W hs n σ
 | e,σ=>Q e σ
theorem loop_rule2 {P : Program} {E : Md} {sch : Nat -> Tr} {c : Code} {Q : Exit -> St -> Prop} {B hs0 : Nat} {W : List Nat} {t0 : Nat -> V} {m0 : Nat -> Option Blk} {X : Type} (Inv : X -> Nat -> Prop) (S : X -> List (Nat × V)) (M : X -> List (Nat × Option Blk)) (μ : X -> Nat) (x0 : X)
  (h0 : Inv x0 hs0) (hS : ∀ p ∈ S x0,t0 p.1 = p.2) (hM : ∀ p ∈ M x0,m0 p.1 = p.2)
  (hr : ∀ x hs t m,Inv x hs -> hs0 <= hs -> vwp P E sch c (backV2 Inv S M μ B W hs (μ x) Q) ⟨B,hs,W,updL t (S x),updL m (M x)⟩) : vloop P E sch c Q ⟨B,hs0,W,t0,m0⟩:=by
 refine ⟨fun n σ=>∃ x hs t m,Inv x hs /\ μ x = n /\ hs0 <= hs /\ σ = ⟨B,hs,W,updL t (S x),updL m (M x)⟩,Lead.of ⟨_,x0,hs0,t0,m0,h0,rfl,Nat.le_refl _,by rw [updL_has hS,updL_has hM]⟩,?_⟩
 rintro n σ ⟨x,hs,t,m,hx,rfl,hhs,rfl⟩
 refine vwp_mono _ _ _ _ ?_ (hr x hs t m hx hhs)
 intro e σ he
 cases e with
 | normal =>
   refine Lead.mono he ?_
   rintro s ⟨x',h1,h2,h3,h7,h4,h5,h6⟩
   obtain ⟨B',hs',W',t',m'⟩:=s
   simp only at h1 h3 h7 h4 h5 h6
   subst h3 h7
   exact ⟨_,h2,x',hs',t',m',h1,rfl,Nat.le_trans hhs h4,by rw [updL_has h5,updL_has h6]⟩
 | _=>exact he
@[simp] theorem backV2_n {X : Type} (Inv : X -> Nat -> Prop) (S : X -> List (Nat × V)) (M : X -> List (Nat × Option Blk)) (μ : X -> Nat) (B : Nat) (W : List Nat) (hs n : Nat) (Q : Exit -> St -> Prop) (σ : St) : backV2 Inv S M μ B W hs n Q .normal σ = Back2 Inv S M μ B W hs n σ:=rfl
@[simp] theorem backV2_e {X : Type} (Inv : X -> Nat -> Prop) (S : X -> List (Nat × V)) (M : X -> List (Nat × Option Blk)) (μ : X -> Nat) (B : Nat) (W : List Nat) (hs n id : Nat) (Q : Exit -> St -> Prop) (σ : St) : backV2 Inv S M μ B W hs n Q (.exit id) σ = Q (.exit id) σ:=rfl
@[simp] theorem backV2_r {X : Type} (Inv : X -> Nat -> Prop) (S : X -> List (Nat × V)) (M : X -> List (Nat × Option Blk)) (μ : X -> Nat) (B : Nat) (W : List Nat) (hs n : Nat) (Q : Exit -> St -> Prop) (σ : St) : backV2 Inv S M μ B W hs n Q .ret σ = Q .ret σ:=rfl
end Go.Vs
namespace Go.Vs
section
variable {φ : Nat -> Option D}
mutual
def D.tk : D -> Bool
 | .sl _ _ es=>tkLL es
 | .pl _=>false
 | _=>true
def tkL : List D -> Bool
 | []=>true
 | x :: r=>x.tk && tkL r
def tkLL : List (List D) -> Bool
 | []=>true
 | x :: r=>tkL x && tkLL r
end
mutual
def V.tk : V -> Bool
 | .d x=>x.tk
 | .fptr x _ _=>x.tk
 | .agg cs=>tkVL cs
 | .tup cs=>tkVL cs
 | .fn ff cs=>tkVL cs
 | _=>true
def tkVL : List V -> Bool
 | []=>true
 | x :: r=>x.tk && tkVL r
end
mutual
theorem reD_id' : ∀ x : D,x.tk = true -> (∀ i ∈ x.ids,φ i = none) -> reD φ x = some x
 | .bool _,_,_=>rfl
 | .int _ _,_,_=>rfl
 | .str _,_,_=>rfl
 | .pl _,h,_=>by cases h
 | .sl none T es, ht, h => by
   simp only [D.ids,Option.toList,List.nil_append] at h
   simp only [D.tk] at ht
   simp only [reD]; rw [reLL_id' es ht h]; rfl
 | .sl (some g) T es, ht, h => by
   simp only [D.ids,Option.toList,List.mem_append,List.mem_singleton] at h
   simp only [D.tk] at ht
   simp only [reD]
   rw [h g (.inl rfl)]
   simp only
   rw [reLL_id' es ht (fun i hi=>h i (.inr hi))]; rfl
theorem reL_id' : ∀ l : List D,tkL l = true -> (∀ i ∈ idsL l,φ i = none) -> reL φ l = some l
 | [],_,_=>rfl
 | x :: r, ht, h => by
   simp only [idsL,List.mem_append] at h
   simp only [tkL,Bool.and_eq_true] at ht
   simp only [reL]
   rw [reD_id' x ht.1 (fun i hi=>h i (.inl hi)),reL_id' r ht.2 (fun i hi=>h i (.inr hi))]
theorem reLL_id' : ∀ l : List (List D),tkLL l = true -> (∀ i ∈ idsLL l,φ i = none) -> reLL φ l = some l
 | [],_,_=>rfl
 | x :: r, ht, h => by
   simp only [idsLL,List.mem_append] at h
   simp only [tkLL,Bool.and_eq_true] at ht
   simp only [reLL]
   rw [reL_id' x ht.1 (fun i hi=>h i (.inl hi)),reLL_id' r ht.2 (fun i hi=>h i (.inr hi))]
end
mutual
theorem reV_id' : ∀ v : V,v.tk = true -> (∀ i ∈ v.ids,φ i = none) -> reV φ v = v
 | .d x,ht,h=>by simp only [reV]; rw [reD_id' x ht h]
 | .fptr x _ _,ht,h=>by simp only [reV]; rw [reD_id' x ht h]
 | .own _ _ _,_,_=>rfl
 | .ptr _ _ _,_,_=>rfl
 | .bad,_,_=>rfl
 | .agg cs,ht,h=>by simp only [reV]; rw [reVL_id' cs ht h]
 | .tup cs,ht,h=>by simp only [reV]; rw [reVL_id' cs ht h]
 | .fn ff cs,ht,h=>by simp only [reV]; rw [reVL_id' cs ht h]
theorem reVL_id' : ∀ l : List V,tkVL l = true -> (∀ i ∈ idsVL l,φ i = none) -> reVL φ l = l
 | [],_,_=>rfl
 | v :: r, ht, h => by
   simp only [idsVL,List.mem_append] at h
   simp only [tkVL,Bool.and_eq_true] at ht
   simp only [reVL]
   rw [reV_id' v ht.1 (fun i hi=>h i (.inl hi)),reVL_id' r ht.2 (fun i hi=>h i (.inr hi))]
end
attribute [simp] D.tk tkL tkLL V.tk tkVL
@[simp] theorem tkLL_map {α : Type} {c : α → List D} (l : List α) (h : ∀ a, tkL (c a) = true) : tkLL (l.map c) = true := by
  induction l with
  | nil=>rfl
  | cons a r ih=>simp only [List.map_cons,tkLL,h a,ih,Bool.and_self]
@[simp] theorem tk_dSl {α : Type} {c : α → List D} (s : Sl α) (h : ∀ a, tkL (c a) = true) : (dSl c s).tk = true := by
  simp only [dSl,D.tk]; exact tkLL_map _ h
@[simp] theorem tk_cI (n : Int) : tkL (cI n) = true:=rfl
@[simp] theorem tk_cS {α : Type} {c : α → List D} (s : Sl α) (h : ∀ a, tkL (c a) = true) : tkL (cS c s) = true := by
  simp only [cS,tkL,tk_dSl s h,Bool.and_self]
@[simp] theorem tk_cSI (s : Sl Int) : tkL (cS cI s) = true:=tk_cS s tk_cI
@[simp] theorem tk_cSSI (s : Sl (Sl Int)) : tkL (cS (cS cI) s) = true:=tk_cS s tk_cSI
@[simp] theorem tk_dSlI (s : Sl Int) : (dSl cI s).tk = true:=tk_dSl s tk_cI
@[simp] theorem tk_dSlSI (s : Sl (Sl Int)) : (dSl (cS cI) s).tk = true:=tk_dSl s tk_cSI
theorem hpL_app (l l' : List D) : hpL (l ++ l') = (hpL l || hpL l'):=by simp [hpL]
theorem hpLL_app (l l' : List (List D)) : hpLL (l ++ l') = (hpLL l || hpLL l'):=by simp [hpLL]
theorem hpLL_cons (x : List D) (l : List (List D)) : hpLL (x :: l) = (hpL x || hpLL l):=by simp [hpLL]
@[simp] theorem hpLL_nil : hpLL [] = false:=rfl
@[simp] theorem hpL_nil : hpL [] = false:=rfl
@[simp] theorem hpL_cons (x : D) (l : List D) : hpL (x :: l) = (x.hp || hpL l):=by simp [hpL]
theorem hpLL_map {α : Type} {c : α -> List D} (h : ∀ a,hpL (c a) = false) (l : List α) : hpLL (l.map c) = false:=by
 induction l with
 | nil=>rfl
 | cons a r ih=>rw [List.map_cons,hpLL_cons,h a,ih]; rfl
theorem hpLL_rep (n : Nat) (z : List D) : hpLL (List.replicate n z) = (decide (0 < n) && hpL z):=by
 induction n with
 | zero=>rfl
 | succ n ih=>rw [List.replicate_succ,hpLL_cons,ih]; cases hpL z <;> simp
@[simp] theorem hp_cI (n : Int) : hpL (cI n) = false:=rfl
@[simp] theorem hp_cS {α : Type} {c : α -> List D} (s : Sl α) : hpL (cS c s) = false:=rfl
@[simp] theorem hpLL_mapI (l : List Int) : hpLL (l.map cI) = false:=hpLL_map hp_cI l
@[simp] theorem hpLL_mapS {α : Type} {c : α -> List D} (l : List (Sl α)) : hpLL (l.map (cS c)) = false:=hpLL_map hp_cS l
attribute [simp] hpL_app hpLL_app hpLL_cons hpLL_rep
theorem tkL_app (l l' : List D) : tkL (l ++ l') = (tkL l && tkL l'):=by
 induction l with
 | nil=>rfl
 | cons x r ih=>simp [ih,Bool.and_assoc]
attribute [simp] tkL_app
theorem reV_id (v : V) (h : ∀ i ∈ v.ids,φ i = none) (ht : v.tk = true:=by first | rfl | simp) : reV φ v = v:=reV_id' v ht h
theorem reV_d {x y : D} (h : reD φ x = some y) : reV φ (.d x) = .d y:=by simp only [reV,h]
@[simp] theorem reV_int (k : IntKind) (n : Int) : reV φ (.d (.int k n)) = .d (.int k n):=rfl
@[simp] theorem reV_bool (b : Bool) : reV φ (.d (.bool b)) = .d (.bool b):=rfl
@[simp] theorem reV_str (s : List UInt8) : reV φ (.d (.str s)) = .d (.str s):=rfl
@[simp] theorem reV_nil (T : Option (TypeId × Nat)) : reV φ (.d (.sl none T [])) = .d (.sl none T []):=rfl
@[simp] theorem reV_own (k lo n : Nat) : reV φ (.own k lo n) = .own k lo n:=rfl
@[simp] theorem reV_ptr (k lo n : Nat) : reV φ (.ptr k lo n) = .ptr k lo n:=rfl
@[simp] theorem reV_bad : reV φ .bad = .bad:=rfl
@[simp] theorem reV_agg (cs : List V) : reV φ (.agg cs) = .agg (reVL φ cs):=by simp only [reV]
@[simp] theorem reV_tup (cs : List V) : reV φ (.tup cs) = .tup (reVL φ cs):=by simp only [reV]
@[simp] theorem reVL_nil : reVL φ [] = []:=rfl
@[simp] theorem reVL_cons (v : V) (r : List V) : reVL φ (v :: r) = reV φ v :: reVL φ r:=by simp only [reVL]
end
theorem x_re {B hs : Nat} {W : List Nat} {t : Nat -> V} {m : Nat -> Option Blk} (φ : Nat -> Option D) : (St.mk B hs W t m).re φ = ⟨B,hs,W,mapV (reV φ) t,reM φ m⟩:=rfl
theorem x_reM (φ : Nat -> Option D) (m : Nat -> Option Blk) (k : Nat) (b : Option Blk) : reM φ (upd m k b) = upd (reM φ m) k (b.bind (Blk.re φ)):=by
 funext i; simp only [reM,upd]; split <;> rfl
theorem x_reM0 (φ : Nat -> Option D) : reM φ (fun _=>none) = fun _=>none:=rfl
@[simp] theorem re_box (φ : Nat -> Option D) (cs : List V) : Blk.re φ (.box cs) = some (.box (reVL φ cs)):=rfl
@[simp] theorem re_row (φ : Nat -> Option D) (T sz : Nat) (es : List (List D)) : Blk.re φ (.row T sz es) = (reLL φ es).map (.row T sz):=rfl
theorem x_mapVre0 (φ : Nat -> Option D) : mapV (reV φ) (fun _=>V.tup []) = fun _=>V.tup []:=by
 funext i; rfl
attribute [simp] x_re x_reM x_reM0 x_mapVre0
theorem lookD_none {g : Nat} : ∀ x : D,g ∉ x.ids -> lookD g x = none:=by
 have key : ∀ (x : D) (y : D),lookD g x = some y -> g ∈ x.ids:=by
  intro x
  refine D.rec (motive_1:=fun x=>∀ y,lookD g x = some y -> g ∈ x.ids) (motive_2:=fun l=>∀ y,lookLL g l = some y -> g ∈ idsLL l) (motive_3:=fun l=>∀ y,lookL g l = some y -> g ∈ idsL l) ?_ ?_ ?_ ?_ ?_ ?_ ?_ ?_ ?_ x
  ·intro b y h; simp [lookD] at h
  ·intro k n y h; simp [lookD] at h
  ·intro s y h; simp [lookD] at h
  ·intro id T es ih y h
   cases id with
   | none=>simp only [lookD] at h; simp only [D.ids,Option.toList,List.nil_append]; exact ih y h
   | some g' =>
     simp only [lookD] at h
     simp only [D.ids,Option.toList,List.mem_append,List.mem_singleton]
     split at h
     ·rename_i e; exact .inl e.symm
     ·exact .inr (ih y h)
  ·intro es _ y h; simp [lookD] at h
  ·intro y h; simp [lookLL] at h
  ·intro x r ih1 ih2 y h
   simp only [lookLL] at h
   simp only [idsLL,List.mem_append]
   split at h
   ·rename_i z hz; exact .inl (ih1 z hz)
   ·exact .inr (ih2 y h)
  ·intro y h; simp [lookL] at h
  ·intro x r ih1 ih2 y h
   simp only [lookL] at h
   simp only [idsL,List.mem_append]
   split at h
   ·rename_i z hz; exact .inl (ih1 z hz)
   ·exact .inr (ih2 y h)
 intro x hx
 cases h : lookD g x with
 | none=>rfl
 | some y=>exact absurd (key x y h) hx
theorem lookL_skip {g : Nat} {x : D} (r : List D) (h : g ∉ x.ids) : lookL g (x :: r) = lookL g r:=by simp [lookL,lookD_none x h]
theorem phi_out {W : List Nat} {ws : List D} {g : Nat} (h : g ∉ W) : phi W ws g = none:=by simp [phi,h]
theorem one_out {g j : Nat} {d : D} (h : j ≠ g) : one g d j = none:=by simp [one,h]
section
variable {α : Type} {c : α -> List D}
theorem idsLL_map_mem {l : List α} {g : Nat} : g ∈ idsLL (l.map c) ↔ ∃ a ∈ l,g ∈ idsL (c a):=by
 constructor
 ·intro h
  obtain ⟨e,he,hg⟩:=of_idsLL h
  obtain ⟨a,ha,rfl⟩:=List.mem_map.1 he
  exact ⟨a,ha,hg⟩
 ·rintro ⟨a,ha,hg⟩
  induction l with
  | nil=>cases ha
  | cons b r ih =>
    simp only [List.map_cons,idsLL,List.mem_append]
    rcases List.mem_cons.1 ha with rfl | ha
    ·exact .inl hg
    ·exact .inr (ih ha)
theorem idsL_app (l l' : List D) : idsL (l ++ l') = idsL l ++ idsL l':=by
 induction l with
 | nil=>rfl
 | cons x r ih=>simp [idsL,ih]
theorem idsLL_append (l l' : List (List D)) : idsLL (l ++ l') = idsLL l ++ idsLL l':=by
 induction l with
 | nil=>rfl
 | cons x r ih=>simp [idsLL,ih]
theorem nd_apart {l : List α} (h : (idsLL (l.map c)).Nodup) {i j : Nat} (hi : i < l.length) (hj : j < l.length) (hij : j ≠ i) : ∀ g ∈ idsL (c l[j]),g ∉ idsL (c l[i]):=by
 induction l generalizing i j with
 | nil=>simp at hi
 | cons b r ih =>
   simp only [List.map_cons,idsLL] at h
   have h2:=List.nodup_append.1 h
   cases i with
   | zero =>
     cases j with
     | zero=>exact absurd rfl hij
     | succ j =>
       intro g hg hg'
       simp only [List.getElem_cons_succ,List.getElem_cons_zero] at hg hg'
       exact h2.2.2 g hg' g (idsLL_map_mem.2 ⟨_,List.getElem_mem _,hg⟩) rfl
   | succ i =>
     cases j with
     | zero =>
       intro g hg hg'
       simp only [List.getElem_cons_succ,List.getElem_cons_zero] at hg hg'
       exact h2.2.2 g hg g (idsLL_map_mem.2 ⟨_,List.getElem_mem _,hg'⟩) rfl
     | succ j=>simpa using ih h2.2.1 (by simpa using hi) (by simpa using hj) (by omega)
variable {φ : Nat -> Option D}
theorem reLL_set {l : List α} {i : Nat} {a' : α} (hi : i < l.length) (h1 : reL φ (c l[i]) = some (c a')) (h2 : ∀ j (hj : j < l.length),j ≠ i -> reL φ (c l[j]) = some (c l[j])) : reLL φ (l.map c) = some ((l.set i a').map c):=by
 induction l generalizing i with
 | nil=>simp at hi
 | cons b r ih =>
   cases i with
   | zero =>
     simp only [List.getElem_cons_zero] at h1
     simp only [List.map_cons,List.set_cons_zero,reLL,h1]
     have : ∀ l : List α,(∀ j (hj : j < l.length),reL φ (c l[j]) = some (c l[j])) -> reLL φ (l.map c) = some (l.map c):=by
      intro l
      induction l with
      | nil=>intro _; rfl
      | cons x s ih' =>
        intro h
        simp only [List.map_cons,reLL]
        rw [show reL φ (c x) = some (c x) from h 0 (by simp),ih' (fun j hj=>h (j + 1) (Nat.succ_lt_succ hj))]
     rw [this r (fun j hj=>h2 (j + 1) (Nat.succ_lt_succ hj) (by omega))]
   | succ i =>
     simp only [List.map_cons,List.set_cons_succ,reLL]
     rw [show reL φ (c b) = some (c b) from h2 0 (by simp) (by omega),ih (by simpa using hi) (by simpa using h1) (fun j hj hji=>h2 (j + 1) (Nat.succ_lt_succ hj) (by omega))]
theorem re_set (s : Sl α) {i : Nat} {a' : α} (hi : i < s.xs.length) (hid : ∀ g,s.id = some g -> φ g = none) (h1 : reL φ (c s.xs[i]) = some (c a')) (h2 : ∀ j (hj : j < s.xs.length),j ≠ i -> ∀ g ∈ idsL (c s.xs[j]),φ g = none) (htk : ∀ a,tkL (c a) = true:=by intro a; simp) :
  reD φ (dSl c s) = some (dSl c ⟨s.id,s.T,s.xs.set i a'⟩):=by
 have h3:=reLL_set (c:=c) hi h1 (fun j hj hji=>reL_id' _ (htk _) (h2 j hj hji))
 obtain ⟨id,T,xs⟩:=s
 simp only [dSl] at *
 cases id with
 | none=>simp only [reD,h3,Option.map_some]
 | some g=>simp only [reD]; rw [hid g rfl]; simp only [h3,Option.map_some]
structure Sl.wh (s : Sl α) : Prop where
 nil : s.id = none -> s.xs = []
 some : s.id ≠ none -> s.T.isSome = true
theorem Sl.wh.set {s : Sl α} (h : s.wh) (i : Nat) (a : α) : (⟨s.id,s.T,s.xs.set i a⟩ : Sl α).wh:=⟨fun h'=>by simp [h.nil h'],h.some⟩
theorem Sl.wh.of {s : Sl α} (h : s.wh) {xs : List α} (hl : xs.length = s.xs.length) : (⟨s.id,s.T,xs⟩ : Sl α).wh:=⟨fun h'=>List.eq_nil_of_length_eq_zero (by rw [hl,h.nil h']; rfl),h.some⟩
theorem Sl.wh.id {s : Sl α} (h : s.wh) {i : Nat} (hi : i < s.xs.length) : ∃ g,s.id = Option.some g /\ ∃ T,s.T = Option.some T:=by
 cases hid : s.id with
 | none=>rw [h.nil hid] at hi; simp at hi
 | some g =>
   have:=h.some (by rw [hid]; simp)
   obtain ⟨T,hT⟩:=Option.isSome_iff_exists.1 this
   exact ⟨g,rfl,T,hT⟩
theorem re_one {s : Sl α} (h : s.wh) {g : Nat} (hg : s.id = some g) {xs : List α} (hl : xs.length = s.xs.length) (hc : ∀ a b,(c a).length = (c b).length) :
  reD (one g (dSl c ⟨s.id,s.T,xs⟩)) (dSl c s) = some (dSl c ⟨s.id,s.T,xs⟩):=by
 obtain ⟨id,T,xs0⟩:=s
 simp only at hg
 subst hg
 have hT:=h.some (by simp)
 simp only [dSl,reD,one,if_true]
 rw [if_pos]
 refine ⟨trivial,hT,trivial,?_⟩
 simp only at hl
 apply List.ext_getElem (by simpa using hl)
 intro i h1 h2
 simp only [List.getElem_map]
 exact hc _ _
theorem re_phi {W : List Nat} {ws : List D} {s : Sl α} (h : s.wh) {xs : List α} (hl : xs.length = s.xs.length) (hc : ∀ a b,(c a).length = (c b).length)
  (hg : ∀ g,s.id = some g -> g ∈ W /\ lookL g ws = some (dSl c ⟨s.id,s.T,xs⟩)) : reD (phi W ws) (dSl c s) = some (dSl c ⟨s.id,s.T,xs⟩):=by
 cases hid : s.id with
 | none =>
   have hx:=h.nil hid
   obtain ⟨id,T,xs0⟩:=s
   simp only at hid hx hl
   subst hid hx
   have : xs = []:=List.eq_nil_of_length_eq_zero hl
   subst this
   rfl
 | some g =>
   obtain ⟨h1,h2⟩:=hg g hid
   have:=re_one (c:=c) h hid hl hc
   obtain ⟨id,T,xs0⟩:=s
   simp only at hid
   subst hid
   simp only [dSl,reD,one,if_true,phi,h1,h2,Option.getD_some] at this ⊢
   exact this
theorem look_root {g : Nat} {s : Sl α} (h : s.id = some g) (r : List D) : lookL g (dSl c s :: r) = some (dSl c s):=by
 obtain ⟨id,T,xs⟩:=s
 simp only at h
 subst h
 simp [lookL,dSl,lookD]
theorem mem_sl_ids {s : Sl α} {g : Nat} : g ∈ (dSl c s).ids ↔ s.id = some g \/ g ∈ idsLL (s.xs.map c):=by
 obtain ⟨id,T,xs⟩:=s
 cases id <;> simp [dSl,D.ids,eq_comm]
theorem sl_nd {s : Sl α} (h : (dSl c s).ids.Nodup) : (idsLL (s.xs.map c)).Nodup /\ ∀ g,s.id = some g -> g ∉ idsLL (s.xs.map c):=by
 obtain ⟨id,T,xs⟩:=s
 cases id with
 | none=>simpa [dSl,D.ids] using h
 | some g=>simp [dSl,D.ids] at h; exact ⟨h.2,fun g' hg'=>by simp at hg'; subst hg'; exact h.1⟩
end
section
variable {α : Type}
def mkList (mk : α -> Int -> α) (wt : α -> Nat) : List α -> Int -> List α
 | [],_=>[]
 | a :: r,k=>mk a k :: mkList mk wt r (k + wt a)
def hlList (hl : α -> Int -> Bool) (wt : α -> Nat) : List α -> Int -> Bool
 | [],_=>true
 | a :: r,k=>hl a k && hlList hl wt r (k + wt a)
variable {mk : α -> Int -> α} {hl : α -> Int -> Bool} {wt : α -> Nat}
@[simp] theorem mkList_length : ∀ (l : List α) (k : Int), (mkList mk wt l k).length = l.length
  | [],_=>rfl
  | a :: r,k=>by simp [mkList,mkList_length r]
theorem mkList_append : ∀ (l l' : List α) (k : Int),mkList mk wt (l ++ l') k = mkList mk wt l k ++ mkList mk wt l' (k + sumW wt l)
 | [],l',k=>by simp [mkList]
 | a :: r,l',k=>by simp [mkList,mkList_append r,Int.add_assoc]
theorem hlList_append : ∀ (l l' : List α) (k : Int),hlList hl wt (l ++ l') k = (hlList hl wt l k && hlList hl wt l' (k + sumW wt l))
 | [],l',k=>by simp [hlList]
 | a :: r,l',k=>by simp [hlList,hlList_append r,Int.add_assoc,Bool.and_assoc]
def mkAt (mk : α -> Int -> α) (wt : α -> Nat) (l : List α) (k : Int) (i : Nat) : List α:=mkList mk wt (l.take i) k ++ l.drop i
@[simp] theorem mkAt_zero (l : List α) (k : Int) : mkAt mk wt l k 0 = l:=by simp [mkAt,mkList]
@[simp] theorem mkAt_length (l : List α) (k : Int) (i : Nat) : (mkAt mk wt l k i).length = l.length:=by simp [mkAt]; omega
theorem mkAt_all {l : List α} {k : Int} {i : Nat} (h : i = l.length) : mkAt mk wt l k i = mkList mk wt l k:=by subst h; simp [mkAt]
@[simp] theorem mkAt_get {l : List α} {k : Int} {i : Nat} (h : i < (mkAt mk wt l k i).length) : (mkAt mk wt l k i)[i] = l[i]'(by simpa using h) := by
  simp only [mkAt_length] at h
  have hl : (mkList mk wt (l.take i) k).length = i:=by simp; omega
  simp only [mkAt]
  rw [List.getElem_append_right (by omega)]
  simp [hl]
theorem mkAt_succ {l : List α} {k : Int} {i : Nat} (h : i < l.length) : mkAt mk wt l k (i + 1) = (mkAt mk wt l k i).set i (mk l[i] (k + sumW wt (l.take i))):=by
 have hl : (mkList mk wt (l.take i) k).length = i:=by simp; omega
 simp only [mkAt]
 rw [List.take_succ_eq_append_getElem h,mkList_append,List.drop_eq_getElem_cons h]
 rw [List.set_append_right _ _ (by omega),hl,Nat.sub_self,List.set_cons_zero]
 simp [mkList]
theorem hl_mk (h : ∀ a k,hl (mk a k) k = true) (hw : ∀ a k,wt (mk a k) = wt a) : ∀ (l : List α) (k : Int),hlList hl wt (mkList mk wt l k) k = true
 | [],_=>rfl
 | a :: r,k=>by simp [mkList,hlList,h,hw,hl_mk h hw r]
theorem wt_mk (hw : ∀ a k,wt (mk a k) = wt a) : ∀ (l : List α) (k : Int),sumW wt (mkList mk wt l k) = sumW wt l
 | [],_=>rfl
 | a :: r,k=>by simp [mkList,hw,wt_mk hw r]
theorem hlList_step {l : List α} {k : Int} {i : Nat} (h : i < l.length) : hlList hl wt (l.take (i + 1)) k = (hlList hl wt (l.take i) k && hl l[i] (k + sumW wt (l.take i))):=by
 rw [List.take_succ_eq_append_getElem h,hlList_append]; simp [hlList]
theorem hlList_bad {l : List α} {k : Int} {i : Nat} (h : i < l.length) (hb : hl l[i] (k + sumW wt (l.take i)) = false) : hlList hl wt l k = false:=by
 rw [<- List.take_append_drop (i + 1) l,hlList_append,hlList_step h,hb]; simp
theorem ids_mk {c : α -> List D} (hi : ∀ a k,idsL (c (mk a k)) = idsL (c a)) : ∀ (l : List α) (k : Int),idsLL ((mkList mk wt l k).map c) = idsLL (l.map c)
 | [],_=>rfl
 | a :: r,k=>by simp [mkList,idsLL,hi,ids_mk hi r]
theorem ids_mkAt {c : α -> List D} (hi : ∀ a k,idsL (c (mk a k)) = idsL (c a)) (l : List α) (k : Int) (i : Nat) : idsLL ((mkAt mk wt l k i).map c) = idsLL (l.map c):=by
 simp only [mkAt,List.map_append,idsLL_append,ids_mk hi]
 rw [<- idsLL_append,<- List.map_append,List.take_append_drop]
end
section
variable {P : Program} {E : Md} {args : List Operand} {f : FuncId} {vs : List V} {dst : Option Tmp} {K : St -> Prop} {σ : St}
theorem call_x {W : List Nat} {post : Nat -> V -> List V -> List D -> Prop} (hE : E f = true) (hvs : args.map σ.ev = vs) (hk : keysVL vs = []) (hr : rdL (fun _=>none) σ.m vs = some vs) (hW : ∀ g ∈ W,σ.wr g) (hc : VX P f W vs none post)
  (hK : ∀ n hs' r cs' ws,σ.hs <= n -> n <= hs' -> post n r cs' ws -> (∀ i ∈ r.ids,i < hs') -> (∀ d ∈ ws,∀ i ∈ d.ids,i < hs') -> K ({ (σ.re (phi W ws)) with hs:=hs' }.put dst r)) : vcallA P E f args vs dst K σ:=by
 refine .inr (.inl ⟨hE,fun γ n hn hg=>⟨W,post,hW,?_⟩⟩)
 have hb : boxOf σ.m (args.map σ.ev) = []:=by
  rw [hvs]
  unfold boxOf
  split
  ·simp [rdL,rd] at hr
  ·rfl
 rw [hvs] at hb ⊢
 have hkk : keysVL (vs ++ boxOf σ.m vs) = []:=by rw [hb]; simpa using hk
 rw [hkk]
 simp only [St.frzs]
 have hev : args.map ({ σ with hs:=n } : St).ev = vs:=hvs
 rw [hev]
 unfold coreX
 split
 ·simp [rdL,rd] at hr
 ·exact ⟨hk,hr,hc,fun r cs' ws hs' a b c d=>hK n hs' r cs' ws hn a b c d⟩
end
theorem gam_row {σ : St} {γ : Nat -> Option Nat} {hs' k T sz : Nat} {es : List (List D)} (hg : Gam σ γ hs') (hm : σ.m k = some (.row T sz es)) (hlk : k < 1000:=by decide) : ∀ g,γ k = some g -> g ∉ idsLL es:=
 fun g h=>(hg.fr k T sz es g hm h hlk).1.row k T sz es hm
theorem startX_m (W : List Nat) : (fun k : Nat=>if k = 1000 then (none : Option (List V)).map Blk.box else none) = fun _=>none:=by
 funext k; simp
@[simp] theorem startX1 (a : V) (W : List Nat) (B : Nat) : St.startX [a] W none B = ⟨B, B, W, upd (fun _ => .tup []) 0 a, fun _ => none⟩ := by
  simp only [St.startX,St.mk.injEq,true_and]
  refine ⟨?_,by funext k; simp⟩
  funext i; match i with | 0=>rfl | _ + 1=>rfl
@[simp] theorem startX2 (a b : V) (W : List Nat) (B : Nat) : St.startX [a, b] W none B = ⟨B, B, W, upd (upd (fun _ => .tup []) 1 b) 0 a, fun _ => none⟩ := by
  simp only [St.startX,St.mk.injEq,true_and]
  refine ⟨?_,by funext k; simp⟩
  funext i; match i with | 0=>rfl | 1=>rfl | _ + 2=>rfl
theorem startX_box (cs : List V) : (fun k : Nat=>if k = 1000 then (some cs).map Blk.box else none) = upd (fun _=>none) 1000 (some (.box cs)):=by
 funext k; simp [upd]
@[simp] theorem startX1b (a : V) (W : List Nat) (cs : List V) (B : Nat) : St.startX [a] W (some cs) B = ⟨B, B, W, upd (fun _ => .tup []) 0 a, upd (fun _ => none) 1000 (some (.box cs))⟩ := by
  simp only [St.startX,St.mk.injEq,true_and]
  refine ⟨?_,startX_box cs⟩
  funext i; match i with | 0=>rfl | _ + 1=>rfl
@[simp] theorem startX2b (a b : V) (W : List Nat) (cs : List V) (B : Nat) : St.startX [a, b] W (some cs) B = ⟨B, B, W, upd (upd (fun _ => .tup []) 1 b) 0 a, upd (fun _ => none) 1000 (some (.box cs))⟩ := by
  simp only [St.startX,St.mk.injEq,true_and]
  refine ⟨?_,startX_box cs⟩
  funext i; match i with | 0=>rfl | 1=>rfl | _ + 2=>rfl
@[simp] theorem startX3b (a b c : V) (W : List Nat) (cs : List V) (B : Nat) : St.startX [a, b, c] W (some cs) B = ⟨B, B, W, upd (upd (upd (fun _ => .tup []) 2 c) 1 b) 0 a, upd (fun _ => none) 1000 (some (.box cs))⟩ := by
  simp only [St.startX,St.mk.injEq,true_and]
  refine ⟨?_,startX_box cs⟩
  funext i; match i with | 0=>rfl | 1=>rfl | 2=>rfl | _ + 3=>rfl
attribute [simp] dsV
theorem mem_slids {α : Type} {c : α -> List D} {s : Sl α} {g : Nat} (h : s.id = some g) : g ∈ (dSl c s).ids:=mem_sl_ids.2 (.inl h)
theorem sumW_one {α : Type} {w : α -> Nat} (h : ∀ a,w a = 1) (l : List α) : sumW w l = l.length:=by
 induction l with
 | nil=>rfl
 | cons a r ih=>simp [h,ih]; omega
@[simp] theorem vretX_n {P : Program} {E : Md} {rs : List ResultVar} {post : Nat -> V -> List V -> List D -> Prop} {W : List Nat} {bx : Bool} {σ : St} : vretX P E rs post W bx .normal σ = vendX P E rs post W bx σ:=rfl
@[simp] theorem vretX_r {P : Program} {E : Md} {rs : List ResultVar} {post : Nat -> V -> List V -> List D -> Prop} {W : List Nat} {bx : Bool} {σ : St} : vretX P E rs post W bx .ret σ = vendX P E rs post W bx σ:=rfl
@[simp] theorem vretX_e {P : Program} {E : Md} {rs : List ResultVar} {post : Nat -> V -> List V -> List D -> Prop} {W : List Nat} {bx : Bool} {σ : St} {id : Nat} : vretX P E rs post W bx (.exit id) σ = False:=rfl
theorem re_oneSet {g : Nat} {T : TypeId × Nat} {es : List (List D)} {i : Nat} {e' : List D} (h : ∀ e,es[i]? = some e -> e'.length = e.length) :
  reV (one g (.sl (some g) (some T) (es.set i e'))) (.d (.sl (some g) (some T) es)) = .d (.sl (some g) (some T) (es.set i e')):=by
 simp only [reV,reD,one,if_true]
 rw [if_pos]
 refine ⟨trivial,rfl,trivial,?_⟩
 apply List.ext_getElem?
 intro j
 simp only [List.getElem?_map,List.getElem?_set]
 split
 ·rename_i hij
  subst hij
  split
  ·rename_i hlt
   rw [List.getElem?_eq_getElem hlt]
   simp only [Option.map_some]
   rw [h _ (List.getElem?_eq_getElem hlt)]
  ·rename_i hge
   rw [List.getElem?_eq_none (by omega)]
 ·rfl
@[simp] theorem ids_cI (l : List Int) : idsLL (l.map cI) = [] := by
  induction l with
  | nil=>rfl
  | cons a r ih=>simp [idsLL,cI,idsL,ih]
theorem set_map {α : Type} {c : α -> List D} (l : List α) (i : Nat) (a : α) : (l.map c).set i (c a) = (l.set i a).map c:=by rw [List.map_set]
attribute [simp] St.wr
theorem reL_one {φ : Nat -> Option D} {x y : D} (h : reD φ x = some y) : reL φ [x] = some [y]:=by simp [reL,h]
theorem re_root {β : Type} {c : β -> List D} (hc : ∀ a b,(c a).length = (c b).length) {s : Sl β} (h : s.wh) {ys : List β} (hl : ys.length = s.xs.length) {W : List Nat} (hW : ∀ g,s.id = some g -> g ∈ W) (r : List D) :
  reD (phi W (dSl c ⟨s.id,s.T,ys⟩ :: r)) (dSl c s) = some (dSl c ⟨s.id,s.T,ys⟩):=
 re_phi h hl hc fun g hg=>⟨hW g hg,look_root (s:=⟨s.id,s.T,ys⟩) hg r⟩
theorem re_elem {α : Type} {c : α -> List D} {s : Sl α} {i : Nat} {a' : α} {W : List Nat} {ws : List D} (hnd : (dSl c s).ids.Nodup) (hi : i < s.xs.length) (hW : ∀ g ∈ W,g ∈ idsL (c s.xs[i])) (h : reL (phi W ws) (c s.xs[i]) = some (c a')) (htk : ∀ a,tkL (c a) = true:=by intro a; simp) :
  reV (phi W ws) (.d (dSl c s)) = .d (dSl c ⟨s.id,s.T,s.xs.set i a'⟩):=by
 have h2:=sl_nd hnd
 refine reV_d (re_set s hi (fun g hg=>phi_out fun hin=>?_) h (fun j hj hji g hg=>phi_out fun hin=>?_) htk)
 ·exact h2.2 g hg (idsLL_map_mem.2 ⟨_,List.getElem_mem _,hW g hin⟩)
 ·exact nd_apart h2.1 hi hj hji g hg (hW g hin)
theorem elem_ids {α : Type} {c : α -> List D} {s : Sl α} {i : Nat} (hi : i < s.xs.length) {g : Nat} (h : g ∈ idsL (c s.xs[i])) : g ∈ (dSl c s).ids:=mem_sl_ids.2 (.inr (idsLL_map_mem.2 ⟨_,List.getElem_mem _,h⟩))
theorem elem_nd {α : Type} {c : α -> List D} {l : List α} (h : (idsLL (l.map c)).Nodup) {i : Nat} (hi : i < l.length) : (idsL (c l[i])).Nodup:=by
 induction l generalizing i with
 | nil=>simp at hi
 | cons b r ih =>
   simp only [List.map_cons,idsLL] at h
   have h2:=List.nodup_append.1 h
   cases i with
   | zero=>exact h2.1
   | succ i=>exact ih h2.2.1 (Nat.lt_of_succ_lt_succ hi)
@[simp] theorem re_oneSet2 {g : Nat} {T : TypeId × Nat} {es : List (List D)} {i : Nat} {e' : List D} (h : e'.length = (es.getD i e').length) :
   reV (one g (.sl (some g) (some T) (es.set i e'))) (.d (.sl (some g) (some T) es)) = .d (.sl (some g) (some T) (es.set i e')):=
  re_oneSet fun e he=>by rw [h]; simp [List.getD,he]
@[simp] theorem getD_set_self {α : Type} (l : List α) (i : Nat) (a d : α) (h : i < l.length) : (l.set i a).getD i d = a:=by simp [List.getD,h]
theorem nin_set {g i : Nat} {es : List (List D)} {e' : List D} (h : g ∉ idsLL es) (h' : g ∉ idsL e') : g ∉ idsLL (es.set i e'):=by
 intro hin
 obtain ⟨e,he,hg⟩:=of_idsLL hin
 rcases List.mem_or_eq_of_mem_set he with he | rfl
 ·obtain ⟨u,hu,hg⟩:=of_idsL hg
  exact h (mem_idsLL he (mem_idsL hu hg))
 ·exact h' hg
theorem reLL_of {φ : Nat -> Option D} : ∀ {l l' : List (List D)},l'.length = l.length -> (∀ (i : Nat) (e e' : List D),l[i]? = some e -> l'[i]? = some e' -> reL φ e = some e') -> reLL φ l = some l'
 | [],l',hl,_=>by cases l' with | nil=>rfl | cons _ _=>simp at hl
 | x :: r, l', hl, h => by
   cases l' with
   | nil=>simp at hl
   | cons y s =>
     simp only [reLL]
     rw [h 0 x y rfl rfl,reLL_of (by simpa using hl) (fun i e e' he he'=>h (i + 1) e e' (by simpa using he) (by simpa using he'))]
theorem tkLL_at {es : List (List D)} (h : tkLL es = true) {j : Nat} {e : List D} (he : es[j]? = some e) : tkL e = true:=by
 induction es generalizing j with
 | nil=>simp at he
 | cons x r ih =>
   simp only [tkLL,Bool.and_eq_true] at h
   cases j with
   | zero=>simp at he; rw [<- he]; exact h.1
   | succ j=>exact ih h.2 (by simpa using he)
theorem re_elemD {φ : Nat -> Option D} {g i : Nat} {T : Option (TypeId × Nat)} {es : List (List D)} {e1 e2 : List D} (hg : φ g = none) (h1 : reL φ e1 = some e2) (h2 : ∀ (j : Nat) (e : List D),j ≠ i -> es[j]? = some e -> ∀ q ∈ idsL e,φ q = none) (htk : tkLL es = true:=by simp) :
  reV φ (.d (.sl (some g) T (es.set i e1))) = .d (.sl (some g) T (es.set i e2)):=by
 refine reV_d ?_
 simp only [reD,hg]
 rw [reLL_of (l':=es.set i e2) (by simp) ?_]
 ·rfl
 ·intro j e e' he he'
  rw [List.getElem?_set] at he he'
  by_cases hij : i = j
  ·subst hij
   simp only [if_true] at he he'
   split at he
   ·rename_i hlt
    simp only [hlt,if_true] at he'
    cases he; cases he'; exact h1
   ·cases he
  ·simp only [hij,if_false] at he he'
   rw [he] at he'
   cases he'
   exact reL_id' e (tkLL_at htk he) (h2 j e (Ne.symm hij) he)
theorem nd_mapD {α : Type} {c : α -> List D} {l : List α} (h : (idsLL (l.map c)).Nodup) {W : List Nat} {i : Nat} (hi : i < l.length) (hW : ∀ g ∈ W,g ∈ idsL (c l[i])) (ws : List D) :
  ∀ (j : Nat) (e : List D),j ≠ i -> (l.map c)[j]? = some e -> ∀ q ∈ idsL e,phi W ws q = none:=by
 intro j e hji he q hq
 rw [List.getElem?_map] at he
 cases hj : l[j]? with
 | none=>simp [hj] at he
 | some a =>
   simp only [hj,Option.map_some,Option.some.injEq] at he
   subst he
   have hjl:=(List.getElem?_eq_some_iff.1 hj)
   obtain ⟨hlt,rfl⟩:=hjl
   exact phi_out fun hin=>nd_apart h hi hlt hji q hq (hW q hin)
def hv (b : Bool) (k : Int) (w : Nat) : Int:=if b then k + w else -1
@[simp] theorem hv_t (k : Int) (w : Nat) : hv true k w = k + w:=rfl
@[simp] theorem hv_f (k : Int) (w : Nat) : hv false k w = -1:=rfl
@[simp] theorem re_oneSet3 {g : Nat} {T : TypeId × Nat} {es : List (List D)} {i : Nat} {e1 e2 : List D} (h : e2.length = e1.length) :
   reV (one g (.sl (some g) (some T) (es.set i e2))) (.d (.sl (some g) (some T) (es.set i e1))) = .d (.sl (some g) (some T) (es.set i e2)):=by
  have:=re_oneSet (g:=g) (T:=T) (es:=es.set i e1) (i:=i) (e':=e2) (fun e he=>by
   rw [List.getElem?_set] at he
   simp only [if_true] at he
   split at he
   ·cases he; exact h
   ·cases he)
  rw [List.set_set] at this
  exact this
end Go.Vs
namespace Go.Vs
def mdig : Nat -> Int -> List UInt8 -> List UInt8
 | 0,_,out=>out
 | n + 1,k,out=>if 0 < k then mdig n (k.tdiv 10) (UInt8.ofNat (IntKind.u8.wrap (48 + k.tmod 10)).toNat :: out) else out
def mtext (k : Int) : List UInt8:=109 :: mdig 64 k []
def cStr (s : List UInt8) : List D:=[.str s]
def plI (n : Int) : Int:=n
def plStr (s : List UInt8) : List UInt8:=s
def whI (_ : Int) : Prop:=True
def whStr (_ : List UInt8) : Prop:=True
def wtI (_ : Int) : Nat:=1
def wtStr (_ : List UInt8) : Nat:=1
def mkI (_ : Int) (k : Int) : Int:=k
def mkStr (_ : List UInt8) (k : Int) : List UInt8:=mtext k
def hlI (n : Int) (k : Int) : Bool:=n == k
def hlStr (s : List UInt8) (k : Int) : Bool:=s == mtext k
def swI (_ : Int) : Nat:=0
def swStr (s : List UInt8) : Nat:=s.length
def okI (_ : Int) : Prop:=True
def okStr (s : List UInt8) : Prop:=s.length <= maxLen
@[simp] theorem tk_cStr (s : List UInt8) : tkL (cStr s) = true:=rfl
@[simp] theorem hp_cStr (s : List UInt8) : hpL (cStr s) = false:=rfl
@[simp] theorem hpLL_mapStr (l : List (List UInt8)) : hpLL (l.map cStr) = false:=hpLL_map hp_cStr l
def cU8 (b : UInt8) : List D:=[.int .u8 b.toNat]
def cB (b : Bool) : List D:=[.bool b]
theorem erL_app : ∀ l l' : List D,erL (l ++ l') = erL l ++ erL l'
 | [],_=>rfl
 | x :: r,l'=>by simp [erL,erL_app r]
theorem er_cI (n : Int) : erL (cI n) = cI (plI n):=rfl
theorem er_cStr (s : List UInt8) : erL (cStr s) = cStr (plStr s):=rfl
section
variable {α β : Type}
def plS (pl : α -> β) (s : Sl α) : List β:=s.xs.map pl
def whS (wh : α -> Prop) (s : Sl α) : Prop:=s.wh /\ ∀ a ∈ s.xs,wh a
def wtS (wt : α -> Nat) (s : Sl α) : Nat:=sumW wt s.xs
def mkS (mk : α -> Int -> α) (wt : α -> Nat) (s : Sl α) (k : Int) : Sl α:=⟨s.id,s.T,mkList mk wt s.xs k⟩
def hlS (hl : α -> Int -> Bool) (wt : α -> Nat) (s : Sl α) (k : Int) : Bool:=hlList hl wt s.xs k
def swS (sw : α -> Nat) (s : Sl α) : Nat:=s.xs.length + sumW sw s.xs
def okS (ok : α -> Prop) (s : Sl α) : Prop:=s.xs.length <= maxLen /\ ∀ a ∈ s.xs,ok a
end
theorem erLL_map {α β : Type} {c : α -> List D} {e : β -> List D} {pl : α -> β} (h : ∀ a,erL (c a) = e (pl a)) (l : List α) : erLL (l.map c) = (l.map pl).map e:=by
 induction l with
 | nil=>rfl
 | cons a r ih=>simp only [List.map_cons,erLL,h a,ih]
theorem er_dSl {α β : Type} {c : α -> List D} {e : β -> List D} {pl : α -> β} (h : ∀ a,erL (c a) = e (pl a)) (s : Sl α) : (dSl c s).er = pS e (plS pl s):=by
 simp only [dSl,D.er,pS,erLL_map h,plS]
theorem er_cS {α β : Type} {c : α -> List D} {e : β -> List D} {pl : α -> β} (h : ∀ a,erL (c a) = e (pl a)) (s : Sl α) : erL (cS c s) = cP e (plS pl s):=by
 simp only [cS,cP,erL,er_dSl h]
structure Marks {α : Type} (c : α -> List D) (wh : α -> Prop) (wt : α -> Nat) (mk : α -> Int -> α) (hl : α -> Int -> Bool) : Prop where
 hl : ∀ a k,hl (mk a k) k = true
 wt : ∀ a k,wt (mk a k) = wt a
 ids : ∀ a k,idsL (c (mk a k)) = idsL (c a)
 len : ∀ a b,(c a).length = (c b).length
 wh : ∀ a k,wh a -> wh (mk a k)
theorem marksI : Marks cI whI wtI mkI hlI:=⟨by simp [hlI,mkI],by simp [wtI],by simp [cI,idsL,D.ids],by simp [cI],fun _ _ _=>trivial⟩
theorem marksStr : Marks cStr whStr wtStr mkStr hlStr:=⟨by simp [hlStr,mkStr],by simp [wtStr],by simp [cStr,idsL,D.ids],by simp [cStr],fun _ _ _=>trivial⟩
theorem wh_mkList {α : Type} {wh : α -> Prop} {wt : α -> Nat} {mk : α -> Int -> α} (h : ∀ a k,wh a -> wh (mk a k)) : ∀ (l : List α) (k : Int),(∀ a ∈ l,wh a) -> ∀ a ∈ mkList mk wt l k,wh a
 | [],_,_=>by simp [mkList]
 | a :: r, k, hl => by
   intro b hb
   simp only [mkList,List.mem_cons] at hb
   rcases hb with rfl | hb
   ·exact h _ _ (hl a (by simp))
   ·exact wh_mkList h r _ (fun a ha=>hl a (by simp [ha])) b hb
theorem ok_mkI (a : Int) (k : Int) (_ : okI a) : okI (mkI a k):=trivial
theorem ok_mkList {α : Type} {ok : α -> Prop} {wt : α -> Nat} {mk : α -> Int -> α} (h : ∀ a k,ok a -> ok (mk a k)) : ∀ (l : List α) (k : Int),(∀ a ∈ l,ok a) -> ∀ a ∈ mkList mk wt l k,ok a
 | [],_,_=>by simp [mkList]
 | a :: r, k, hl => by
   intro b hb
   simp only [mkList,List.mem_cons] at hb
   rcases hb with rfl | hb
   ·exact h _ _ (hl a (by simp))
   ·exact ok_mkList h r _ (fun a ha=>hl a (by simp [ha])) b hb
theorem ok_mkS {α : Type} {ok : α -> Prop} {wt : α -> Nat} {mk : α -> Int -> α} (h : ∀ a k,ok a -> ok (mk a k)) (s : Sl α) (k : Int) (hs : okS ok s) : okS ok (mkS mk wt s k):=
 ⟨by simpa [mkS] using hs.1,ok_mkList h _ _ hs.2⟩
theorem marksS {α : Type} {c : α -> List D} {wh : α -> Prop} {wt : α -> Nat} {mk : α -> Int -> α} {hl : α -> Int -> Bool} (h : Marks c wh wt mk hl) : Marks (cS c) (whS wh) (wtS wt) (mkS mk wt) (hlS hl wt):=
 ⟨fun s k=>hl_mk h.hl h.wt _ _,fun s k=>wt_mk h.wt _ _,fun s k=>by simp only [cS,dSl,mkS,idsL,D.ids,ids_mk h.ids],fun _ _=>rfl,
  fun s k hs=>⟨hs.1.of (by simp),wh_mkList h.wh _ _ hs.2⟩⟩
structure File where
 name : List UInt8
 data : List UInt8
instance : Inhabited File:=⟨⟨default,default⟩⟩
structure PFile where
 name : List UInt8
 data : List UInt8
instance : Inhabited PFile:=⟨⟨default,default⟩⟩
instance : DecidableEq PFile:=fun a b=>decidable_of_iff (a.name = b.name /\ a.data = b.data) (by cases a; cases b; simp)
theorem PFile.eq_iff (a b : PFile) : a = b ↔ a.name = b.name /\ a.data = b.data:=by cases a; cases b; simp
def eFile (a : PFile) : List D:=cStr a.name ++ cStr a.data
def cFile (a : File) : List D:=cStr a.name ++ cStr a.data
def plFile (a : File) : PFile:=⟨plStr a.name,plStr a.data⟩
@[simp] theorem tk_cFile (a : File) : tkL (cFile a) = true:=by simp only [cFile,tkL_app,tk_cStr,tk_cStr,Bool.and_self]
@[simp] theorem hp_cFile (a : File) : hpL (cFile a) = false:=by simp [cFile]
@[simp] theorem hpLL_mapFile (l : List File) : hpLL (l.map cFile) = false:=hpLL_map hp_cFile l
theorem er_cFile (a : File) : erL (cFile a) = eFile (plFile a):=by simp only [cFile,eFile,plFile,erL_app,er_cStr,er_cStr]
@[simp] theorem plFile_name (a : File) : (plFile a).name = plStr a.name:=rfl
@[simp] theorem plFile_data (a : File) : (plFile a).data = plStr a.data:=rfl
structure Disk where
 files : Sl (File)
instance : Inhabited Disk:=⟨⟨default⟩⟩
structure PDisk where
 files : List (PFile)
instance : Inhabited PDisk:=⟨⟨default⟩⟩
instance : DecidableEq PDisk:=fun a b=>decidable_of_iff (a.files = b.files) (by cases a; cases b; simp)
theorem PDisk.eq_iff (a b : PDisk) : a = b ↔ a.files = b.files:=by cases a; cases b; simp
def eDisk (a : PDisk) : List D:=cP eFile a.files
def cDisk (a : Disk) : List D:=cS cFile a.files
def plDisk (a : Disk) : PDisk:=⟨plS plFile a.files⟩
@[simp] theorem tk_cDisk (a : Disk) : tkL (cDisk a) = true:=by simp only [cDisk,tkL_app,tk_cS _ tk_cFile,Bool.and_self]
@[simp] theorem hp_cDisk (a : Disk) : hpL (cDisk a) = false:=by simp [cDisk]
@[simp] theorem hpLL_mapDisk (l : List Disk) : hpLL (l.map cDisk) = false:=hpLL_map hp_cDisk l
@[simp] theorem plDisk_files (a : Disk) : (plDisk a).files = plS plFile a.files:=rfl
structure Reln where
 ar : Int
 rows : Sl (Sl (Int))
instance : Inhabited Reln:=⟨⟨default,default⟩⟩
structure PReln where
 ar : Int
 rows : List (List (Int))
instance : Inhabited PReln:=⟨⟨default,default⟩⟩
instance : DecidableEq PReln:=fun a b=>decidable_of_iff (a.ar = b.ar /\ a.rows = b.rows) (by cases a; cases b; simp)
theorem PReln.eq_iff (a b : PReln) : a = b ↔ a.ar = b.ar /\ a.rows = b.rows:=by cases a; cases b; simp
def eReln (a : PReln) : List D:=cI a.ar ++ cP (cP cI) a.rows
def cReln (a : Reln) : List D:=cI a.ar ++ cS (cS cI) a.rows
def plReln (a : Reln) : PReln:=⟨plI a.ar,plS (plS plI) a.rows⟩
@[simp] theorem tk_cReln (a : Reln) : tkL (cReln a) = true:=by simp only [cReln,tkL_app,tk_cI,tk_cS _ (fun s=>tk_cS s tk_cI),Bool.and_self]
@[simp] theorem hp_cReln (a : Reln) : hpL (cReln a) = false:=by simp [cReln]
@[simp] theorem hpLL_mapReln (l : List Reln) : hpLL (l.map cReln) = false:=hpLL_map hp_cReln l
theorem er_cReln (a : Reln) : erL (cReln a) = eReln (plReln a):=by simp only [cReln,eReln,plReln,erL_app,er_cI,(er_cS (er_cS er_cI))]
@[simp] theorem plReln_ar (a : Reln) : (plReln a).ar = plI a.ar:=rfl
@[simp] theorem plReln_rows (a : Reln) : (plReln a).rows = plS (plS plI) a.rows:=rfl
def whReln (a : Reln) : Prop:=whI a.ar /\ whS (whS whI) a.rows
def wtReln (a : Reln) : Nat:=wtI a.ar + wtS (wtS wtI) a.rows
def swReln (a : Reln) : Nat:=swS (swS swI) a.rows
def okReln (a : Reln) : Prop:=okI a.ar /\ okS (okS okI) a.rows
def mkReln (a : Reln) (k : Int) : Reln:=⟨mkI a.ar (k),mkS (mkS (mkI) (wtI)) (wtS wtI) a.rows (k + wtI a.ar)⟩
def hlReln (a : Reln) (k : Int) : Bool:=hlI a.ar (k) && hlS (hlS (hlI) (wtI)) (wtS wtI) a.rows (k + wtI a.ar)
theorem marksReln : Marks cReln whReln wtReln mkReln hlReln:=
 ⟨fun a k=>by simp only [hlReln,mkReln,marksI.hl,marksI.wt,(marksS (marksS marksI)).hl,(marksS (marksS marksI)).wt,Bool.and_self],fun a k=>by simp only [wtReln,mkReln,marksI.wt,(marksS (marksS marksI)).wt],
  fun a k=>by simp only [cReln,mkReln,idsL_app,marksI.ids,(marksS (marksS marksI)).ids],fun a b=>by simp only [cReln,List.length_append,marksI.len a.ar b.ar,(marksS (marksS marksI)).len a.rows b.rows],
  fun a k h=>⟨marksI.wh _ _ h.1,(marksS (marksS marksI)).wh _ _ h.2⟩⟩
def wtTReln (a : Reln) : Nat:=wtS (wtS wtI) a.rows
def mkTReln (a : Reln) (k : Int) : Reln:=⟨a.ar,mkS (mkS (mkI) (wtI)) (wtS wtI) a.rows (k)⟩
def hlTReln (a : Reln) (k : Int) : Bool:=hlS (hlS (hlI) (wtI)) (wtS wtI) a.rows (k)
theorem marksTReln : Marks cReln whReln wtTReln mkTReln hlTReln:=
 ⟨fun a k=>by simp only [hlTReln,mkTReln,(marksS (marksS marksI)).hl,(marksS (marksS marksI)).wt,Bool.and_self],fun a k=>by simp only [wtTReln,mkTReln,(marksS (marksS marksI)).wt],
  fun a k=>by simp only [cReln,mkTReln,idsL_app,(marksS (marksS marksI)).ids],fun a b=>by simp only [cReln,List.length_append,marksI.len a.ar b.ar,(marksS (marksS marksI)).len a.rows b.rows],
  fun a k h=>⟨h.1,(marksS (marksS marksI)).wh _ _ h.2⟩⟩
theorem ok_mkTReln (a : Reln) (k : Int) (h : okReln a) : okReln (mkTReln a k):=⟨h.1,(ok_mkS (ok_mkS ok_mkI)) _ _ h.2⟩
structure Tab where
 name : List UInt8
 rel : Reln
instance : Inhabited Tab:=⟨⟨default,default⟩⟩
structure PTab where
 name : List UInt8
 rel : PReln
instance : Inhabited PTab:=⟨⟨default,default⟩⟩
instance : DecidableEq PTab:=fun a b=>decidable_of_iff (a.name = b.name /\ a.rel = b.rel) (by cases a; cases b; simp)
theorem PTab.eq_iff (a b : PTab) : a = b ↔ a.name = b.name /\ a.rel = b.rel:=by cases a; cases b; simp
def eTab (a : PTab) : List D:=cStr a.name ++ eReln a.rel
def cTab (a : Tab) : List D:=cStr a.name ++ cReln a.rel
def plTab (a : Tab) : PTab:=⟨plStr a.name,plReln a.rel⟩
@[simp] theorem tk_cTab (a : Tab) : tkL (cTab a) = true:=by simp only [cTab,tkL_app,tk_cStr,tk_cReln,Bool.and_self]
@[simp] theorem hp_cTab (a : Tab) : hpL (cTab a) = false:=by simp [cTab]
@[simp] theorem hpLL_mapTab (l : List Tab) : hpLL (l.map cTab) = false:=hpLL_map hp_cTab l
theorem er_cTab (a : Tab) : erL (cTab a) = eTab (plTab a):=by simp only [cTab,eTab,plTab,erL_app,er_cStr,er_cReln]
@[simp] theorem plTab_name (a : Tab) : (plTab a).name = plStr a.name:=rfl
@[simp] theorem plTab_rel (a : Tab) : (plTab a).rel = plReln a.rel:=rfl
def whTab (a : Tab) : Prop:=whStr a.name /\ whReln a.rel
def wtTab (a : Tab) : Nat:=wtStr a.name + wtReln a.rel
def swTab (a : Tab) : Nat:=swStr a.name + swReln a.rel
def okTab (a : Tab) : Prop:=okStr a.name /\ okReln a.rel
def mkTab (a : Tab) (k : Int) : Tab:=⟨mkStr a.name (k),mkReln a.rel (k + wtStr a.name)⟩
def hlTab (a : Tab) (k : Int) : Bool:=hlStr a.name (k) && hlReln a.rel (k + wtStr a.name)
theorem marksTab : Marks cTab whTab wtTab mkTab hlTab:=
 ⟨fun a k=>by simp only [hlTab,mkTab,marksStr.hl,marksStr.wt,marksReln.hl,marksReln.wt,Bool.and_self],fun a k=>by simp only [wtTab,mkTab,marksStr.wt,marksReln.wt],
  fun a k=>by simp only [cTab,mkTab,idsL_app,marksStr.ids,marksReln.ids],fun a b=>by simp only [cTab,List.length_append,marksStr.len a.name b.name,marksReln.len a.rel b.rel],
  fun a k h=>⟨marksStr.wh _ _ h.1,marksReln.wh _ _ h.2⟩⟩
def mkTTab (a : Tab) (k : Int) : Tab:=⟨a.name,mkTReln a.rel (k)⟩
structure Db where
 tabs : Sl (Tab)
instance : Inhabited Db:=⟨⟨default⟩⟩
structure PDb where
 tabs : List (PTab)
instance : Inhabited PDb:=⟨⟨default⟩⟩
instance : DecidableEq PDb:=fun a b=>decidable_of_iff (a.tabs = b.tabs) (by cases a; cases b; simp)
theorem PDb.eq_iff (a b : PDb) : a = b ↔ a.tabs = b.tabs:=by cases a; cases b; simp
def eDb (a : PDb) : List D:=cP eTab a.tabs
def cDb (a : Db) : List D:=cS cTab a.tabs
def plDb (a : Db) : PDb:=⟨plS plTab a.tabs⟩
@[simp] theorem tk_cDb (a : Db) : tkL (cDb a) = true:=by simp only [cDb,tkL_app,tk_cS _ tk_cTab,Bool.and_self]
@[simp] theorem hp_cDb (a : Db) : hpL (cDb a) = false:=by simp [cDb]
@[simp] theorem hpLL_mapDb (l : List Db) : hpLL (l.map cDb) = false:=hpLL_map hp_cDb l
theorem er_cDb (a : Db) : erL (cDb a) = eDb (plDb a):=by simp only [cDb,eDb,plDb,erL_app,(er_cS er_cTab)]
@[simp] theorem plDb_tabs (a : Db) : (plDb a).tabs = plS plTab a.tabs:=rfl
def whDb (a : Db) : Prop:=whS whTab a.tabs
def swDb (a : Db) : Nat:=swS swTab a.tabs
def okDb (a : Db) : Prop:=okS okTab a.tabs
def wtTDb (a : Db) : Nat:=wtS wtTab a.tabs
def mkTDb (a : Db) (k : Int) : Db:=⟨mkS (mkTab) (wtTab) a.tabs (k)⟩
def hlTDb (a : Db) (k : Int) : Bool:=hlS (hlTab) (wtTab) a.tabs (k)
theorem marksTDb : Marks cDb whDb wtTDb mkTDb hlTDb:=
 ⟨fun a k=>by simp only [hlTDb,mkTDb,(marksS marksTab).hl,(marksS marksTab).wt,Bool.and_self],fun a k=>by simp only [wtTDb,mkTDb,(marksS marksTab).wt],
  fun a k=>by simp only [cDb,mkTDb,idsL_app,(marksS marksTab).ids],fun a b=>by simp only [cDb,List.length_append,(marksS marksTab).len a.tabs b.tabs],
  fun a k h=>(marksS marksTab).wh _ _ h⟩
structure Delta where
 name : List UInt8
 ins : Reln
 del : Reln
instance : Inhabited Delta:=⟨⟨default,default,default⟩⟩
structure PDelta where
 name : List UInt8
 ins : PReln
 del : PReln
instance : Inhabited PDelta:=⟨⟨default,default,default⟩⟩
instance : DecidableEq PDelta:=fun a b=>decidable_of_iff (a.name = b.name /\ a.ins = b.ins /\ a.del = b.del) (by cases a; cases b; simp)
theorem PDelta.eq_iff (a b : PDelta) : a = b ↔ a.name = b.name /\ a.ins = b.ins /\ a.del = b.del:=by cases a; cases b; simp
def eDelta (a : PDelta) : List D:=cStr a.name ++ eReln a.ins ++ eReln a.del
def cDelta (a : Delta) : List D:=cStr a.name ++ cReln a.ins ++ cReln a.del
def plDelta (a : Delta) : PDelta:=⟨plStr a.name,plReln a.ins,plReln a.del⟩
@[simp] theorem tk_cDelta (a : Delta) : tkL (cDelta a) = true:=by simp only [cDelta,tkL_app,tk_cStr,tk_cReln,tk_cReln,Bool.and_self]
@[simp] theorem hp_cDelta (a : Delta) : hpL (cDelta a) = false:=by simp [cDelta]
@[simp] theorem hpLL_mapDelta (l : List Delta) : hpLL (l.map cDelta) = false:=hpLL_map hp_cDelta l
theorem er_cDelta (a : Delta) : erL (cDelta a) = eDelta (plDelta a):=by simp only [cDelta,eDelta,plDelta,erL_app,er_cStr,er_cReln,er_cReln]
@[simp] theorem plDelta_name (a : Delta) : (plDelta a).name = plStr a.name:=rfl
@[simp] theorem plDelta_ins (a : Delta) : (plDelta a).ins = plReln a.ins:=rfl
@[simp] theorem plDelta_del (a : Delta) : (plDelta a).del = plReln a.del:=rfl
def wtDelta (a : Delta) : Nat:=wtStr a.name + wtReln a.ins + wtReln a.del
structure Cnt where
 ar : Int
 rows : Sl (Sl (Int))
 cs : Sl (Int)
instance : Inhabited Cnt:=⟨⟨default,default,default⟩⟩
structure PCnt where
 ar : Int
 rows : List (List (Int))
 cs : List (Int)
instance : Inhabited PCnt:=⟨⟨default,default,default⟩⟩
instance : DecidableEq PCnt:=fun a b=>decidable_of_iff (a.ar = b.ar /\ a.rows = b.rows /\ a.cs = b.cs) (by cases a; cases b; simp)
theorem PCnt.eq_iff (a b : PCnt) : a = b ↔ a.ar = b.ar /\ a.rows = b.rows /\ a.cs = b.cs:=by cases a; cases b; simp
def eCnt (a : PCnt) : List D:=cI a.ar ++ cP (cP cI) a.rows ++ cP cI a.cs
def cCnt (a : Cnt) : List D:=cI a.ar ++ cS (cS cI) a.rows ++ cS cI a.cs
def plCnt (a : Cnt) : PCnt:=⟨plI a.ar,plS (plS plI) a.rows,plS plI a.cs⟩
@[simp] theorem tk_cCnt (a : Cnt) : tkL (cCnt a) = true:=by simp only [cCnt,tkL_app,tk_cI,tk_cS _ (fun s=>tk_cS s tk_cI),tk_cS _ tk_cI,Bool.and_self]
@[simp] theorem hp_cCnt (a : Cnt) : hpL (cCnt a) = false:=by simp [cCnt]
@[simp] theorem hpLL_mapCnt (l : List Cnt) : hpLL (l.map cCnt) = false:=hpLL_map hp_cCnt l
@[simp] theorem plCnt_ar (a : Cnt) : (plCnt a).ar = plI a.ar:=rfl
@[simp] theorem plCnt_rows (a : Cnt) : (plCnt a).rows = plS (plS plI) a.rows:=rfl
@[simp] theorem plCnt_cs (a : Cnt) : (plCnt a).cs = plS plI a.cs:=rfl
def whCnt (a : Cnt) : Prop:=whI a.ar /\ whS (whS whI) a.rows /\ whS whI a.cs
def okCnt (a : Cnt) : Prop:=okI a.ar /\ okS (okS okI) a.rows /\ okS okI a.cs
structure Atom where
 rel : List UInt8
 vars : Sl (Int)
instance : Inhabited Atom:=⟨⟨default,default⟩⟩
structure PAtom where
 rel : List UInt8
 vars : List (Int)
instance : Inhabited PAtom:=⟨⟨default,default⟩⟩
instance : DecidableEq PAtom:=fun a b=>decidable_of_iff (a.rel = b.rel /\ a.vars = b.vars) (by cases a; cases b; simp)
theorem PAtom.eq_iff (a b : PAtom) : a = b ↔ a.rel = b.rel /\ a.vars = b.vars:=by cases a; cases b; simp
def eAtom (a : PAtom) : List D:=cStr a.rel ++ cP cI a.vars
def cAtom (a : Atom) : List D:=cStr a.rel ++ cS cI a.vars
def plAtom (a : Atom) : PAtom:=⟨plStr a.rel,plS plI a.vars⟩
@[simp] theorem tk_cAtom (a : Atom) : tkL (cAtom a) = true:=by simp only [cAtom,tkL_app,tk_cStr,tk_cS _ tk_cI,Bool.and_self]
@[simp] theorem hp_cAtom (a : Atom) : hpL (cAtom a) = false:=by simp [cAtom]
@[simp] theorem hpLL_mapAtom (l : List Atom) : hpLL (l.map cAtom) = false:=hpLL_map hp_cAtom l
theorem er_cAtom (a : Atom) : erL (cAtom a) = eAtom (plAtom a):=by simp only [cAtom,eAtom,plAtom,erL_app,er_cStr,(er_cS er_cI)]
@[simp] theorem plAtom_rel (a : Atom) : (plAtom a).rel = plStr a.rel:=rfl
@[simp] theorem plAtom_vars (a : Atom) : (plAtom a).vars = plS plI a.vars:=rfl
def whAtom (a : Atom) : Prop:=whStr a.rel /\ whS whI a.vars
def wtAtom (a : Atom) : Nat:=wtStr a.rel + wtS wtI a.vars
def swAtom (a : Atom) : Nat:=swStr a.rel + swS swI a.vars
def okAtom (a : Atom) : Prop:=okStr a.rel /\ okS okI a.vars
def mkAtom (a : Atom) (k : Int) : Atom:=⟨mkStr a.rel (k),mkS (mkI) (wtI) a.vars (k + wtStr a.rel)⟩
def hlAtom (a : Atom) (k : Int) : Bool:=hlStr a.rel (k) && hlS (hlI) (wtI) a.vars (k + wtStr a.rel)
theorem marksAtom : Marks cAtom whAtom wtAtom mkAtom hlAtom:=
 ⟨fun a k=>by simp only [hlAtom,mkAtom,marksStr.hl,marksStr.wt,(marksS marksI).hl,(marksS marksI).wt,Bool.and_self],fun a k=>by simp only [wtAtom,mkAtom,marksStr.wt,(marksS marksI).wt],
  fun a k=>by simp only [cAtom,mkAtom,idsL_app,marksStr.ids,(marksS marksI).ids],fun a b=>by simp only [cAtom,List.length_append,marksStr.len a.rel b.rel,(marksS marksI).len a.vars b.vars],
  fun a k h=>⟨marksStr.wh _ _ h.1,(marksS marksI).wh _ _ h.2⟩⟩
def mkTAtom (a : Atom) (k : Int) : Atom:=⟨a.rel,mkS (mkI) (wtI) a.vars (k)⟩
structure Query where
 n : Int
 atoms : Sl (Atom)
 out : Sl (Int)
instance : Inhabited Query:=⟨⟨default,default,default⟩⟩
structure PQuery where
 n : Int
 atoms : List (PAtom)
 out : List (Int)
instance : Inhabited PQuery:=⟨⟨default,default,default⟩⟩
instance : DecidableEq PQuery:=fun a b=>decidable_of_iff (a.n = b.n /\ a.atoms = b.atoms /\ a.out = b.out) (by cases a; cases b; simp)
theorem PQuery.eq_iff (a b : PQuery) : a = b ↔ a.n = b.n /\ a.atoms = b.atoms /\ a.out = b.out:=by cases a; cases b; simp
def eQuery (a : PQuery) : List D:=cI a.n ++ cP eAtom a.atoms ++ cP cI a.out
def cQuery (a : Query) : List D:=cI a.n ++ cS cAtom a.atoms ++ cS cI a.out
def plQuery (a : Query) : PQuery:=⟨plI a.n,plS plAtom a.atoms,plS plI a.out⟩
@[simp] theorem tk_cQuery (a : Query) : tkL (cQuery a) = true:=by simp only [cQuery,tkL_app,tk_cI,tk_cS _ tk_cAtom,tk_cS _ tk_cI,Bool.and_self]
@[simp] theorem hp_cQuery (a : Query) : hpL (cQuery a) = false:=by simp [cQuery]
@[simp] theorem hpLL_mapQuery (l : List Query) : hpLL (l.map cQuery) = false:=hpLL_map hp_cQuery l
@[simp] theorem plQuery_n (a : Query) : (plQuery a).n = plI a.n:=rfl
@[simp] theorem plQuery_atoms (a : Query) : (plQuery a).atoms = plS plAtom a.atoms:=rfl
@[simp] theorem plQuery_out (a : Query) : (plQuery a).out = plS plI a.out:=rfl
def whQuery (a : Query) : Prop:=whI a.n /\ whS whAtom a.atoms /\ whS whI a.out
def swQuery (a : Query) : Nat:=swS swAtom a.atoms + swS swI a.out
def okQuery (a : Query) : Prop:=okI a.n /\ okS okAtom a.atoms /\ okS okI a.out
def wtTQuery (a : Query) : Nat:=wtS wtAtom a.atoms + wtS wtI a.out
def mkTQuery (a : Query) (k : Int) : Query:=⟨a.n,mkS (mkAtom) (wtAtom) a.atoms (k),mkS (mkI) (wtI) a.out (k + wtS wtAtom a.atoms)⟩
def hlTQuery (a : Query) (k : Int) : Bool:=hlS (hlAtom) (wtAtom) a.atoms (k) && hlS (hlI) (wtI) a.out (k + wtS wtAtom a.atoms)
theorem marksTQuery : Marks cQuery whQuery wtTQuery mkTQuery hlTQuery:=
 ⟨fun a k=>by simp only [hlTQuery,mkTQuery,(marksS marksAtom).hl,(marksS marksAtom).wt,(marksS marksI).hl,(marksS marksI).wt,Bool.and_self],fun a k=>by simp only [wtTQuery,mkTQuery,(marksS marksAtom).wt,(marksS marksI).wt],
  fun a k=>by simp only [cQuery,mkTQuery,idsL_app,(marksS marksAtom).ids,(marksS marksI).ids],fun a b=>by simp only [cQuery,List.length_append,marksI.len a.n b.n,(marksS marksAtom).len a.atoms b.atoms,(marksS marksI).len a.out b.out],
  fun a k h=>⟨h.1,(marksS marksAtom).wh _ _ h.2.1,(marksS marksI).wh _ _ h.2.2⟩⟩
structure View where
 q : Query
 r : Cnt
instance : Inhabited View:=⟨⟨default,default⟩⟩
structure PView where
 q : PQuery
 r : PCnt
instance : Inhabited PView:=⟨⟨default,default⟩⟩
instance : DecidableEq PView:=fun a b=>decidable_of_iff (a.q = b.q /\ a.r = b.r) (by cases a; cases b; simp)
theorem PView.eq_iff (a b : PView) : a = b ↔ a.q = b.q /\ a.r = b.r:=by cases a; cases b; simp
def eView (a : PView) : List D:=eQuery a.q ++ eCnt a.r
def cView (a : View) : List D:=cQuery a.q ++ cCnt a.r
def plView (a : View) : PView:=⟨plQuery a.q,plCnt a.r⟩
@[simp] theorem tk_cView (a : View) : tkL (cView a) = true:=by simp only [cView,tkL_app,tk_cQuery,tk_cCnt,Bool.and_self]
@[simp] theorem hp_cView (a : View) : hpL (cView a) = false:=by simp [cView]
@[simp] theorem hpLL_mapView (l : List View) : hpLL (l.map cView) = false:=hpLL_map hp_cView l
@[simp] theorem plView_q (a : View) : (plView a).q = plQuery a.q:=rfl
@[simp] theorem plView_r (a : View) : (plView a).r = plCnt a.r:=rfl
structure Dec where
 bags : Sl (Sl (Int))
 par : Sl (Int)
instance : Inhabited Dec:=⟨⟨default,default⟩⟩
structure PDec where
 bags : List (List (Int))
 par : List (Int)
instance : Inhabited PDec:=⟨⟨default,default⟩⟩
instance : DecidableEq PDec:=fun a b=>decidable_of_iff (a.bags = b.bags /\ a.par = b.par) (by cases a; cases b; simp)
theorem PDec.eq_iff (a b : PDec) : a = b ↔ a.bags = b.bags /\ a.par = b.par:=by cases a; cases b; simp
def eDec (a : PDec) : List D:=cP (cP cI) a.bags ++ cP cI a.par
def cDec (a : Dec) : List D:=cS (cS cI) a.bags ++ cS cI a.par
def plDec (a : Dec) : PDec:=⟨plS (plS plI) a.bags,plS plI a.par⟩
@[simp] theorem tk_cDec (a : Dec) : tkL (cDec a) = true:=by simp only [cDec,tkL_app,tk_cS _ (fun s=>tk_cS s tk_cI),tk_cS _ tk_cI,Bool.and_self]
@[simp] theorem hp_cDec (a : Dec) : hpL (cDec a) = false:=by simp [cDec]
@[simp] theorem hpLL_mapDec (l : List Dec) : hpLL (l.map cDec) = false:=hpLL_map hp_cDec l
@[simp] theorem plDec_bags (a : Dec) : (plDec a).bags = plS (plS plI) a.bags:=rfl
@[simp] theorem plDec_par (a : Dec) : (plDec a).par = plS plI a.par:=rfl
def whDec (a : Dec) : Prop:=whS (whS whI) a.bags /\ whS whI a.par
def swDec (a : Dec) : Nat:=swS (swS swI) a.bags + swS swI a.par
def okDec (a : Dec) : Prop:=okS (okS okI) a.bags /\ okS okI a.par
def wtTDec (a : Dec) : Nat:=wtS (wtS wtI) a.bags + wtS wtI a.par
def mkTDec (a : Dec) (k : Int) : Dec:=⟨mkS (mkS (mkI) (wtI)) (wtS wtI) a.bags (k),mkS (mkI) (wtI) a.par (k + wtS (wtS wtI) a.bags)⟩
def hlTDec (a : Dec) (k : Int) : Bool:=hlS (hlS (hlI) (wtI)) (wtS wtI) a.bags (k) && hlS (hlI) (wtI) a.par (k + wtS (wtS wtI) a.bags)
theorem marksTDec : Marks cDec whDec wtTDec mkTDec hlTDec:=
 ⟨fun a k=>by simp only [hlTDec,mkTDec,(marksS (marksS marksI)).hl,(marksS (marksS marksI)).wt,(marksS marksI).hl,(marksS marksI).wt,Bool.and_self],fun a k=>by simp only [wtTDec,mkTDec,(marksS (marksS marksI)).wt,(marksS marksI).wt],
  fun a k=>by simp only [cDec,mkTDec,idsL_app,(marksS (marksS marksI)).ids,(marksS marksI).ids],fun a b=>by simp only [cDec,List.length_append,(marksS (marksS marksI)).len a.bags b.bags,(marksS marksI).len a.par b.par],
  fun a k h=>⟨(marksS (marksS marksI)).wh _ _ h.1,(marksS marksI).wh _ _ h.2⟩⟩
structure VRel where
 vars : Sl (Int)
 rel : Reln
instance : Inhabited VRel:=⟨⟨default,default⟩⟩
structure PVRel where
 vars : List (Int)
 rel : PReln
instance : Inhabited PVRel:=⟨⟨default,default⟩⟩
instance : DecidableEq PVRel:=fun a b=>decidable_of_iff (a.vars = b.vars /\ a.rel = b.rel) (by cases a; cases b; simp)
theorem PVRel.eq_iff (a b : PVRel) : a = b ↔ a.vars = b.vars /\ a.rel = b.rel:=by cases a; cases b; simp
def eVRel (a : PVRel) : List D:=cP cI a.vars ++ eReln a.rel
def cVRel (a : VRel) : List D:=cS cI a.vars ++ cReln a.rel
def plVRel (a : VRel) : PVRel:=⟨plS plI a.vars,plReln a.rel⟩
@[simp] theorem tk_cVRel (a : VRel) : tkL (cVRel a) = true:=by simp only [cVRel,tkL_app,tk_cS _ tk_cI,tk_cReln,Bool.and_self]
@[simp] theorem hp_cVRel (a : VRel) : hpL (cVRel a) = false:=by simp [cVRel]
@[simp] theorem hpLL_mapVRel (l : List VRel) : hpLL (l.map cVRel) = false:=hpLL_map hp_cVRel l
theorem er_cVRel (a : VRel) : erL (cVRel a) = eVRel (plVRel a):=by simp only [cVRel,eVRel,plVRel,erL_app,(er_cS er_cI),er_cReln]
@[simp] theorem plVRel_vars (a : VRel) : (plVRel a).vars = plS plI a.vars:=rfl
@[simp] theorem plVRel_rel (a : VRel) : (plVRel a).rel = plReln a.rel:=rfl
def whVRel (a : VRel) : Prop:=whS whI a.vars /\ whReln a.rel
def wtVRel (a : VRel) : Nat:=wtS wtI a.vars + wtReln a.rel
def okVRel (a : VRel) : Prop:=okS okI a.vars /\ okReln a.rel
structure Hist where
 first : Int
 dbs : Sl (Db)
instance : Inhabited Hist:=⟨⟨default,default⟩⟩
structure PHist where
 first : Int
 dbs : List (PDb)
instance : Inhabited PHist:=⟨⟨default,default⟩⟩
instance : DecidableEq PHist:=fun a b=>decidable_of_iff (a.first = b.first /\ a.dbs = b.dbs) (by cases a; cases b; simp)
theorem PHist.eq_iff (a b : PHist) : a = b ↔ a.first = b.first /\ a.dbs = b.dbs:=by cases a; cases b; simp
def eHist (a : PHist) : List D:=cI a.first ++ cP eDb a.dbs
def cHist (a : Hist) : List D:=cI a.first ++ cS cDb a.dbs
def plHist (a : Hist) : PHist:=⟨plI a.first,plS plDb a.dbs⟩
@[simp] theorem tk_cHist (a : Hist) : tkL (cHist a) = true:=by simp only [cHist,tkL_app,tk_cI,tk_cS _ tk_cDb,Bool.and_self]
@[simp] theorem hp_cHist (a : Hist) : hpL (cHist a) = false:=by simp [cHist]
@[simp] theorem hpLL_mapHist (l : List Hist) : hpLL (l.map cHist) = false:=hpLL_map hp_cHist l
@[simp] theorem plHist_first (a : Hist) : (plHist a).first = plI a.first:=rfl
@[simp] theorem plHist_dbs (a : Hist) : (plHist a).dbs = plS plDb a.dbs:=rfl
structure Rat where
 num : Int
 den : Int
instance : Inhabited Rat:=⟨⟨default,default⟩⟩
structure PRat where
 num : Int
 den : Int
instance : Inhabited PRat:=⟨⟨default,default⟩⟩
instance : DecidableEq PRat:=fun a b=>decidable_of_iff (a.num = b.num /\ a.den = b.den) (by cases a; cases b; simp)
theorem PRat.eq_iff (a b : PRat) : a = b ↔ a.num = b.num /\ a.den = b.den:=by cases a; cases b; simp
def eRat (a : PRat) : List D:=cI a.num ++ cI a.den
def cRat (a : Rat) : List D:=cI a.num ++ cI a.den
def plRat (a : Rat) : PRat:=⟨plI a.num,plI a.den⟩
@[simp] theorem tk_cRat (a : Rat) : tkL (cRat a) = true:=by simp only [cRat,tkL_app,tk_cI,tk_cI,Bool.and_self]
@[simp] theorem hp_cRat (a : Rat) : hpL (cRat a) = false:=by simp [cRat]
@[simp] theorem hpLL_mapRat (l : List Rat) : hpLL (l.map cRat) = false:=hpLL_map hp_cRat l
@[simp] theorem plRat_num (a : Rat) : (plRat a).num = plI a.num:=rfl
@[simp] theorem plRat_den (a : Rat) : (plRat a).den = plI a.den:=rfl
def mkRat (a : Rat) (k : Int) : Rat:=⟨mkI a.num (k),mkI a.den (k + wtI a.num)⟩
structure PForest where
 par : List (Int)
instance : Inhabited PForest:=⟨⟨default⟩⟩
instance : DecidableEq PForest:=fun a b=>decidable_of_iff (a.par = b.par) (by cases a; cases b; simp)
theorem PForest.eq_iff (a b : PForest) : a = b ↔ a.par = b.par:=by cases a; cases b; simp
structure PCur where
 b : List (UInt8)
 i : Int
 h : Int
instance : Inhabited PCur:=⟨⟨default,default,default⟩⟩
instance : DecidableEq PCur:=fun a b=>decidable_of_iff (a.b = b.b /\ a.i = b.i /\ a.h = b.h) (by cases a; cases b; simp)
theorem PCur.eq_iff (a b : PCur) : a = b ↔ a.b = b.b /\ a.i = b.i /\ a.h = b.h:=by cases a; cases b; simp
structure PLP where
 a : List (List (PRat))
 b : List (PRat)
 c : List (PRat)
instance : Inhabited PLP:=⟨⟨default,default,default⟩⟩
instance : DecidableEq PLP:=fun a b=>decidable_of_iff (a.a = b.a /\ a.b = b.b /\ a.c = b.c) (by cases a; cases b; simp)
theorem PLP.eq_iff (a b : PLP) : a = b ↔ a.a = b.a /\ a.b = b.b /\ a.c = b.c:=by cases a; cases b; simp
end Go.Vs
namespace Go.Vs
theorem wr1 {i : Nat} (h : i < 9223372036854775807) : IntKind.i64.wrap ((i : Int) + 1) = (i : Int) + 1:=wrap64_of (by omega) (by omega)
theorem eq_step {α : Type} {a b : List α} {i : Nat} (h : i < a.length) (h' : i < b.length) (hi : a.take i = b.take i) : (a[i] = b[i] ↔ a.take (i + 1) = b.take (i + 1)):=by
 rw [List.take_succ_eq_append_getElem (l:=b) h',List.take_succ_eq_append_getElem (l:=a) h,hi]
 exact ⟨fun h=>by rw [h],fun h=>by simpa only [List.append_cancel_left_eq,List.cons.injEq,and_true] using h⟩
theorem eq_all {α : Type} {a b : List α} {i : Nat} (h : a.length <= i) (hl : a.length = b.length) (hi : a.take i = b.take i) : a = b:=by
 rwa [List.take_of_length_le h,List.take_of_length_le (by omega)] at hi
theorem eqm_step {α β : Type} (f : α -> β) {a b : List α} {i : Nat} (h : i < a.length) (h' : i < b.length) (hi : (a.map f).take i = (b.map f).take i) : (f a[i] = f b[i] ↔ (a.map f).take (i + 1) = (b.map f).take (i + 1)):=by
 have:=eq_step (a:=a.map f) (b:=b.map f) (i:=i) (by simpa using h) (by simpa using h') hi
 simpa only [List.getElem_map] using this
@[simp] theorem ids_cStr (l : List (List UInt8)) : idsLL (l.map cStr) = [] := by
  induction l with
  | nil=>rfl
  | cons a r ih=>simp [idsLL,cStr,idsL,ih]
structure Good (cells : List D) (wh : Prop) (n : Nat) : Prop where
 nd : (idsL cells).Nodup
 lo : ∀ g ∈ idsL cells,n <= g
 wh : wh
theorem Good.le {cells : List D} {wh : Prop} {n m : Nat} (h : Good cells wh n) (hm : m <= n) : Good cells wh m:=⟨h.nd,fun g hg=>Nat.le_trans hm (h.lo g hg),h.wh⟩
theorem Good.app {c1 c2 : List D} {w1 w2 : Prop} {n : Nat} (h1 : Good c1 w1 n) (h2 : Good c2 w2 n) (h : ∀ g,g ∈ idsL c1 -> g ∈ idsL c2 -> False) : Good (c1 ++ c2) (w1 /\ w2) n:=by
 refine ⟨?_,fun g hg=>?_,h1.wh,h2.wh⟩
 ·rw [idsL_app]
  exact List.nodup_append.2 ⟨h1.nd,h2.nd,fun a ha b hb e=>h a ha (e ▸ hb)⟩
 ·rw [idsL_app] at hg
  rcases List.mem_append.1 hg with hg | hg
  ·exact h1.lo g hg
  ·exact h2.lo g hg
theorem good_I (n : Nat) (x : Int) : Good (cI x) (whI x) n:=⟨by simp [cI,idsL,D.ids],by simp [cI,idsL,D.ids],trivial⟩
theorem good_Str (n : Nat) (x : List UInt8) : Good (cStr x) (whStr x) n:=⟨by simp [cStr,idsL,D.ids],by simp [cStr,idsL,D.ids],trivial⟩
section
variable {α : Type} {c : α -> List D} {wh : α -> Prop}
theorem idsL_cS (s : Sl α) : idsL (cS c s) = (dSl c s).ids:=by simp [cS,idsL]
theorem good_row {id : Option Nat} {T : TypeId × Nat} {xs : List α} {n : Nat} (h1 : ∀ g,id = some g -> n <= g) (h2 : xs ≠ [] -> id ≠ none) (h3 : ∀ g,id = some g -> g ∉ idsLL (xs.map c))
  (h4 : (idsLL (xs.map c)).Nodup /\ ∀ g ∈ idsLL (xs.map c),n <= g) (h5 : ∀ a ∈ xs,wh a) : Good (cS c ⟨id,some T,xs⟩) (whS wh ⟨id,some T,xs⟩) n:=by
 refine ⟨?_,fun g hg=>?_,⟨fun h=>?_,fun _=>rfl⟩,h5⟩
 ·rw [idsL_cS]
  cases id with
  | none=>simpa [dSl,D.ids] using h4.1
  | some g=>simp only [dSl,D.ids,Option.toList,List.singleton_append,List.nodup_cons]; exact ⟨h3 g rfl,h4.1⟩
 ·rw [idsL_cS] at hg
  rcases mem_sl_ids.1 hg with hg | hg
  ·exact h1 g hg
  ·exact h4.2 g hg
 ·exact Classical.byContradiction fun hne=>h2 hne h
structure GoodL (c : α -> List D) (wh : α -> Prop) (n h : Nat) (l : List α) : Prop where
 nd : (idsLL (l.map c)).Nodup
 lo : ∀ g ∈ idsLL (l.map c),n <= g
 hi : ∀ g ∈ idsLL (l.map c),g < h
 wh : ∀ a ∈ l,wh a
theorem GoodL.nil {n h : Nat} : GoodL c wh n h []:=⟨by simp [idsLL],by simp [idsLL],by simp [idsLL],by simp⟩
theorem GoodL.snoc {n m h h' : Nat} {l : List α} {a : α} (hl : GoodL c wh n h l) (h1 : n <= m /\ h <= m) (h2 : m <= h') (ha : Good (c a) (wh a) m) (hb : ∀ g ∈ idsL (c a),g < h') : GoodL c wh n h' (l ++ [a]):=by
 have e : idsLL ((l ++ [a]).map c) = idsLL (l.map c) ++ idsL (c a):=by simp [idsLL_append,idsLL]
 refine ⟨?_,fun g hg=>?_,fun g hg=>?_,fun b hb=>?_⟩
 ·rw [e]
  refine List.nodup_append.2 ⟨hl.nd,ha.nd,fun x hx y hy hxy=>?_⟩
  have:=hl.hi x hx
  have:=ha.lo y hy
  omega
 ·rw [e] at hg
  rcases List.mem_append.1 hg with hg | hg
  ·exact hl.lo g hg
  ·have:=ha.lo g hg; omega
 ·rw [e] at hg
  rcases List.mem_append.1 hg with hg | hg
  ·have:=hl.hi g hg; omega
  ·exact hb g hg
 ·rcases List.mem_append.1 hb with hb | hb
  ·exact hl.wh b hb
  ·rw [List.mem_singleton.1 hb]; exact ha.wh
theorem GoodL.le {n h h' : Nat} {l : List α} (hl : GoodL c wh n h l) (h1 : h <= h') : GoodL c wh n h' l:=⟨hl.nd,hl.lo,fun g hg=>Nat.lt_of_lt_of_le (hl.hi g hg) h1,hl.wh⟩
theorem rep_set0 {n i : Nat} {z e : List D} (h : i < n) : (List.replicate (n - i) z).set 0 e = e :: List.replicate (n - (i + 1)) z:=by
 obtain ⟨k,hk⟩ : ∃ k,n - i = k + 1:=⟨n - i - 1,by omega⟩
 have : n - (i + 1) = k:=by omega
 rw [hk,this,List.replicate_succ,List.set_cons_zero]
theorem nd_left {l l' : List Nat} (h : (l ++ l').Nodup) : l.Nodup:=(List.nodup_append.1 h).1
theorem nd_right {l l' : List Nat} (h : (l ++ l').Nodup) : l'.Nodup:=(List.nodup_append.1 h).2.1
theorem nd_disj {l l' : List Nat} (h : (l ++ l').Nodup) : ∀ g ∈ l,g ∉ l':=fun g hg hg'=>(List.nodup_append.1 h).2.2 g hg g hg' rfl
theorem set_same {α : Type} {l : List α} {i : Nat} {a : α} (h : l[i]? = some a) : l.set i a = l:=by
 apply List.ext_getElem?
 intro j
 rw [List.getElem?_set]
 split
 ·rename_i e
  subst e
  split
  ·exact h.symm
  ·rename_i hh; rw [List.getElem?_eq_none (by omega)] at h; cases h
 ·rfl
end
inductive Sim : List D -> List D -> Prop
 | nil : Sim [] []
 | leaf {x : D} {l l' : List D} (h : x.ids = []) (hr : Sim l l') (ht : x.tk = true:=by rfl) : Sim (x :: l) (x :: l')
 | sl {β : Type} {c : β -> List D} {s : Sl β} {ys : List β} {l l' : List D} (hc : ∀ a b,(c a).length = (c b).length) (hw : s.wh) (hl : ys.length = s.xs.length) (hr : Sim l l') : Sim (dSl c s :: l) (dSl c ⟨s.id,s.T,ys⟩ :: l')
theorem Sim.app {l l' m m' : List D} (h : Sim l l') (h' : Sim m m') : Sim (l ++ m) (l' ++ m'):=by
 induction h with
 | nil=>exact h'
 | leaf hx _ ht ih=>exact .leaf hx ih ht
 | sl hc hw hl _ ih=>exact .sl hc hw hl ih
theorem look_at {g : Nat} {T : Option (TypeId × Nat)} {es : List (List D)} : ∀ {l : List D},(idsL l).Nodup -> .sl (some g) T es ∈ l -> lookL g l = some (.sl (some g) T es)
 | [],_,h=>by cases h
 | x :: r, hnd, h => by
   simp only [idsL] at hnd
   rcases List.mem_cons.1 h with rfl | h
   ·simp [lookL,lookD]
   ·have hg : g ∉ x.ids:=fun hin=>nd_disj hnd g hin (mem_idsL h (by simp [D.ids]))
    rw [lookL_skip r hg]
    exact look_at (nd_right hnd) h
theorem re_simW {W : List Nat} {ws : List D} : ∀ {l l' : List D},Sim l l' -> (∀ g ∈ idsL l,g ∈ W) -> (∀ g T es,.sl (some g) T es ∈ l' -> lookL g ws = some (.sl (some g) T es)) -> reL (phi W ws) l = some l'
 | _,_,.nil,_,_=>rfl
 | _, _, .leaf (x := x) hx hr ht, hW, hl => by
   simp only [reL]
   rw [reD_id' x ht (by simp [hx]),re_simW hr (fun g hg=>hW g (by simp [idsL,hg])) (fun g T es h=>hl g T es (by simp [h]))]
 | _, _, .sl (c := c) (s := s) (ys := ys) hc hw hlen hr, hW, hl => by
   simp only [reL]
   rw [re_phi (c:=c) hw hlen hc (fun g hg=>⟨hW g (by simp only [idsL,List.mem_append]; exact .inl (mem_sl_ids.2 (.inl hg))),?_⟩),re_simW hr (fun g hg=>hW g (by simp [idsL,hg])) (fun g T es h=>hl g T es (by simp [h]))]
   have:=hl g s.T (ys.map c) (by simp [dSl,hg])
   rw [this]
   simp [dSl,hg]
theorem re_sim {l l' : List D} (h : Sim l l') (hid : idsL l' = idsL l) (hnd : (idsL l).Nodup) : reL (phi (idsL l) l') l = some l':=
 re_simW h (fun g hg=>hg) (fun g T es hin=>look_at (by rw [hid]; exact hnd) hin)
theorem re_same {W : List Nat} {ws l : List D} (h : ∀ g ∈ W,g ∉ idsL l) (ht : tkL l = true:=by first | rfl | simp) : reL (phi W ws) l = some l:=
 reL_id' l ht fun g hg=>phi_out fun hin=>h g hin hg
theorem reL_cons_iff {φ : Nat -> Option D} {x y : D} {r s : List D} : reL φ (x :: r) = some (y :: s) ↔ reD φ x = some y /\ reL φ r = some s:=by
 simp only [reL]
 cases reD φ x <;> cases reL φ r <;> simp
theorem reVL_map {φ : Nat -> Option D} : ∀ {l l' : List D},reL φ l = some l' -> reVL φ (l.map .d) = l'.map .d
 | [],l',h=>by simp only [reL,Option.some.injEq] at h; subst h; rfl
 | x :: r, l', h => by
   cases l' with
   | nil=>simp only [reL] at h; cases hx : reD φ x <;> cases hr : reL φ r <;> simp [hx,hr] at h
   | cons y s =>
     obtain ⟨h1,h2⟩:=reL_cons_iff.1 h
     simp only [List.map_cons,reVL_cons,reV_d h1,reVL_map h2]
theorem idsVL_map_d : ∀ l : List D,idsVL (l.map .d) = idsL l
 | []=>rfl
 | x :: r=>by simp only [List.map_cons,idsVL,idsL,V.ids,idsVL_map_d r]
@[simp] theorem filt_cons (x : D) (r : List V) : List.filter isD (V.d x :: r) = V.d x :: List.filter isD r:=rfl
@[simp] theorem filt_nil : List.filter isD [] = []:=rfl
@[simp] theorem dD_d (x : D) : dD (V.d x) = x:=rfl
theorem sim_mk {α : Type} {c : α -> List D} {wh : α -> Prop} {wt : α -> Nat} {mk : α -> Int -> α} {hl : α -> Int -> Bool} (m : Marks c wh wt mk hl) {s : Sl α} (h : whS wh s) (k : Int) : Sim (cS c s) (cS c (mkS mk wt s k)):=
 .sl m.len h.1 (by simp) .nil
theorem ids_agg (l : List D) : (V.agg (l.map .d)).ids = idsL l:=by simp only [V.ids]; exact idsVL_map_d l
end Go.Vs
namespace Go.Vs
theorem Lead.bind {K K' : St -> Prop} {σ : St} (h : Lead K σ) (hk : ∀ σ',K σ' -> Lead K' σ') : Lead K' σ:=fun A0 N w0 ρ a w hR=>
 let ⟨σ',ρ',hR',hK⟩:=h A0 N w0 ρ a w hR; hk σ' hK A0 N w0 ρ' a w hR'
section
variable {A0 : Env} {N : Nat} {w0 : World} {ρ : Nat -> Option (Nat × Nat)} {σ : St} {a : Act} {w : World}
theorem Rel.layNil (h : Rel A0 N w0 ρ σ a w) {K T sz : Nat} (hK : K < 1000) (hsz : 0 < sz) : Rel A0 N w0 (upd ρ K none) (σ.lay K (.row T sz [])) a w:=
 h.lay K (hk_lt hK) (.row T sz []) none h.below (Nat.le_refl _) (fun _ _ _=>rfl) (fun p hp=>by cases hp) (fun _ _=>⟨hsz,rfl⟩)
theorem lead_slot {σ : St} (s K T sz : Nat) (hK : K < 1000) (hsz : 0 < sz) (hs : σ.t s = .d (.sl none none [])) :
  Lead (fun σ'=>σ' = { σ.lay K (.row T sz []) with t:=upd (σ.lay K (.row T sz [])).t s (.own K 0 0) }) σ:=by
 intro A0 N w0 ρ a w h
 have h1:=h.layNil (T:=T) hK hsz
 refine ⟨{ σ.lay K (.row T sz []) with t:=upd (σ.lay K (.row T sz [])).t s (.own K 0 0) },_,⟨h1.below,h1.hN,h1.key,h1.norow,h1.hG,h1.hB,h1.hs,h1.hs0,h1.defers,h1.size,fun i=>?_,h1.mem,h1.inj⟩,rfl⟩
 simp only [upd]
 split
 ·rename_i hi
  subst hi
  have hv:=h.tmps i
  rw [hs] at hv
  simp only [VR] at hv
  generalize a.eval (.tmp i) = v at hv
  cases hv
  simp only [VR,lay_m_same,Blk.map]
  refine ⟨by simp,?_⟩
  simp [OwnV]
 ·exact h1.tmps i
theorem LR_set {ρ : Nat -> Option (Nat × Nat)} {m : Nat -> Option Blk} {S : Nat -> Prop} {w : World} {l : List V} {vs : List Value} (h : LR ρ m S w l vs) (j : Nat) (x : V) (hx : ∀ v,vs[j]? = some v -> VR ρ m S w x v) : LR ρ m S w (l.set j x) vs:=by
 refine LR.of_get (by simpa using h.length) fun i c v hc hv=>?_
 rw [List.getElem?_set] at hc
 split at hc
 ·rename_i hij
  subst hij
  split at hc
  ·cases hc; exact hx v hv
  ·cases hc
 ·obtain ⟨u,hu,hd⟩:=h.get i c hc
  rw [hv] at hu; cases hu; exact hd
theorem lead_box {σ : St} (b j K T sz : Nat) (cs : List V) (hK : K < 1000) (hbK : b ≠ K) (hsz : 0 < sz) (hb : σ.m b = some (.box cs)) (hj : cs[j]? = some (.d (.sl none none []))) :
  Lead (fun σ'=>σ' = { σ.lay K (.row T sz []) with m:=upd (σ.lay K (.row T sz [])).m b (some (.box ((cs.map (wipe K)).set j (.own K 0 0)))) }) σ:=by
 intro A0 N w0 ρ a w h
 have h1:=h.layNil (T:=T) hK hsz
 have hb1 : (σ.lay K (.row T sz [])).m b = some (.box (cs.map (wipe K))):=by rw [lay_m_ne _ _ _ _ hbK,hb]; rfl
 have hkc : ∀ k,KC (upd ρ K none) (σ.lay K (.row T sz [])).m (upd ρ K none) (upd (σ.lay K (.row T sz [])).m b (some (.box ((cs.map (wipe K)).set j (.own K 0 0))))) k:=by
  intro k
  by_cases hk : k = b
  ·subst hk; simp only [KC,upd,if_true]; exact ⟨trivial,_,hb1⟩
  ·have:=KC.refl (ρ:=upd ρ K none) (m:=(σ.lay K (.row T sz [])).m) k
   unfold KC at this ⊢
   simpa [upd,hk] using this
 refine ⟨_,_,h1.setBlk (b':=.box ((cs.map (wipe K)).set j (.own K 0 0))) hb1 rfl h1.below (Nat.le_refl _) (fun _ _=>rfl) hkc (fun hS hw=>?_),rfl⟩
 obtain ⟨g,cap,hr,hB,cur,T',hc,hl⟩:=h1.mem b _ hb1
 refine ⟨g,cap,hr,hB,cur,T',hc,LR_set (LR.mono hS hw hkc _ _ hl) j _ fun v hv=>?_⟩
 obtain ⟨g0,cap0,hr0,hB0,cur0,T0,hc0,hl0⟩:=h.mem b _ hb
 have hr' : ρ b = some (g,cap):=by simpa [upd,hbK] using hr
 rw [hr'] at hr0
 cases hr0
 rw [hc] at hc0
 cases hc0
 obtain ⟨u,hu,hd⟩:=hl0.get j _ hj
 rw [hv] at hu
 cases hu
 simp only [VR] at hd
 cases hd
 simp only [VR,upd,Ne.symm hbK,if_false]
 rw [lay_m_same]
 simp [Blk.map,OwnV]
end
theorem loop_ruleL {P : Program} {E : Md} {sch : Nat -> Tr} {c : Code} {Q : Exit -> St -> Prop} {B hs0 : Nat} {W : List Nat} {t0 : Nat -> V} {m0 : Nat -> Option Blk} {X : Type} (Inv : X -> Nat -> Prop) (S : X -> List (Nat × V)) (M : X -> List (Nat × Option Blk)) (μ : X -> Nat)
  (h0 : Lead (fun s=>∃ x,Inv x s.hs /\ s.B = B /\ s.W = W /\ hs0 <= s.hs /\ (∀ p ∈ S x,s.t p.1 = p.2) /\ (∀ p ∈ M x,s.m p.1 = p.2)) ⟨B,hs0,W,t0,m0⟩)
  (hr : ∀ x hs t m,Inv x hs -> hs0 <= hs -> vwp P E sch c (backV2 Inv S M μ B W hs (μ x) Q) ⟨B,hs,W,updL t (S x),updL m (M x)⟩) : vloop P E sch c Q ⟨B,hs0,W,t0,m0⟩:=by
 refine ⟨fun n σ=>∃ x hs t m,Inv x hs /\ μ x = n /\ hs0 <= hs /\ σ = ⟨B,hs,W,updL t (S x),updL m (M x)⟩,Lead.mono h0 ?_,?_⟩
 ·rintro s ⟨x,h1,h3,h7,h4,h5,h6⟩
  obtain ⟨B',hs',W',t',m'⟩:=s
  simp only at h1 h3 h7 h4 h5 h6
  subst h3 h7
  exact ⟨_,x,hs',t',m',h1,rfl,h4,by rw [updL_has h5,updL_has h6]⟩
 rintro n σ ⟨x,hs,t,m,hx,rfl,hhs,rfl⟩
 refine vwp_mono _ _ _ _ ?_ (hr x hs t m hx hhs)
 intro e σ he
 cases e with
 | normal =>
   refine Lead.mono he ?_
   rintro s ⟨x',h1,h2,h3,h7,h4,h5,h6⟩
   obtain ⟨B',hs',W',t',m'⟩:=s
   simp only at h1 h3 h7 h4 h5 h6
   subst h3 h7
   exact ⟨_,h2,x',hs',t',m',h1,rfl,Nat.le_trans hhs h4,by rw [updL_has h5,updL_has h6]⟩
 | _=>exact he
theorem bs1 {P : Program} {E : Md} {ops : Array Oper} {K : St -> Prop} {r : List Oper} {σ : St} {k : Tmp} {ty : TypeId} {pos : String} {af : Array Edge} {T n k' : Nat} {ks : List Nat} {parts : Array (Nat × Operand)} (hE : E.p = false:=by rfl) (hk : keysVL (allC (parts.toList.map fun p : Nat × Operand=>σ.ev p.2)) = k' :: ks)
  (h : ∀ γ hs',σ.hs <= hs' -> Gam σ γ hs' -> ((tslice P T).isSome = true /\ n * (slT P T).2.1 <= 16777216 /\ parts.size = n /\ partsOk ({ σ with hs:=hs' }.frzs γ (k' :: ks)) (slT P T).2.1 0 parts.toList /\ (allC (parts.toList.map fun p : Nat × Operand=>({ σ with hs:=hs' }.frzs γ (k' :: ks)).ev p.2)).all isD = true) /\
   vops P E ops K r ((({ σ with hs:=hs' }.frzs γ (k' :: ks)).lay k (.row (slT P T).1 (slT P T).2.1 (chunk (slT P T).2.1 n ((allC (parts.toList.map fun p : Nat × Operand=>({ σ with hs:=hs' }.frzs γ (k' :: ks)).ev p.2)).map dD)))).put (some k) (.own k 0 n))) :
  vops P E ops K (⟨some k,.buildSlice T n parts,ty,pos,af,none⟩ :: r) σ:=by
 rw [w_bs1 T n k' ks parts hE hk]
 intro γ hs' h1 h2
 obtain ⟨h3,h4⟩:=h γ hs' h1 h2
 exact ⟨h3,h4⟩
attribute [simp] St.frzs St.frz Vs.frz Vs.frzL
theorem gam_row2 {σ : St} {γ : Nat -> Option Nat} {hs' k T sz k2 T2 sz2 : Nat} {es es2 : List (List D)} (hg : Gam σ γ hs') (hm : σ.m k = some (.row T sz es)) (hm2 : σ.m k2 = some (.row T2 sz2 es2)) (hlk : k < 1000:=by decide) : ∀ g,γ k = some g -> g ∉ idsLL es2:=
 fun g h=>(hg.fr k T sz es g hm h hlk).1.row k2 T2 sz2 es2 hm2
theorem good_ints {γ17 : Option Nat} {T : TypeId × Nat} {xs : List Int} {B : Nat} (q1 : ∀ g,γ17 = some g -> B <= g) (q2 : xs ≠ [] -> γ17 ≠ none) : Good (cS cI ⟨γ17,some T,xs⟩) (whS whI ⟨γ17,some T,xs⟩) B:=
 good_row q1 q2 (fun g _=>by simp) ⟨by simp,by simp⟩ (by simp [whI])
theorem nd_mem {l : List D} (h : (idsL l).Nodup) {x : D} (hx : x ∈ l) : x.ids.Nodup:=by
 induction l with
 | nil=>cases hx
 | cons y r ih =>
   simp only [idsL] at h
   rcases List.mem_cons.1 hx with rfl | hx
   ·exact nd_left h
   ·exact ih (nd_right h) hx
end Go.Vs
namespace Go.Vs
@[simp] theorem beq_int (a b : Int) : (a == b) = decide (a = b):=by by_cases h : a = b <;> simp [h]
@[simp] theorem bne_int (a b : Int) : (a != b) = !decide (a = b):=by by_cases h : a = b <;> simp [h]
@[simp] theorem beq_bytes (a b : List UInt8) : (a == b) = decide (a = b):=by by_cases h : a = b <;> simp [h]
@[simp] theorem castdec (a b : Nat) : ((a : Int) = (b : Int)) = (a = b):=propext ⟨fun h=>by omega,fun h=>by omega⟩
theorem VC.to {P : Program} {f : FuncId} {As : List V} {v v' : V} (h : VC P f As (fun _ r=>r = v)) (e : v = v') : VC P f As (fun _ r=>r = v'):=e ▸ h
theorem er_I (s : Sl Int) : (dSl cI s).er = pS cI (plS plI s):=er_dSl er_cI s
theorem er_SI (s : Sl (Sl Int)) : (dSl (cS cI) s).er = pS (cP cI) (plS (plS plI) s):=er_dSl (er_cS er_cI) s
theorem er_Str (s : Sl (List UInt8)) : (dSl cStr s).er = pS cStr (plS plStr s):=er_dSl er_cStr s
theorem er_File (s : Sl File) : (dSl cFile s).er = pS eFile (plS plFile s):=er_dSl er_cFile s
theorem er_Tab (s : Sl Tab) : (dSl cTab s).er = pS eTab (plS plTab s):=er_dSl er_cTab s
theorem er_Db (s : Sl Db) : (dSl cDb s).er = pS eDb (plS plDb s):=er_dSl er_cDb s
theorem er_Delta (s : Sl Delta) : (dSl cDelta s).er = pS eDelta (plS plDelta s):=er_dSl er_cDelta s
theorem er_Atom (s : Sl Atom) : (dSl cAtom s).er = pS eAtom (plS plAtom s):=er_dSl er_cAtom s
theorem er_VRel (s : Sl VRel) : (dSl cVRel s).er = pS eVRel (plS plVRel s):=er_dSl er_cVRel s
theorem plI_id (n : Int) : plI n = n:=rfl
theorem plStr_id (s : List UInt8) : plStr s = s:=rfl
theorem map_plI (l : List Int) : l.map plI = l:=by induction l with | nil=>rfl | cons a r ih=>simp [plI_id,ih]
theorem map_plStr (l : List (List UInt8)) : l.map plStr = l:=by induction l with | nil=>rfl | cons a r ih=>simp [plStr_id,ih]
theorem lead_frp {σ : St} (k : Nat) {T sz : Nat} {es : List (List D)} (hm : σ.m k = some (.row T sz es)) : Lead (fun σ'=>σ' = σ.frp k es) σ:=
 fun _ _ _ ρ _ _ hR=>⟨_,ρ,hR.frp hm,rfl⟩
theorem lead_frz {σ : St} (k : Nat) {T sz : Nat} {es : List (List D)} (hm : σ.m k = some (.row T sz es)) :
  Lead (fun σ'=>∃ γ hs',σ.hs <= hs' /\ Gam σ γ hs' /\ σ' = ({ σ with hs:=hs' } : St).frz k (γ k) (T,sz) es) σ:=
 fun _ _ _ ρ _ w hR=>⟨_,ρ,(hR.hs_).frz (k:=k) (T:=T) (sz:=sz) (es:=es) hm,_,w.heap.size,hR.hs,hR.gam,rfl⟩
end Go.Vs
namespace Go.Vs
attribute [local simp] plI_id plStr_id map_plI map_plStr pS cP cI cStr cU8 cB
open Go.RowKit
mutual
def D.pn : D -> Bool
 | .sl ..=>false
 | .pl es=>pnLL es
 | _=>true
def pnL : List D -> Bool
 | []=>true
 | x :: r=>x.pn && pnL r
def pnLL : List (List D) -> Bool
 | []=>true
 | x :: r=>pnL x && pnLL r
end
mutual
def V.pn : V -> Bool
 | .d x=>x.pn
 | .agg cs=>pnVL cs
 | .tup cs=>pnVL cs
 | _=>false
def pnVL : List V -> Bool
 | []=>true
 | x :: r=>x.pn && pnVL r
end
theorem pnL_at {l : List D} (h : pnL l = true) {i : Nat} {x : D} (hx : l[i]? = some x) : x.pn = true:=by
 induction l generalizing i with
 | nil=>simp at hx
 | cons y r ih =>
   simp only [pnL,Bool.and_eq_true] at h
   cases i with
   | zero=>simp at hx; rw [<- hx]; exact h.1
   | succ i=>exact ih h.2 (by simpa using hx)
theorem pnLL_at {l : List (List D)} (h : pnLL l = true) {i : Nat} {x : List D} (hx : l[i]? = some x) : pnL x = true:=by
 induction l generalizing i with
 | nil=>simp at hx
 | cons y r ih =>
   simp only [pnLL,Bool.and_eq_true] at h
   cases i with
   | zero=>simp at hx; rw [<- hx]; exact h.1
   | succ i=>exact ih h.2 (by simpa using hx)
theorem tk_hp {x : D} (h : x.tk = true) : x.hp = false:=by
 cases x with
 | pl=>cases h
 | _=>rfl
theorem pick_rows {Q : D -> D -> Nat -> Nat -> Prop} : ∀ (es : List (List D)) (k : Nat),(∀ (i : Nat) (e : List D),es[i]? = some e -> ∀ (j : Nat) (u : D),e[j]? = some u -> ∃ y,y.er = u /\ y.tk = true /\ Q u y (k + i) j) ->
  ∃ es' : List (List D),erLL es' = es /\ tkLL es' = true /\ ∀ (i : Nat) (e : List D),es'[i]? = some e -> ∃ e0,es[i]? = some e0 /\ e.length = e0.length /\ ∀ (j : Nat) (y : D),e[j]? = some y -> ∃ u,e0[j]? = some u /\ Q u y (k + i) j
 | [],k,_=>⟨[],rfl,rfl,by simp⟩
 | e :: r, k, h => by
   have row : ∀ (e : List D) (q : Nat),(∀ (j : Nat) (u : D),e[j]? = some u -> ∃ y,y.er = u /\ y.tk = true /\ Q u y k (q + j)) ->
     ∃ e' : List D,erL e' = e /\ tkL e' = true /\ ∀ (j : Nat) (y : D),e'[j]? = some y -> ∃ u,e[j]? = some u /\ Q u y k (q + j):=by
    intro e
    induction e with
    | nil=>intro q _; exact ⟨[],rfl,rfl,by simp⟩
    | cons x s ih =>
      intro q hx
      obtain ⟨y,h1,h2,h3⟩:=hx 0 x rfl
      obtain ⟨s',h4,h5,h6⟩:=ih (q + 1) fun j u hu=>by
       have:=hx (j + 1) u (by simpa using hu)
       rwa [show q + (j + 1) = q + 1 + j by omega] at this
      refine ⟨y :: s',by simp only [erL,h1,h4],by simp only [tkL,h2,h5,Bool.and_self],fun j z hz=>?_⟩
      cases j with
      | zero=>simp at hz; subst hz; exact ⟨x,rfl,h3⟩
      | succ j =>
        obtain ⟨u,hu,hq⟩:=h6 j z (by simpa using hz)
        exact ⟨u,by simpa using hu,by rwa [show q + (j + 1) = q + 1 + j by omega]⟩
   obtain ⟨e',h1,h2,h3⟩:=row e 0 fun j u hu=>by simpa using h 0 e rfl j u hu
   obtain ⟨r',h4,h5,h6⟩:=pick_rows (Q:=Q) r (k + 1) fun i e he j u hu=>by
    have:=h (i + 1) e (by simpa using he) j u hu
    rwa [show k + (i + 1) = k + 1 + i by omega] at this
   refine ⟨e' :: r',by simp only [erLL,h1,h4],by simp only [tkLL,h2,h5,Bool.and_self],fun i f hf=>?_⟩
   cases i with
   | zero =>
     simp at hf; subst hf
     exact ⟨e,rfl,by rw [<- h1,erL_len],fun j y hy=>by simpa using h3 j y hy⟩
   | succ i =>
     obtain ⟨e0,h7,h8,h9⟩:=h6 i f (by simpa using hf)
     exact ⟨e0,by simpa using h7,h8,fun j y hy=>by
      obtain ⟨u,hu,hq⟩:=h9 j y hy
      exact ⟨u,hu,by rwa [show k + (i + 1) = k + 1 + i by omega]⟩⟩
theorem DR.track {S : Nat -> Prop} {w : World} {x : D} {v : Value} (h : DR S w x v) : x.pn = true -> ∃ y,DR S w y v /\ y.er = x /\ y.tk = true:=by
 induction h with
 | bool b=>intro _; exact ⟨_,.bool b,rfl,rfl⟩
 | int k n=>intro _; exact ⟨_,.int k n,rfl,rfl⟩
 | str s=>intro _; exact ⟨_,.str s,rfl,rfl⟩
 | nil T=>intro h; cases h
 | emp t a=>intro h; cases h
 | sl=>intro h; cases h
 | pl es a cap sz vs hg hn hcap hm hsz hc hd ih =>
   intro hp
   simp only [D.pn] at hp
   by_cases h0 : 0 < cap
   ·obtain ⟨p,rfl⟩:=Option.ne_none_iff_exists'.1 (hn h0)
    obtain ⟨es',h1,h2,h3⟩:=pick_rows (Q:=fun u y i j=>DR S w y (vs (i * sz + j))) es 0 fun i e he j u hu=>by
     obtain ⟨y,h4,h5,h6⟩:=ih i e he j u hu (pnL_at (pnLL_at hp he) hu)
     exact ⟨y,h5,h6,by simpa using h4⟩
    have hl : es'.length = es.length:=by rw [<- h1,erLL_len]
    refine ⟨.sl (some p.block) none es',?_,by simp only [D.er,h1],by simp only [D.tk,h2]⟩
    rw [<- hl]
    refine .sl p.block none es' p cap sz vs (hg p rfl h0) (fun _=>rfl) (by omega) hm (fun i e he=>?_) (fun i e he j u hu=>?_) (fun i e he j u hu=>?_) (by simp) ?_
    ·obtain ⟨e0,h4,h5,_⟩:=h3 i e he
     rw [h5]; exact hsz i e0 h4
    ·obtain ⟨e0,h4,h5,h6⟩:=h3 i e he
     obtain ⟨u0,h7,h8⟩:=h6 j u hu
     exact hc p rfl i e0 h4 j u0 h7
    ·obtain ⟨e0,h4,h5,h6⟩:=h3 i e he
     obtain ⟨u0,h7,h8⟩:=h6 j u hu
     simpa using h8
    ·simp only [hpLL,hpL,List.any_eq_false,List.mem_iff_getElem?,Bool.not_eq_true]
     rintro e ⟨i,hi⟩ u ⟨j,hj⟩
     have h4:=tkLL_at h2 hi
     have : ∀ (l : List D),tkL l = true -> ∀ (j : Nat) (u : D),l[j]? = some u -> u.tk = true:=by
      intro l
      induction l with
      | nil=>simp
      | cons a r ih =>
        intro ht j u hu
        simp only [tkL,Bool.and_eq_true] at ht
        cases j with
        | zero=>simp at hu; rw [<- hu]; exact ht.1
        | succ j=>exact ih ht.2 j u (by simpa using hu)
     exact tk_hp (this e h4 j u hj)
   ·have hc0 : cap = 0:=by omega
    subst hc0
    have he : es = []:=List.eq_nil_of_length_eq_zero (by omega)
    subst he
    exact ⟨.sl none (some (0,0)) [],.emp _ a,rfl,rfl⟩
mutual
theorem VR.track {S : Nat -> Prop} {w : World} : ∀ (x : V) (v : Value),x.pn = true -> VR (fun _=>none) (fun _=>none) S w x v ->
  ∃ y,VR (fun _=>none) (fun _=>none) S w y v /\ rp (fun _=>none) y = some x /\ y.tk = true /\ rd (fun _=>none) (fun _=>none) y = some y
 | .d x, v, hp, h => by
   simp only [VR] at h
   obtain ⟨y,h1,h2,h3⟩:=h.track (by simpa [V.pn] using hp)
   exact ⟨.d y,by simpa only [VR] using h1,by simp only [rp,h2],by simpa only [V.tk] using h3,rfl⟩
 | .own _ _ _,_,hp,_=>by simp [V.pn] at hp
 | .ptr _ _ _,_,hp,_=>by simp [V.pn] at hp
 | .fptr _ _ _,_,hp,_=>by simp [V.pn] at hp
 | .bad,_,hp,_=>by simp [V.pn] at hp
 | .agg cs, v, hp, h => by
   simp only [VR] at h
   obtain ⟨l,h1,h2⟩:=h
   obtain ⟨ys,h3,h4,h5,h6⟩:=LR.track cs l (by simpa [V.pn] using hp) h2
   exact ⟨.agg ys,by simp only [VR]; exact ⟨l,h1,h3⟩,by simp only [rp,h4,Option.map_some],by simpa only [V.tk] using h5,by simp only [rd,h6,Option.map_some]⟩
 | .tup cs, v, hp, h => by
   simp only [VR] at h
   obtain ⟨l,h1,h2⟩:=h
   obtain ⟨ys,h3,h4,h5,h6⟩:=LR.track cs l (by simpa [V.pn] using hp) h2
   exact ⟨.tup ys,by simp only [VR]; exact ⟨l,h1,h3⟩,by simp only [rp,h4,Option.map_some],by simpa only [V.tk] using h5,by simp only [rd,h6,Option.map_some]⟩
 | .fn _ _,_,hp,_=>by simp [V.pn] at hp
theorem LR.track {S : Nat -> Prop} {w : World} : ∀ (x : List V) (v : List Value),pnVL x = true -> LR (fun _=>none) (fun _=>none) S w x v ->
  ∃ y,LR (fun _=>none) (fun _=>none) S w y v /\ rpL (fun _=>none) y = some x /\ tkVL y = true /\ rdL (fun _=>none) (fun _=>none) y = some y
 | [],[],_,_=>⟨[],by simp [LR],rfl,rfl,rfl⟩
 | [],_ :: _,_,h=>by simp [LR] at h
 | _ :: _,[],_,h=>by simp [LR] at h
 | c :: cs, v :: l, hp, h => by
   simp only [LR] at h
   simp only [pnVL,Bool.and_eq_true] at hp
   obtain ⟨y,h1,h2,h3,h4⟩:=VR.track c v hp.1 h.1
   obtain ⟨ys,h5,h6,h7,h8⟩:=LR.track cs l hp.2 h.2
   exact ⟨y :: ys,by simp only [LR]; exact ⟨h1,h5⟩,by simp only [rpL,h2,h6],by simp only [tkVL,h3,h7,Bool.and_self],by simp only [rdL,h4,h8]⟩
end
mutual
theorem VR.er {S : Nat -> Prop} {w : World} : ∀ (v : V) (val : Value) (r : V),VR (fun _=>none) (fun _=>none) S w v val -> rp (fun _=>none) v = some r -> VR (fun _=>none) (fun _=>none) S w r val
 | .d x, val, r, hv, hr => by
   simp only [rp,Option.some.injEq] at hr
   subst hr
   simp only [VR] at hv ⊢
   exact hv.er
 | .own k lo n,val,r,hv,hr=>by simp [rp] at hr
 | .ptr _ _ _,_,_,_,hr=>by simp [rp] at hr
 | .fptr _ _ _,_,_,_,hr=>by simp [rp] at hr
 | .bad,_,_,_,hr=>by simp [rp] at hr
 | .agg cs, val, r, hv, hr => by
   simp only [rp] at hr
   cases hl : rpL (fun _=>none) cs with
   | none=>simp [hl] at hr
   | some rs =>
     simp only [hl,Option.map_some,Option.some.injEq] at hr
     subst hr
     simp only [VR] at hv ⊢
     obtain ⟨l,h1,h2⟩:=hv
     exact ⟨l,h1,LR.er cs l rs h2 hl⟩
 | .tup cs, val, r, hv, hr => by
   simp only [rp] at hr
   cases hl : rpL (fun _=>none) cs with
   | none=>simp [hl] at hr
   | some rs =>
     simp only [hl,Option.map_some,Option.some.injEq] at hr
     subst hr
     simp only [VR] at hv ⊢
     obtain ⟨l,h1,h2⟩:=hv
     exact ⟨l,h1,LR.er cs l rs h2 hl⟩
 | .fn _ _,val,r,hv,hr=>by simp [rp] at hr
theorem LR.er {S : Nat -> Prop} {w : World} : ∀ (l : List V) (vals : List Value) (rs : List V),LR (fun _=>none) (fun _=>none) S w l vals -> rpL (fun _=>none) l = some rs -> LR (fun _=>none) (fun _=>none) S w rs vals
 | [],[],rs,_,hr=>by simp [rpL] at hr; subst hr; simp [LR]
 | [],_ :: _,_,hl,_=>by simp [LR] at hl
 | _ :: _,[],_,hl,_=>by simp [LR] at hl
 | c :: cs, v :: l, rs, hl, hr => by
   simp only [LR] at hl
   simp only [rpL] at hr
   cases h1 : rp (fun _=>none) c with
   | none=>simp [h1] at hr
   | some x =>
     cases h2 : rpL (fun _=>none) cs with
     | none=>simp [h1,h2] at hr
     | some r =>
       simp only [h1,h2,Option.some.injEq] at hr
       subst hr
       simp only [LR]
       exact ⟨VR.er c v x hl.1 h1,LR.er cs l r hl.2 h2⟩
end
theorem VC.track {P : Program} {f : FuncId} {As Ps : List V} {v : V} (h : VC P f Ps (fun _ r=>r = v)) (hp : rpL (fun _=>none) As = some Ps) (hv : v.pn = true) :
  VC P f As (fun _ r=>rp (fun _=>none) r = some v /\ r.tk = true):=by
 refine ⟨h.1,fun w vals A hgl hLR=>?_⟩
 refine (h.2 w vals A hgl (LR.er _ _ _ hLR hp)).mono fun e w' he=>?_
 obtain ⟨v',r,rfl,hb,hvr,_,rfl⟩:=he
 obtain ⟨y,h1,h2,h3,h4⟩:=VR.track _ _ hv hvr
 exact ⟨v',y,rfl,hb,h1,h4,h2,h3⟩
def Tk {α β : Type} (c : α -> List D) (e : β -> List D) (pl : α -> β) : Prop:=∀ (l : List D) (p : β),tkL l = true -> erL l = e p -> ∃ a,l = c a /\ pl a = p
theorem Tk.mapS {α β : Type} {c : α -> List D} {e : β -> List D} {pl : α -> β} (h : Tk c e pl) : ∀ (es : List (List D)) (ps : List β),tkLL es = true -> erLL es = ps.map e -> ∃ xs : List α,es = xs.map c /\ xs.map pl = ps
 | [],[],_,_=>⟨[],rfl,rfl⟩
 | [],_ :: _,_,h=>by simp [erLL] at h
 | _ :: _,[],_,h=>by simp [erLL] at h
 | x :: r, p :: ps, ht, he => by
   simp only [tkLL,Bool.and_eq_true] at ht
   simp only [erLL,List.map_cons,List.cons.injEq] at he
   obtain ⟨a,h1,h2⟩:=h x p ht.1 he.1
   obtain ⟨xs,h3,h4⟩:=Tk.mapS h r ps ht.2 he.2
   exact ⟨a :: xs,by rw [h1,h3]; rfl,by rw [List.map_cons,h2,h4]⟩
theorem tk_S {α β : Type} {c : α -> List D} {e : β -> List D} {pl : α -> β} (h : Tk c e pl) : Tk (cS c) (cP e) (plS pl):=by
 intro l ps ht he
 simp only [cP,pS] at he
 match l,ht,he with
 | [],_,he=>simp [erL] at he
 | x :: y :: r,_,he=>simp [erL] at he
 | [x], ht, he =>
   simp only [erL,List.cons.injEq,and_true] at he
   simp only [tkL,Bool.and_true] at ht
   cases x with
   | sl id T es =>
     simp only [D.er,D.pl.injEq] at he
     simp only [D.tk] at ht
     obtain ⟨xs,h1,h2⟩:=h.mapS es ps ht he
     exact ⟨⟨id,T,xs⟩,by simp only [cS,dSl,h1],h2⟩
   | pl es=>cases ht
   | _=>simp [D.er] at he
theorem tk_I : Tk cI cI plI:=by
 intro l p ht he
 match l,ht,he with
 | [],_,he=>simp [erL] at he
 | x :: y :: r,_,he=>simp [erL] at he
 | [x], ht, he =>
   simp only [erL,cI,List.cons.injEq,and_true] at he
   refine ⟨p,?_,rfl⟩
   cases x <;> simp [D.er] at he
   simp [he]
theorem erL_split : ∀ (l a b : List D),erL l = a ++ b -> ∃ l1 l2,l = l1 ++ l2 /\ erL l1 = a /\ erL l2 = b
 | l,[],b,h=>⟨[],l,rfl,rfl,by simpa using h⟩
 | [],x :: a,b,h=>by simp [erL] at h
 | y :: l, x :: a, b, h => by
   simp only [erL,List.cons_append,List.cons.injEq] at h
   obtain ⟨l1,l2,h1,h2,h3⟩:=erL_split l a b h.2
   exact ⟨y :: l1,l2,by rw [h1]; rfl,by simp only [erL,h.1,h2],h3⟩
theorem tk_app {α β γ δ : Type} {c1 : α -> List D} {e1 : β -> List D} {p1 : α -> β} {c2 : γ -> List D} {e2 : δ -> List D} {p2 : γ -> δ} (h1 : Tk c1 e1 p1) (h2 : Tk c2 e2 p2) :
  Tk (fun x : α × γ=>c1 x.1 ++ c2 x.2) (fun x : β × δ=>e1 x.1 ++ e2 x.2) (fun x=>(p1 x.1,p2 x.2)):=by
 intro l p ht he
 obtain ⟨l1,l2,rfl,h3,h4⟩:=erL_split l _ _ he
 simp only [tkL_app,Bool.and_eq_true] at ht
 obtain ⟨a,rfl,h5⟩:=h1 l1 p.1 ht.1 h3
 obtain ⟨b,rfl,h6⟩:=h2 l2 p.2 ht.2 h4
 exact ⟨(a,b),rfl,Prod.ext h5 h6⟩
theorem Tk.map {α β α' β' : Type} {c : α -> List D} {e : β -> List D} {p : α -> β} {c' : α' -> List D} {e' : β' -> List D} {p' : α' -> β'} (h : Tk c e p) (f : α -> α') (g : β' -> β) (hc : ∀ a,c' (f a) = c a) (he : ∀ b,e' b = e (g b)) (hp : ∀ a b,p a = g b -> p' (f a) = b) : Tk c' e' p':=by
 intro l b ht hl
 rw [he] at hl
 obtain ⟨a,h1,h2⟩:=h l (g b) ht hl
 exact ⟨f a,by rw [hc,h1],hp a b h2⟩
theorem rp_agg {α β : Type} {c : α -> List D} {e : β -> List D} {pl : α -> β} (h : Tk c e pl) {r : V} {p : β} (hr : rp (fun _=>none) r = some (.agg ((e p).map .d))) (ht : r.tk = true) : ∃ a,r = .agg ((c a).map .d) /\ pl a = p:=by
 have key : ∀ (cs : List V) (l : List D),rpL (fun _=>none) cs = some (l.map .d) -> ∃ l',cs = l'.map .d /\ erL l' = l:=by
  intro cs
  induction cs with
  | nil=>intro l h; simp only [rpL,Option.some.injEq] at h; cases l with | nil=>exact ⟨[],rfl,rfl⟩ | cons=>simp at h
  | cons x s ih =>
    intro l h
    simp only [rpL] at h
    cases hx : rp (fun _=>none) x with
    | none=>simp [hx] at h
    | some y =>
      cases hs : rpL (fun _=>none) s with
      | none=>simp [hx,hs] at h
      | some ys =>
        simp only [hx,hs,Option.some.injEq] at h
        cases l with
        | nil=>simp at h
        | cons d l =>
          simp only [List.map_cons,List.cons.injEq] at h
          obtain ⟨rfl,rfl⟩:=h
          obtain ⟨l',h1,h2⟩:=ih l hs
          cases x with
          | d z =>
            simp only [rp,Option.some.injEq,V.d.injEq] at hx
            exact ⟨z :: l',by rw [h1]; rfl,by simp only [erL,hx,h2]⟩
          | own=>simp [rp] at hx
          | ptr=>simp [rp] at hx
          | fptr=>simp [rp] at hx
          | bad=>simp [rp] at hx
          | agg zs=>simp only [rp] at hx; cases hz : rpL (fun _=>none) zs <;> simp [hz] at hx
          | tup zs=>simp only [rp] at hx; cases hz : rpL (fun _=>none) zs <;> simp [hz] at hx
          | fn ff zs=>simp [rp] at hx
 cases r with
 | agg cs =>
   simp only [rp] at hr
   cases hc : rpL (fun _=>none) cs with
   | none=>simp [hc] at hr
   | some l =>
     simp only [hc,Option.map_some,Option.some.injEq,V.agg.injEq] at hr
     subst hr
     obtain ⟨l',rfl,h2⟩:=key cs _ hc
     have : tkL l' = true:=by
      simp only [V.tk] at ht
      have : ∀ l : List D,tkVL (l.map V.d) = tkL l:=by
       intro l; induction l with
       | nil=>rfl
       | cons x r ih=>simp only [List.map_cons,tkVL,V.tk,tkL,ih]
      rw [<- this]; exact ht
     obtain ⟨a,rfl,h3⟩:=h l' p this h2
     exact ⟨a,rfl,h3⟩
 | d x=>simp [rp] at hr
 | own=>simp [rp] at hr
 | ptr=>simp [rp] at hr
 | fptr=>simp [rp] at hr
 | bad=>simp [rp] at hr
 | fn _ _=>simp [rp] at hr
 | tup cs=>simp only [rp] at hr; cases hc : rpL (fun _=>none) cs <;> simp [hc] at hr
theorem rp_sl {α β : Type} {c : α -> List D} {e : β -> List D} {pl : α -> β} (h : Tk c e pl) {r : V} {ps : List β} (hr : rp (fun _=>none) r = some (.d (pS e ps))) (ht : r.tk = true) : ∃ s : Sl α,r = .d (dSl c s) /\ plS pl s = ps:=by
 cases r with
 | d x =>
   simp only [rp,Option.some.injEq,V.d.injEq] at hr
   obtain ⟨s,h1,h2⟩:=tk_S h [x] ps (by simpa only [tkL,Bool.and_true,V.tk] using ht) (by simp only [erL,hr,cP])
   simp only [cS,List.cons.injEq,and_true] at h1
   exact ⟨s,by rw [h1],h2⟩
 | own=>simp [rp] at hr
 | ptr=>simp [rp] at hr
 | fptr=>simp [rp] at hr
 | bad=>simp [rp] at hr
 | fn _ _=>simp [rp] at hr
 | agg cs=>simp only [rp] at hr; cases hc : rpL (fun _=>none) cs <;> simp [hc] at hr
 | tup cs=>simp only [rp] at hr; cases hc : rpL (fun _=>none) cs <;> simp [hc] at hr
theorem rp_flat {r : V} {x : D} (hr : rp (fun _=>none) r = some (.d x)) (hx : x.hp = false) : r = .d x:=by
 cases r with
 | d y =>
   simp only [rp,Option.some.injEq,V.d.injEq] at hr
   cases y <;> simp only [D.er] at hr <;> subst hr <;> first | rfl | cases hx
 | own=>simp [rp] at hr
 | ptr=>simp [rp] at hr
 | fptr=>simp [rp] at hr
 | bad=>simp [rp] at hr
 | fn _ _=>simp [rp] at hr
 | agg cs=>simp only [rp] at hr; cases hc : rpL (fun _=>none) cs <;> simp [hc] at hr
 | tup cs=>simp only [rp] at hr; cases hc : rpL (fun _=>none) cs <;> simp [hc] at hr
theorem rp_tup2 {r a b : V} (hr : rp (fun _=>none) r = some (.tup [a,b])) (ht : r.tk = true) : ∃ x y,r = .tup [x,y] /\ rp (fun _=>none) x = some a /\ rp (fun _=>none) y = some b /\ x.tk = true /\ y.tk = true:=by
 cases r with
 | tup cs =>
   simp only [rp] at hr
   match cs,hr,ht with
   | [],hr,_=>simp [rpL] at hr
   | [x],hr,_=>simp only [rpL] at hr; cases hx : rp (fun _=>none) x <;> simp [hx] at hr
   | [x, y], hr, ht =>
     simp only [rpL] at hr
     cases hx : rp (fun _=>none) x with
     | none=>simp [hx] at hr
     | some u =>
       cases hy : rp (fun _=>none) y with
       | none=>simp [hx,hy] at hr
       | some v =>
         simp [hx,hy] at hr
         simp only [V.tk,tkVL,Bool.and_true,Bool.and_eq_true] at ht
         exact ⟨x,y,rfl,by rw [hx,hr.1],by rw [hy,hr.2],ht.1,ht.2⟩
   | x :: y :: z :: r, hr, _ =>
     simp only [rpL] at hr
     cases hx : rp (fun _=>none) x <;> cases hy : rp (fun _=>none) y <;> cases hz : rp (fun _=>none) z <;> cases hq : rpL (fun _=>none) r <;> simp [hx,hy,hz,hq] at hr
 | d x=>simp [rp] at hr
 | own=>simp [rp] at hr
 | ptr=>simp [rp] at hr
 | fptr=>simp [rp] at hr
 | bad=>simp [rp] at hr
 | fn _ _=>simp [rp] at hr
 | agg cs=>simp only [rp] at hr; cases hc : rpL (fun _=>none) cs <;> simp [hc] at hr
end Go.Vs
namespace Go.Vs
attribute [local simp] plI_id plStr_id map_plI map_plStr pS cP cI cStr cU8 cB
theorem pn_cI (n : Int) : pnL (cI n) = true:=rfl
theorem pn_cStr (s : List UInt8) : pnL (cStr s) = true:=rfl
theorem pnLL_map {α : Type} {c : α -> List D} (h : ∀ a,pnL (c a) = true) (l : List α) : pnLL (l.map c) = true:=by
 induction l with
 | nil=>rfl
 | cons a r ih=>simp only [List.map_cons,pnLL,h a,ih,Bool.and_self]
theorem pn_pS {α : Type} {c : α -> List D} (l : List α) (h : ∀ a,pnL (c a) = true) : (pS c l).pn = true:=pnLL_map h l
theorem pn_cP {α : Type} {c : α -> List D} (l : List α) (h : ∀ a,pnL (c a) = true) : pnL (cP c l) = true:=by simp only [cP,pnL,pn_pS l h,Bool.and_self]
theorem pnL_app (l l' : List D) : pnL (l ++ l') = (pnL l && pnL l'):=by
 induction l with
 | nil=>simp [pnL]
 | cons x r ih=>simp [pnL,ih,Bool.and_assoc]
theorem pnVL_d (l : List D) : pnVL (l.map .d) = pnL l:=by
 induction l with
 | nil=>rfl
 | cons x r ih=>simp only [List.map_cons,pnVL,V.pn,pnL,ih]
attribute [simp] pnVL_d pnVL V.pn D.pn pnL pnLL
@[simp] theorem pn_pI (l : List Int) : pnLL (l.map cI) = true:=pnLL_map pn_cI l
@[simp] theorem pn_pSI (l : List (List Int)) : pnLL (l.map (cP cI)) = true:=pnLL_map (fun a=>pn_cP a pn_cI) l
@[simp] theorem pn_pStr (l : List (List UInt8)) : pnLL (l.map cStr) = true:=pnLL_map pn_cStr l
def wpI (_ : Int) : Nat:=1
def wpStr (_ : List UInt8) : Nat:=1
def wpS {α : Type} (w : α -> Nat) (l : List α) : Nat:=sumW w l
theorem wtI_pl (n : Int) : wtI n = wpI (plI n):=rfl
theorem wtStr_pl (s : List UInt8) : wtStr s = wpStr (plStr s):=rfl
theorem wtS_pl {α β : Type} {wt : α -> Nat} {w : β -> Nat} {pl : α -> β} (h : ∀ a,wt a = w (pl a)) (s : Sl α) : wtS wt s = wpS w (plS pl s):=by
 simp only [wtS,wpS,plS]
 generalize s.xs = l
 induction l with
 | nil=>rfl
 | cons a r ih=>simp only [sumW_cons,List.map_cons,h a,ih]
theorem wb_I (n : Int) : wtI n <= 0 * swI n + 1:=by simp [wtI]
theorem wb_Str (s : List UInt8) : wtStr s <= 0 * swStr s + 1:=by simp [wtStr]
theorem wbS {α : Type} {wt sw : α -> Nat} {c k : Nat} (h : ∀ a,wt a <= c * sw a + k) (s : Sl α) : wtS wt s <= (c + k) * swS sw s + 0:=by
 simp only [wtS,swS]
 generalize s.xs = l
 have key : sumW wt l <= c * sumW sw l + k * l.length:=by
  induction l with
  | nil=>simp
  | cons a r ih=>have:=h a; simp only [sumW_cons,List.length_cons,Nat.mul_add,Nat.mul_one]; omega
 have h1 : c * sumW sw l <= (c + k) * sumW sw l:=Nat.mul_le_mul_right _ (by omega)
 have h2 : k * l.length <= (c + k) * l.length:=Nat.mul_le_mul_right _ (by omega)
 rw [Nat.mul_add]
 omega
@[simp] theorem pn_eFile (p : PFile) : pnL (eFile p) = true:=by simp only [eFile,pnL_app,(pn_cStr _),(pn_cStr _),Bool.and_self]
@[simp] theorem pn_pFile (l : List PFile) : pnLL (l.map eFile) = true:=pnLL_map pn_eFile l
@[simp] theorem pn_eDisk (p : PDisk) : pnL (eDisk p) = true:=by simp only [eDisk,pnL_app,(pn_cP _ pn_eFile),Bool.and_self]
@[simp] theorem pn_pDisk (l : List PDisk) : pnLL (l.map eDisk) = true:=pnLL_map pn_eDisk l
theorem tk_Reln : Tk cReln eReln plReln:=
 Tk.map (tk_app tk_I (tk_S (tk_S tk_I))) (fun x=>(⟨x.1,x.2⟩ : Reln)) (fun b=>(b.ar,b.rows)) (fun _=>rfl) (fun _=>rfl) (fun x b h=>by
  simp only [Prod.mk.injEq] at h
  cases b; simp_all [plReln])
@[simp] theorem pn_eReln (p : PReln) : pnL (eReln p) = true:=by simp only [eReln,pnL_app,(pn_cI _),(pn_cP _ (fun a=>pn_cP a pn_cI)),Bool.and_self]
@[simp] theorem pn_pReln (l : List PReln) : pnLL (l.map eReln) = true:=pnLL_map pn_eReln l
def wpReln (p : PReln) : Nat:=wpI p.ar + wpS (wpS wpI) p.rows
theorem wtReln_pl (a : Reln) : wtReln a = wpReln (plReln a):=by simp only [wtReln,wpReln,plReln,wtI_pl,(wtS_pl (wtS_pl wtI_pl))]
theorem wb_Reln (a : Reln) : wtReln a <= 1 * swReln a + 1:=by
 have h0:=wb_I a.ar
 have h1:=(wbS (wbS wb_I)) a.rows
 simp only [wtReln,swReln] at *
 omega
def wpTReln (p : PReln) : Nat:=wpS (wpS wpI) p.rows
theorem wtTReln_pl (a : Reln) : wtTReln a = wpTReln (plReln a):=by simp only [wtTReln,wpTReln,plReln,(wtS_pl (wtS_pl wtI_pl))]
@[simp] theorem pn_eTab (p : PTab) : pnL (eTab p) = true:=by simp only [eTab,pnL_app,(pn_cStr _),(pn_eReln _),Bool.and_self]
@[simp] theorem pn_pTab (l : List PTab) : pnLL (l.map eTab) = true:=pnLL_map pn_eTab l
def wpTab (p : PTab) : Nat:=wpStr p.name + wpReln p.rel
theorem wtTab_pl (a : Tab) : wtTab a = wpTab (plTab a):=by simp only [wtTab,wpTab,plTab,wtStr_pl,wtReln_pl]
theorem wb_Tab (a : Tab) : wtTab a <= 1 * swTab a + 2:=by
 have h0:=wb_Str a.name
 have h1:=wb_Reln a.rel
 simp only [wtTab,swTab] at *
 omega
@[simp] theorem pn_eDb (p : PDb) : pnL (eDb p) = true:=by simp only [eDb,pnL_app,(pn_cP _ pn_eTab),Bool.and_self]
@[simp] theorem pn_pDb (l : List PDb) : pnLL (l.map eDb) = true:=pnLL_map pn_eDb l
def wpTDb (p : PDb) : Nat:=wpS wpTab p.tabs
theorem wtTDb_pl (a : Db) : wtTDb a = wpTDb (plDb a):=by simp only [wtTDb,wpTDb,plDb,(wtS_pl wtTab_pl)]
theorem wbT_Db (a : Db) : wtTDb a <= 3 * swDb a + 0:=by
 have h0:=(wbS wb_Tab) a.tabs
 simp only [wtTDb,swDb] at *
 omega
@[simp] theorem pn_eDelta (p : PDelta) : pnL (eDelta p) = true:=by simp only [eDelta,pnL_app,(pn_cStr _),(pn_eReln _),(pn_eReln _),Bool.and_self]
@[simp] theorem pn_pDelta (l : List PDelta) : pnLL (l.map eDelta) = true:=pnLL_map pn_eDelta l
@[simp] theorem pn_eCnt (p : PCnt) : pnL (eCnt p) = true:=by simp only [eCnt,pnL_app,(pn_cI _),(pn_cP _ (fun a=>pn_cP a pn_cI)),(pn_cP _ pn_cI),Bool.and_self]
@[simp] theorem pn_pCnt (l : List PCnt) : pnLL (l.map eCnt) = true:=pnLL_map pn_eCnt l
@[simp] theorem pn_eAtom (p : PAtom) : pnL (eAtom p) = true:=by simp only [eAtom,pnL_app,(pn_cStr _),(pn_cP _ pn_cI),Bool.and_self]
@[simp] theorem pn_pAtom (l : List PAtom) : pnLL (l.map eAtom) = true:=pnLL_map pn_eAtom l
def wpAtom (p : PAtom) : Nat:=wpStr p.rel + wpS wpI p.vars
theorem wtAtom_pl (a : Atom) : wtAtom a = wpAtom (plAtom a):=by simp only [wtAtom,wpAtom,plAtom,wtStr_pl,(wtS_pl wtI_pl)]
theorem wb_Atom (a : Atom) : wtAtom a <= 1 * swAtom a + 1:=by
 have h0:=wb_Str a.rel
 have h1:=(wbS wb_I) a.vars
 simp only [wtAtom,swAtom] at *
 omega
@[simp] theorem pn_eQuery (p : PQuery) : pnL (eQuery p) = true:=by simp only [eQuery,pnL_app,(pn_cI _),(pn_cP _ pn_eAtom),(pn_cP _ pn_cI),Bool.and_self]
@[simp] theorem pn_pQuery (l : List PQuery) : pnLL (l.map eQuery) = true:=pnLL_map pn_eQuery l
def wpTQuery (p : PQuery) : Nat:=wpS wpAtom p.atoms + wpS wpI p.out
theorem wtTQuery_pl (a : Query) : wtTQuery a = wpTQuery (plQuery a):=by simp only [wtTQuery,wpTQuery,plQuery,(wtS_pl wtAtom_pl),(wtS_pl wtI_pl)]
theorem wbT_Query (a : Query) : wtTQuery a <= 2 * swQuery a + 1:=by
 have h0:=(wbS wb_Atom) a.atoms
 have h1:=(wbS wb_I) a.out
 simp only [wtTQuery,swQuery] at *
 omega
@[simp] theorem pn_eView (p : PView) : pnL (eView p) = true:=by simp only [eView,pnL_app,(pn_eQuery _),(pn_eCnt _),Bool.and_self]
@[simp] theorem pn_pView (l : List PView) : pnLL (l.map eView) = true:=pnLL_map pn_eView l
@[simp] theorem pn_eDec (p : PDec) : pnL (eDec p) = true:=by simp only [eDec,pnL_app,(pn_cP _ (fun a=>pn_cP a pn_cI)),(pn_cP _ pn_cI),Bool.and_self]
@[simp] theorem pn_pDec (l : List PDec) : pnLL (l.map eDec) = true:=pnLL_map pn_eDec l
def wpTDec (p : PDec) : Nat:=wpS (wpS wpI) p.bags + wpS wpI p.par
theorem wtTDec_pl (a : Dec) : wtTDec a = wpTDec (plDec a):=by simp only [wtTDec,wpTDec,plDec,(wtS_pl (wtS_pl wtI_pl)),(wtS_pl wtI_pl)]
theorem wbT_Dec (a : Dec) : wtTDec a <= 1 * swDec a + 0:=by
 have h0:=(wbS (wbS wb_I)) a.bags
 have h1:=(wbS wb_I) a.par
 simp only [wtTDec,swDec] at *
 omega
theorem tk_VRel : Tk cVRel eVRel plVRel:=
 Tk.map (tk_app (tk_S tk_I) tk_Reln) (fun x=>(⟨x.1,x.2⟩ : VRel)) (fun b=>(b.vars,b.rel)) (fun _=>rfl) (fun _=>rfl) (fun x b h=>by
  simp only [Prod.mk.injEq] at h
  cases b; simp_all [plVRel])
@[simp] theorem pn_eVRel (p : PVRel) : pnL (eVRel p) = true:=by simp only [eVRel,pnL_app,(pn_cP _ pn_cI),(pn_eReln _),Bool.and_self]
@[simp] theorem pn_pVRel (l : List PVRel) : pnLL (l.map eVRel) = true:=pnLL_map pn_eVRel l
@[simp] theorem pn_eHist (p : PHist) : pnL (eHist p) = true:=by simp only [eHist,pnL_app,(pn_cI _),(pn_cP _ pn_eDb),Bool.and_self]
@[simp] theorem pn_pHist (l : List PHist) : pnLL (l.map eHist) = true:=pnLL_map pn_eHist l
@[simp] theorem pn_eRat (p : PRat) : pnL (eRat p) = true:=by simp only [eRat,pnL_app,(pn_cI _),(pn_cI _),Bool.and_self]
@[simp] theorem pn_pRat (l : List PRat) : pnLL (l.map eRat) = true:=pnLL_map pn_eRat l
end Go.Vs
namespace Go.Vs
attribute [local simp] plI_id plStr_id map_plI map_plStr pS cP cI cStr cU8 cB
theorem good_Reln {n B : Nat} {ar : Int} {rows : Sl Ints} (G : Good (cS (cS cI) rows) (whS (whS whI) rows) n) (hB : B <= n) : Good (cReln ⟨ar,rows⟩) (whReln ⟨ar,rows⟩) B:=by
 have K1 : Good (cI ar ++ cS (cS cI) rows) (whI ar /\ whS (whS whI) rows) B:=Good.app (good_I B ar) (G.le hB) (fun g h h'=>by simp [cI,idsL,D.ids] at h)
 exact ⟨K1.nd,K1.lo,K1.wh.1,K1.wh.2⟩
def nilS {α : Type} : Sl α:=⟨none,none,[]⟩
theorem good_Reln0 (B : Nat) : Good (cReln ⟨0,nilS⟩) (whReln ⟨0,nilS⟩) B:=
 ⟨by simp [cReln,nilS,cS,cI,dSl,idsL,D.ids,idsLL],by simp [cReln,nilS,cS,cI,dSl,idsL,D.ids,idsLL],⟨trivial,⟨⟨by simp [nilS],by simp [nilS]⟩,by simp [nilS]⟩⟩⟩
theorem ok_nilS {α : Type} {ok : α -> Prop} : okS ok (nilS : Sl α):=⟨by simp [nilS],by simp [nilS]⟩
end Go.Vs
namespace Go.Vs
attribute [local simp] plI_id plStr_id map_plI map_plStr pS cP cI cStr cU8 cB
def inR (n lo hi : Int) : Bool:=decide (lo <= n) && decide (n <= hi)
def valsOk (r : List Int) : Bool:=r.all fun v=>inR v 0 99
theorem all_step {α : Type} {p : α -> Bool} {l : List α} {i : Nat} (h : i < l.length) : (l.take (i + 1)).all p = ((l.take i).all p && p l[i]):=by
 rw [List.take_succ_eq_append_getElem h,List.all_append]; simp
theorem all_bad {α : Type} {p : α -> Bool} {l : List α} {i : Nat} (h : i < l.length) (hb : p l[i] = false) : l.all p = false:=by
 rw [List.all_eq_false]
 exact ⟨l[i],List.getElem_mem h,by simp [hb]⟩
theorem all_done {α : Type} {p : α -> Bool} {l : List α} {i : Nat} (h : l.length <= i) (ha : (l.take i).all p = true) : l.all p = true:=by
 rwa [List.take_of_length_le h] at ha
def AllTo {α : Type} (p : α -> Bool) (l : List α) (i : Nat) : Prop:=(l.take i).all p = true
theorem allTo_zero {α : Type} {p : α -> Bool} {l : List α} : AllTo p l 0:=by simp [AllTo]
theorem allTo_step {α : Type} {p : α -> Bool} {l : List α} {i : Nat} (h : AllTo p l i) (hi : i < l.length) (hp : p l[i] = true) : AllTo p l (i + 1):=by
 simp only [AllTo] at *; rw [all_step hi,h,hp]; rfl
theorem allTo_done {α : Type} {p : α -> Bool} {l : List α} {i : Nat} (h : AllTo p l i) (hi : l.length <= i) : l.all p = true:=all_done hi h
def cmpL : List Int -> List Int -> Int
 | [],[]=>0
 | [],_ :: _=>-1
 | _ :: _,[]=>1
 | x :: a,y :: b=>if x < y then -1 else if y < x then 1 else cmpL a b
theorem cmpL_zero : ∀ (a b : List Int),cmpL a b = 0 ↔ a = b
 | [],[]=>by simp [cmpL]
 | [],_ :: _=>by simp [cmpL]
 | _ :: _,[]=>by simp [cmpL]
 | x :: a, y :: b => by
   simp only [cmpL]
   split
   ·simp; omega
   ·split
    ·simp; omega
    ·rw [cmpL_zero a b]
     have : x = y:=by omega
     simp [this]
theorem cmpL_drop {a b : List Int} {i : Nat} (h : i < a.length) (h' : i < b.length) : cmpL (a.drop i) (b.drop i) = if a[i] < b[i] then -1 else if b[i] < a[i] then 1 else cmpL (a.drop (i + 1)) (b.drop (i + 1)):=by
 rw [List.drop_eq_getElem_cons h,List.drop_eq_getElem_cons h']
 simp only [cmpL]
theorem cmpL_end {a b : List Int} {i : Nat} (hi : i <= a.length) (hi' : i <= b.length) (h : ¬ (i < a.length /\ i < b.length)) : cmpL (a.drop i) (b.drop i) = if a.length < b.length then -1 else if b.length < a.length then 1 else 0:=by
 by_cases h1 : i = a.length
 ·by_cases h2 : i = b.length
  ·rw [List.drop_of_length_le (by omega),List.drop_of_length_le (by omega)]
   simp [cmpL]; omega
  ·have h3 : i < b.length:=by omega
   rw [List.drop_of_length_le (l:=a) (by omega),List.drop_eq_getElem_cons h3]
   simp only [cmpL]; rw [if_pos (by omega)]
 ·have h2 : i = b.length:=by omega
  have h3 : i < a.length:=by omega
  rw [List.drop_of_length_le (l:=b) (by omega),List.drop_eq_getElem_cons h3]
  simp only [cmpL]; rw [if_neg (by omega),if_pos (by omega)]
def rowOk (ar : Int) (l : List (List Int)) (i : Nat) : Bool:=decide (((l.getD i []).length : Int) = ar) && valsOk (l.getD i []) && (i == 0 || decide (cmpL (l.getD (i - 1) []) (l.getD i []) < 0))
def rowsOk (ar : Int) (l : List (List Int)) : Bool:=inR ar 0 5 && decide (l.length <= 4000) && (List.range l.length).all (rowOk ar l)
theorem rows_bad {ar : Int} {l : List (List Int)} {i : Nat} (h : i < l.length) (hb : rowOk ar l i = false) : rowsOk ar l = false:=by
 have : (List.range l.length).all (rowOk ar l) = false:=by
  rw [List.all_eq_false]; exact ⟨i,List.mem_range.2 h,by simp [hb]⟩
 simp [rowsOk,this]
theorem rows_done {ar : Int} {l : List (List Int)} (h1 : inR ar 0 5 = true) (h2 : l.length <= 4000) (h : ∀ j,j < l.length -> rowOk ar l j = true) : rowsOk ar l = true:=by
 have : (List.range l.length).all (rowOk ar l) = true:=List.all_eq_true.2 fun j hj=>h j (List.mem_range.1 hj)
 simp [rowsOk,this,h1,h2]
end Go.Vs
namespace Go.Vs
attribute [local simp] plI_id plStr_id map_plI map_plStr pS cP cI cStr cU8 cB
def bs (l : List (List Int)) (row : List Int) (lo hi : Nat) : Nat:=
 if lo < hi then
  if cmpL (l.getD ((lo + hi) / 2) []) row < 0 then bs l row ((lo + hi) / 2 + 1) hi else bs l row lo ((lo + hi) / 2)
 else lo
termination_by hi - lo
theorem bs_lt {l : List (List Int)} {row : List Int} {lo hi : Nat} (h : lo < hi) : bs l row lo hi = if cmpL (l.getD ((lo + hi) / 2) []) row < 0 then bs l row ((lo + hi) / 2 + 1) hi else bs l row lo ((lo + hi) / 2):=by
 rw [bs,if_pos h]
theorem bs_ge {l : List (List Int)} {row : List Int} {lo hi : Nat} (h : ¬ lo < hi) : bs l row lo hi = lo:=by
 rw [bs,if_neg h]
def placeK (l : List (List Int)) (row : List Int) : Nat:=bs l row 0 l.length
def placeB (l : List (List Int)) (row : List Int) : Bool:=decide (placeK l row < l.length) && cmpL (l.getD (placeK l row) []) row == 0
theorem bs_le {l : List (List Int)} {row : List Int} : ∀ (n lo hi : Nat),hi - lo <= n -> lo <= hi -> lo <= bs l row lo hi /\ bs l row lo hi <= hi
 | 0,lo,hi,h,h'=>by rw [bs_ge (by omega)]; omega
 | n + 1, lo, hi, h, h' => by
   by_cases hlt : lo < hi
   ·rw [bs_lt hlt]
    split
    ·have:=bs_le (l:=l) (row:=row) n ((lo + hi) / 2 + 1) hi (by omega) (by omega); omega
    ·have:=bs_le (l:=l) (row:=row) n lo ((lo + hi) / 2) (by omega) (by omega); omega
   ·rw [bs_ge hlt]; omega
theorem placeK_le (l : List (List Int)) (row : List Int) : placeK l row <= l.length:=(bs_le (l:=l) (row:=row) l.length 0 l.length (by omega) (by omega)).2
theorem mid64 {a b : Nat} (ha : a <= 4294967296) (hb : b <= 4294967296) : IntKind.i64.wrap ((IntKind.i64.wrap ((a : Int) + b)).tdiv 2) = (((a + b) / 2 : Nat) : Int):=by
 have h1 : IntKind.i64.wrap ((a : Int) + b) = (a : Int) + b:=wrap64_of (by omega) (by omega)
 rw [h1,Int.tdiv_eq_ediv_of_nonneg (by omega)]
 rw [wrap64_of (by omega) (by omega)]
 omega
theorem rowsOk_len {ar : Int} {l : List (List Int)} (h : rowsOk ar l = true) : l.length <= 4000:=by
 simp only [rowsOk,Bool.and_eq_true,decide_eq_true_eq] at h; exact h.1.2
theorem rowsOk_row {ar : Int} {l : List (List Int)} (h : rowsOk ar l = true) : ∀ x ∈ l,x.length <= 5:=by
 intro x hx
 simp only [rowsOk,Bool.and_eq_true,decide_eq_true_eq,inR] at h
 obtain ⟨⟨⟨h1,h2⟩,_⟩,h3⟩:=h
 obtain ⟨i,hi,rfl⟩:=List.getElem_of_mem hx
 have h4:=List.all_eq_true.1 h3 i (List.mem_range.2 hi)
 simp only [rowOk,Bool.and_eq_true,decide_eq_true_eq] at h4
 have h5:=h4.1.1
 have hg : l.getD i [] = l[i]:=by simp [hi]
 rw [hg] at h5
 omega
end Go.Vs
namespace Go.Vs
attribute [local simp] plI_id plStr_id map_plI map_plStr pS cP cI cStr cU8 cB
theorem wpS_I (l : List Int) : wpS wpI l = l.length:=sumW_one (fun _=>rfl) l
theorem wpS_le {α : Type} {w : α -> Nat} {l : List α} {k : Nat} (h : ∀ a ∈ l,w a <= k) : wpS w l <= k * l.length:=by
 simp only [wpS]
 induction l with
 | nil=>simp
 | cons a r ih =>
   have h1:=h a (by simp)
   have h2:=ih fun b hb=>h b (by simp [hb])
   simp only [sumW_cons,List.length_cons,Nat.mul_add,Nat.mul_one]; omega
theorem wp_rows {ar : Int} {l : List (List Int)} (h : rowsOk ar l = true) : wpS (wpS wpI) l <= 20000:=by
 have h1:=rowsOk_len h
 have h2:=wpS_le (w:=wpS wpI) (k:=5) fun a ha=>by rw [wpS_I]; exact rowsOk_row h a ha
 omega
end Go.Vs
namespace Go.Vs
attribute [local simp] plI_id plStr_id map_plI map_plStr pS cP cI cStr cU8 cB
theorem takeWhile_at {α : Type} {p : α -> Bool} {l : List α} {k : Nat} (h : AllTo p l k) (hk : k <= l.length) (he : ∀ h : k < l.length,p l[k] = false) : (l.takeWhile p).length = k:=by
 induction l generalizing k with
 | nil=>simp at hk; simp [hk]
 | cons a r ih =>
   cases k with
   | zero =>
     have:=he (by simp)
     simp at this
     simp [this]
   | succ k =>
     simp only [AllTo,List.take_succ_cons,List.all_cons,Bool.and_eq_true] at h
     have:=ih (k:=k) h.2 (by simpa using hk) (fun hh=>by have:=he (by simpa using hh); rwa [List.getElem_cons_succ] at this)
     simp [h.1,this]
end Go.Vs
namespace Go.Vs
open Go.RowKit
mutual
def fbx (k : Nat) (x : D) : V -> V
 | .own j lo n=>if j = k then .bad else .own j lo n
 | .ptr j i o=>if j = k then (if i = 0 then .fptr x 0 o else .bad) else .ptr j i o
 | .agg cs=>.agg (fbxL k x cs)
 | .tup vs=>.tup (fbxL k x vs)
 | .fn f vs=>.fn f (fbxL k x vs)
 | v=>v
def fbxL (k : Nat) (x : D) : List V -> List V
 | []=>[]
 | v :: r=>fbx k x v :: fbxL k x r
end
def St.fbx (σ : St) (k : Nat) (ds : List D) : St:=
 { σ with t:=mapV (Vs.fbx k (.pl [ds])) σ.t,m:=upd (mapM (Vs.fbx k (.pl [ds])) σ.m) k none }
section
variable {P : Program} {E : Md} {A0 : Env} {N : Nat} {w0 : World} {ρ : Nat -> Option (Nat × Nat)} {σ : St} {a : Act} {w : World}
theorem fbxL_map (k : Nat) (x : D) : ∀ l : List V,fbxL k x l = l.map (Vs.fbx k x)
 | []=>rfl
 | v :: r=>by simp [fbxL,fbxL_map k x r]
theorem KC_fbx (k j : Nat) (ds : List D) (h : j ≠ k) : KC ρ σ.m ρ (σ.fbx k ds).m j:=by
 unfold KC
 have : (σ.fbx k ds).m j = (σ.m j).map (Blk.map (Vs.fbx k (.pl [ds]))):=by simp [St.fbx,upd,h,mapM]
 rw [this]
 cases hm : σ.m j with
 | none=>trivial
 | some b0 =>
   cases b0 with
   | box cs=>exact ⟨rfl,cs,rfl⟩
   | row T sz es=>exact ⟨rfl,T,es,rfl,Nat.le_refl _⟩
mutual
theorem VR.fbx {m m' : Nat -> Option Blk} {S S' : Nat -> Prop} {k : Nat} {ds : List D} {cs : List V} (hm : m k = some (.box cs)) (hd : ∀ g cap,ρ k = some (g,cap) -> DR S' w (.pl [ds]) (.slice (some ⟨g,0,none⟩) 1 1))
  (hS : ∀ g,S g -> S' g) (hk : ∀ j,j ≠ k -> KC ρ m ρ m' j) :
  ∀ (v : V) (val : Value),VR ρ m S w v val -> VR ρ m' S' w (fbx k (.pl [ds]) v) val
 | .d x,val,h=>by simp only [VR,Vs.fbx] at h ⊢; exact h.mono hS (fun _ _=>rfl)
 | .own j lo n, val, h => by
   simp only [Vs.fbx]
   split
   ·simp [VR]
   ·rename_i hj; exact VR_own (hk j hj) h
 | .ptr j i off, val, h => by
   simp only [Vs.fbx]
   split
   ·rename_i hj
    subst hj
    simp only [VR,hm] at h
    obtain ⟨rfl,g,cap,hρ,rfl⟩:=h
    simp only [if_true,VR,lstD]
    refine ⟨⟨g,0,none⟩,1,1,ds.length,hd g cap hρ,by simp,by simp,?_⟩
    rw [add_lit]
    simp
   ·rename_i hj; exact VR_ptr (hk j hj) h
 | .fptr x i off, val, h => by
   simp only [VR,Vs.fbx] at h ⊢
   obtain ⟨a,n,c,sz,h1,h2⟩:=h
   exact ⟨a,n,c,sz,h1.mono hS (fun _ _=>rfl),h2⟩
 | .bad,val,h=>by simp [VR,Vs.fbx]
 | .agg cs, val, h => by
   simp only [VR,Vs.fbx] at h ⊢
   obtain ⟨l,h1,h2⟩:=h
   exact ⟨l,h1,LR.fbx hm hd hS hk cs l h2⟩
 | .tup vs, val, h => by
   simp only [VR,Vs.fbx] at h ⊢
   obtain ⟨l,h1,h2⟩:=h
   exact ⟨l,h1,LR.fbx hm hd hS hk vs l h2⟩
 | .fn ff vs, val, h => by
   simp only [VR,Vs.fbx] at h ⊢
   obtain ⟨l,h1,h2⟩:=h
   exact ⟨l,h1,LR.fbx hm hd hS hk vs l h2⟩
theorem LR.fbx {m m' : Nat -> Option Blk} {S S' : Nat -> Prop} {k : Nat} {ds : List D} {cs : List V} (hm : m k = some (.box cs)) (hd : ∀ g cap,ρ k = some (g,cap) -> DR S' w (.pl [ds]) (.slice (some ⟨g,0,none⟩) 1 1))
  (hS : ∀ g,S g -> S' g) (hk : ∀ j,j ≠ k -> KC ρ m ρ m' j) :
  ∀ (l : List V) (vals : List Value),LR ρ m S w l vals -> LR ρ m' S' w (fbxL k (.pl [ds]) l) vals
 | [],[],_=>by simp [LR,Vs.fbxL]
 | [],_ :: _,h=>by simp [LR] at h
 | _ :: _,[],h=>by simp [LR] at h
 | c :: cs, v :: l, h => by
   simp only [LR,Vs.fbxL] at h ⊢
   exact ⟨VR.fbx hm hd hS hk c v h.1,LR.fbx hm hd hS hk cs l h.2⟩
end
theorem Rel.fbx (h : Rel A0 N w0 ρ σ a w) {k : Nat} {ds : List D} (hm : σ.m k = some (.box (ds.map V.d))) (hk1 : k < 1000) : Rel A0 N w0 ρ (σ.fbx k ds) a w:=by
 have hmk : (σ.fbx k ds).m k = none:=by simp [St.fbx,upd]
 have hmne : ∀ j,j ≠ k -> (σ.fbx k ds).m j = (σ.m j).map (Blk.map (Vs.fbx k (.pl [ds]))):=fun j hj=>by simp [St.fbx,upd,hj,mapM]
 have hback : ∀ j b,(σ.fbx k ds).m j = some b -> j ≠ k /\ ∃ b0,σ.m j = some b0 /\ b = b0.map (Vs.fbx k (.pl [ds])):=by
  intro j b hj
  by_cases hjk : j = k
  ·subst hjk; rw [hmk] at hj; cases hj
  ·rw [hmne j hjk] at hj
   cases hm : σ.m j with
   | none=>simp [hm] at hj
   | some b0=>simp [hm] at hj; exact ⟨hjk,b0,rfl,hj.symm⟩
 have hS : ∀ g,Sof A0 σ.B ρ σ.m w g -> Sof A0 σ.B ρ (σ.fbx k ds).m w g:=by
  intro g hg
  refine ⟨hg.1,hg.2.1,fun j b hj p hp=>?_⟩
  obtain ⟨_,b0,hb0,_⟩:=hback j b hj
  exact hg.2.2 j b0 hb0 p hp
 have hb:=h.mem k _ hm
 have hg : ∀ p,ρ k = some p -> Sof A0 σ.B ρ (σ.fbx k ds).m w p.1:=by
  intro p hp
  refine ⟨(hb.lt p hp).1.elim .inr (fun h=>by have:=h.1; omega),(hb.lt p hp).2,fun j b hj q hq heq=>?_⟩
  obtain ⟨hjk,b0,hb0,_⟩:=hback j b hj
  exact hjk (h.inj j k b0 _ q p hb0 hm hq hp heq)
 have hd : ∀ g cap,ρ k = some (g,cap) -> DR (Sof A0 σ.B ρ (σ.fbx k ds).m w) w (.pl [ds]) (.slice (some ⟨g,0,none⟩) 1 1):=by
  intro g cap hρ
  obtain ⟨g',cap',hr',hB,cur,T',hc,hl⟩:=hb
  rw [hρ] at hr'
  cases hr'
  refine DR.pl [ds] (some ⟨g,0,none⟩) 1 ds.length (fun x=>cur.getD x undef) (fun p hp _=>by cases hp; exact hg _ hρ) (fun _=>by simp) (by simp) (by simp [maxLen]) (fun i e he=>?_) (fun p hp i e he j u hu=>?_) (fun i e he j u hu=>?_)
  ·cases i with
   | zero=>simp at he; rw [he]
   | succ i=>simp at he
  ·cases i with
   | succ i=>simp at he
   | zero =>
     cases hp
     simp only [List.getElem?_cons_zero,Option.some.injEq] at he
     subst he
     obtain ⟨v,hv,hvr⟩:=hl.get j (.d u) (by simp [hu])
     rw [add_lit,cell_of hc]
     simp only [Nat.zero_mul,Nat.zero_add]
     have hv' : cur[j]? = some v:=by simpa using hv
     simp [hv']
  ·cases i with
   | succ i=>simp at he
   | zero =>
     simp only [List.getElem?_cons_zero,Option.some.injEq] at he
     subst he
     obtain ⟨v,hv,hvr⟩:=hl.get j (.d u) (by simp [hu])
     have hv' : cur[j]? = some v:=by simpa using hv
     simp only [Nat.zero_mul,Nat.zero_add,Array.getD_eq_getD_getElem?,hv',Option.getD_some]
     simp only [VR] at hvr
     exact hvr.mono hS (fun _ _=>rfl)
 have hk : ∀ j,j ≠ k -> KC ρ σ.m ρ (σ.fbx k ds).m j:=fun j hj=>KC_fbx k j ds hj
 have hk0 : ¬ Hk k:=hk_lt hk1
 refine ⟨h.below,h.hN,h.key,fun j hj=>by rw [hmne _ (hj.ne hk0)]; have:=h.norow j hj; cases hm : σ.m j with | none=>rfl | some b=>rw [hm] at this; cases b <;> simp_all [isRow,Blk.map],h.hG,h.hB,h.hs,h.hs0,h.defers,h.size,fun i=>VR.fbx hm hd hS hk _ _ (h.tmps i),fun j b hj=>?_,fun j j' b b' p p' hj hj' hp hp' heq=>?_⟩
 ·obtain ⟨hjk,b0,hb0,rfl⟩:=hback j b hj
  have:=h.mem j b0 hb0
  cases b0 with
  | box cs =>
    obtain ⟨g,cap,hr',hB,cur,T',hc,hl⟩:=this
    refine ⟨g,cap,hr',hB,cur,T',hc,?_⟩
    rw [<- fbxL_map]
    exact LR.fbx hm hd hS hk _ _ hl
  | row T' sz' es' =>
    refine ⟨this.1,?_⟩
    have h3:=this.2
    cases hr' : ρ j with
    | none=>rw [hr'] at h3; exact h3
    | some p =>
      obtain ⟨g,cap⟩:=p
      rw [hr'] at h3
      obtain ⟨hB,hc1,hc2,cur,hc,hcs,hall⟩:=h3
      refine ⟨hB,hc1,hc2,cur,hc,hcs,fun i e he=>⟨(hall i e he).1,fun j u hu=>?_⟩⟩
      obtain ⟨v,hv,hd⟩:=(hall i e he).2 j u hu
      exact ⟨v,hv,hd.mono hS (fun _ _=>rfl)⟩
 ·obtain ⟨_,b0,hb0,_⟩:=hback j b hj
  obtain ⟨_,b0',hb0',_⟩:=hback j' b' hj'
  exact h.inj j j' b0 b0' p p' hb0 hb0' hp hp' heq
theorem lead_fbx {K : St -> Prop} {k : Nat} {ds : List D} (hm : σ.m k = some (.box (ds.map V.d))) (hk1 : k < 1000) (h : Lead K (σ.fbx k ds)) : Lead K σ:=
 fun A0 N w0 ρ a w hR=>h A0 N w0 ρ a w (hR.fbx hm hk1)
theorem vdyn_lead {o : Oper} {K : St -> Prop} (h : Lead (vdyn P o K) σ) : vdyn P o K σ:=by
 intro A0 _ N w0 ρ a w hR hd next Q hn
 obtain ⟨_,_,hR',hv⟩:=h A0 N w0 ρ a w hR
 exact hv A0 N w0 _ a w hR' hd next Q hn
end
end Go.Vs
namespace Go.Vs
open Go.RowKit
def ρK (go gc : Nat) (ro : Option (Nat × Nat)) (k : Nat) : Option (Nat × Nat):=if k = 1001 then some (go,0) else if k = 1002 then ro else if k = 1003 then some (gc,0) else none
def mK (T sz f : Nat) (caps : List V) (es : List (List D)) (k : Nat) : Option Blk:=
 if k = 1001 then some (.box [.own 1002 0 es.length]) else if k = 1002 then some (.row T sz es) else if k = 1003 then some (.box [.fn f caps]) else none
def GK (go gc : Nat) (ro : Option (Nat × Nat)) (g : Nat) : Prop:=g = go \/ g = gc \/ ∃ p,ro = some p /\ g = p.1
def RK (go gc : Nat) (k : Nat) : Option (Nat × Nat):=if k = 1001 then some (go,0) else if k = 1003 then some (gc,0) else none
def SK (A : Nat -> Prop) (B go gc : Nat) (ro : Option (Nat × Nat)) (w : World) (g : Nat) : Prop:=(A g \/ B <= g) /\ g < w.heap.size /\ g ≠ go /\ g ≠ gc /\ ∀ p,ro = some p -> p.1 ≠ g
structure KIn (T sz f : Nat) (caps : List V) (A G : Nat -> Prop) (B go gc : Nat) (ro : Option (Nat × Nat)) (es : List (List D)) (w : World) : Prop where
 blk : ∀ k b,mK T sz f caps es k = some b -> BlkR (Gk G k) (Ak A k) (ρK go gc ro) (mK T sz f caps es) (SK A B go gc ro w) B w (ρK go gc ro k) b
 one : go ≠ gc
 two : ∀ p,ro = some p -> p.1 ≠ go /\ p.1 ≠ gc
def VK (P : Program) (f : FuncId) (args caps : List V) (T sz : Nat) (es : List (List D)) (post : List (List D) -> Prop) : Prop:=
 (∃ fn,P.funcs[f]? = some fn /\ fn.body.isSome = true /\ (fn.name == "runtime.NumGoroutine") = false) /\
 ∀ (w : World) (vals : List Value) (go gc : Nat) (ro : Option (Nat × Nat)) (A : Nat → Prop),
   GlobIn (gdat P) (GK go gc ro) w -> KIn T sz f caps A (GK go gc ro) w.heap.size go gc ro es w ->
   LR (ρK go gc ro) (mK T sz f caps es) (SK A w.heap.size go gc ro w) w (args ++ caps) vals ->
   Calls P f vals.toArray w fun e w'=>∃ es' ro',e = .returned (.tuple #[]) /\ Bel (GK go gc ro) w.heap.size w w' /\
    KIn T sz f caps A (GK go gc ro) w.heap.size go gc ro' es' w' /\ post es'
def St.startK (args caps : List V) (T sz f : Nat) (es : List (List D)) (h : Nat) : St:={ B:=h,hs:=h,W:=[],t:=fun i=>(args ++ caps).getD i (.tup []),m:=mK T sz f caps es }
def vendK (f : Nat) (caps : List V) (T sz : Nat) (post : List (List D) -> Prop) (σ : St) : Prop:=
 ∃ es,σ.m 1001 = some (.box [.own 1002 0 es.length]) /\ σ.m 1002 = some (.row T sz es) /\ σ.m 1003 = some (.box [.fn f caps]) /\ post es
def vretK (f : Nat) (caps : List V) (T sz : Nat) (post : List (List D) -> Prop) : Exit -> St -> Prop
 | .normal,σ | .ret,σ=>vendK f caps T sz post σ
 | _,_=>False
section
variable {P : Program} {E : Md} {A0 : Env} [GlobC A0 P] {N : Nat} {w0 : World} {ρ : Nat -> Option (Nat × Nat)} {σ : St} {a : Act} {w : World}
theorem SK_Sof {T sz f : Nat} {caps : List V} {A G : Nat -> Prop} {R : Nat -> Option (Nat × Nat)} {L : List (Nat × List Int)} {B go gc : Nat} {ro : Option (Nat × Nat)} {es : List (List D)} {w : World} {g : Nat} (h : SK A B go gc ro w g) :
  Sof ⟨A,G,R,L⟩ B (ρK go gc ro) (mK T sz f caps es) w g:=by
 obtain ⟨h1,h2,h3,h4,h5⟩:=h
 refine ⟨h1,h2,fun k b hk p hp=>?_⟩
 unfold ρK at hp
 split at hp
 ·cases hp; exact fun e=>h3 e.symm
 ·split at hp
  ·exact h5 p hp
  ·split at hp
   ·cases hp; exact fun e=>h4 e.symm
   ·cases hp
theorem KIn.inj {T sz f : Nat} {caps : List V} {A G : Nat -> Prop} {B go gc : Nat} {ro : Option (Nat × Nat)} {es : List (List D)} {w : World} (h : KIn T sz f caps A G B go gc ro es w) :
  ∀ k k' b b' p p',mK T sz f caps es k = some b -> mK T sz f caps es k' = some b' -> ρK go gc ro k = some p -> ρK go gc ro k' = some p' -> p.1 = p'.1 -> k = k':=by
 intro k k' b b' p p' hk hk' hp hp' heq
 have hc : ∀ k b,mK T sz f caps es k = some b -> k = 1001 \/ k = 1002 \/ k = 1003:=by
  intro k b hk
  unfold mK at hk
  split at hk
  ·exact .inl (by assumption)
  ·split at hk
   ·exact .inr (.inl (by assumption))
   ·split at hk
    ·exact .inr (.inr (by assumption))
    ·cases hk
 have h1:=h.one
 have h2:=h.two
 rcases hc k b hk with rfl | rfl | rfl <;> rcases hc k' b' hk' with rfl | rfl | rfl <;> simp [ρK] at hp hp' <;> first | rfl | (exfalso; subst hp hp'; first | exact h1 heq | exact h1 heq.symm) | (exfalso; subst hp; have:=h2 _ hp'; first | exact this.1 heq.symm | exact this.2 heq.symm) | (exfalso; subst hp'; have:=h2 _ hp; first | exact this.1 heq | exact this.2 heq)
theorem VK.of (E : Md) {f : FuncId} {fn : Func} {c : Code} {args caps : List V} {T sz : Nat} {es : List (List D)} {post : List (List D) -> Prop} (sch : Nat -> Tr) (hm : P.follows .mixedOrders = true) (hf : P.funcs[f]? = some fn) (hb : fn.body = some c)
  (hname : (fn.name == "runtime.NumGoroutine") = false) (hn : (args ++ caps).length <= fn.ntmps) (hN : fn.ntmps <= 1000) (hok : okCode E fn.ntmps sch c = true) (hr : fn.results = #[])
  (h : ∀ B,vwp P E sch c (vretK f caps T sz post) (St.startK args caps T sz f es B)) : VK P f args caps T sz es post:=by
 refine ⟨⟨fn,hf,by simp [hb],hname⟩,fun w vals go gc ro A hgl hin hLR=>?_⟩
 have hlen:=hLR.length
 refine calls_of_wp hf hb ?_
 have h0 : Rel ⟨A,GK go gc ro,RK go gc,gdat P⟩ fn.ntmps w (ρK go gc ro) (St.startK args caps T sz f es w.heap.size) { tmps:=vals.toArray ++ Array.replicate (fn.ntmps - vals.toArray.size) undef,defers:=[] } w:=by
  refine ⟨Bel.refl _ _ _,⟨hN,hgl⟩,fun k hk=>?_,fun k hk=>?_,by simp [St.startK],rfl,Nat.le_refl _,Nat.le_refl _,rfl,by simp; omega,fun i=>?_,fun k b hk=>?_,hin.inj⟩
  ·have:=hk.2
   simp [ρK,RK,this]
  ·have:=hk.2
   simp only [St.startK,mK,this,if_false]
   split
   ·rfl
   ·split <;> rfl
  ·simp only [St.startK]
   by_cases hi : i < (args ++ caps).length
   ·obtain ⟨v,hv,hd⟩:=hLR.get i (args ++ caps)[i] (List.getElem?_eq_getElem hi)
    have he : ({ tmps:=vals.toArray ++ Array.replicate (fn.ntmps - vals.toArray.size) undef,defers:=[] } : Act).eval (.tmp i) = v:=by
     have hi' : i < vals.length:=by omega
     simp only [Act.eval,Array.getD_eq_getD_getElem?]
     rw [Array.getElem?_append_left (by simpa using hi')]
     simpa using by rw [hv]; rfl
    rw [he]
    have hg : (args ++ caps).getD i (.tup []) = (args ++ caps)[i]:=by simp only [List.getD,List.getElem?_eq_getElem hi,Option.getD_some]
    rw [hg]
    exact VR.mono (fun g hg=>SK_Sof hg) (fun _ _=>rfl) (fun k=>KC.refl k) _ _ hd
   ·have hg : (args ++ caps).getD i (.tup []) = .tup []:=by simp only [List.getD,List.getElem?_eq_none (Nat.le_of_not_lt hi),Option.getD_none]
    rw [hg]
    have he : ({ tmps:=vals.toArray ++ Array.replicate (fn.ntmps - vals.toArray.size) undef,defers:=[] } : Act).eval (.tmp i) = undef:=by
     have hi' : vals.length <= i:=by omega
     simp only [Act.eval,Array.getD_eq_getD_getElem?]
     rw [Array.getElem?_append_right (by simpa using hi')]
     cases hx : (Array.replicate (fn.ntmps - vals.toArray.size) undef)[i - vals.toArray.size]? with
     | none=>rfl
     | some y =>
       rw [Array.getElem?_replicate] at hx
       split at hx
       ·cases hx; rfl
       ·cases hx
    rw [he]
    exact VR_tup0
  ·have:=hin.blk k b hk
   cases b with
   | box cs =>
     obtain ⟨g,cap,h1,h2,cur,T',h3,h4⟩:=this
     exact ⟨g,cap,h1,h2,cur,T',h3,LR.mono (fun g hg=>SK_Sof hg) (fun _ _=>rfl) (fun k=>KC.refl k) _ _ h4⟩
   | row T' sz' es' =>
     refine ⟨this.1,?_⟩
     have h3:=this.2
     cases hr' : ρK go gc ro k with
     | none=>rw [hr'] at h3; exact h3
     | some p =>
       obtain ⟨g,cap⟩:=p
       rw [hr'] at h3
       obtain ⟨hB,hc1,hc2,cur,hc,hcs,hall⟩:=h3
       refine ⟨hB,hc1,hc2,cur,hc,hcs,fun i e he=>⟨(hall i e he).1,fun j u hu=>?_⟩⟩
       obtain ⟨v,hv,hd⟩:=(hall i e he).2 j u hu
       exact ⟨v,hv,hd.mono (fun g hg=>SK_Sof hg) (fun _ _=>rfl)⟩
 have fin : ∀ (σ' : St) (ρ' : Nat -> Option (Nat × Nat)) (a' : Act) (w' : World),Rel ⟨A,GK go gc ro,RK go gc,gdat P⟩ fn.ntmps w ρ' σ' a' w' -> vendK f caps T sz post σ' ->
   a'.defers = [] /\ (results fn a'.tmps).run P w' = .ok (.tuple #[]) w' /\ ∃ es' ro',Bel (GK go gc ro) w.heap.size w w' /\
   KIn T sz f caps A (GK go gc ro) w.heap.size go gc ro' es' w' /\ post es':=by
  intro σ' ρ' a' w' hR hK
  obtain ⟨es',m1,m2,m3,hpost⟩:=hK
  refine ⟨hR.defers,?_,es',ρ' 1002,hR.below,?_,hpost⟩
  ·haveI : GlobC ⟨A,GK go gc ro,RK go gc,gdat P⟩ P:=⟨rfl⟩
   obtain ⟨val,hrun,hV⟩:=results_run (P:=P) hR fn (by simp [hr])
   simp only [hr,oneV,List.map_nil,VR] at hV
   obtain ⟨l,rfl,hl⟩:=hV
   cases l with
   | nil=>exact hrun
   | cons _ _=>simp [LR] at hl
  have k1 : ρ' 1001 = some (go,0):=hR.key 1001 ⟨by decide,by decide⟩
  have k3 : ρ' 1003 = some (gc,0):=hR.key 1003 ⟨by decide,by decide⟩
  have hB : σ'.B = w.heap.size:=hR.hB
  have hone : go ≠ gc:=hin.one
  have htwo : ∀ p,ρ' 1002 = some p -> p.1 ≠ go /\ p.1 ≠ gc:=fun p hp=>
   ⟨fun e=>by have:=hR.inj 1002 1001 _ _ p (go,0) m2 m1 hp k1 e; omega,fun e=>by have:=hR.inj 1002 1003 _ _ p (gc,0) m2 m3 hp k3 e; omega⟩
  have hS : ∀ g,Sof ⟨A,GK go gc ro,RK go gc,gdat P⟩ σ'.B ρ' σ'.m w' g -> SK A w.heap.size go gc (ρ' 1002) w' g:=by
   intro g hg
   rw [<- hB]
   exact ⟨hg.1,hg.2.1,fun e=>hg.2.2 1001 _ m1 _ k1 e.symm,fun e=>hg.2.2 1003 _ m3 _ k3 e.symm,fun p hp=>hg.2.2 1002 _ m2 p hp⟩
  have hkc : ∀ k,KC ρ' σ'.m (ρK go gc (ρ' 1002)) (mK T sz f caps es') k:=by
   intro k
   unfold KC
   by_cases e1 : k = 1001
   ·subst e1
    rw [show mK T sz f caps es' 1001 = some (.box [.own 1002 0 es'.length]) from rfl]
    exact ⟨by simp [ρK,k1],_,m1⟩
   ·by_cases e2 : k = 1002
    ·subst e2
     rw [show mK T sz f caps es' 1002 = some (.row T sz es') from rfl]
     exact ⟨by simp [ρK],_,_,m2,Nat.le_refl _⟩
    ·by_cases e3 : k = 1003
     ·subst e3
      rw [show mK T sz f caps es' 1003 = some (.box [.fn f caps]) from rfl]
      exact ⟨by simp [ρK,k3],_,m3⟩
     ·rw [show mK T sz f caps es' k = none by simp [mK,e1,e2,e3]]
      trivial
  refine ⟨fun k b hk=>?_,hone,htwo⟩
  have hmk : σ'.m k = some b /\ ρK go gc (ρ' 1002) k = ρ' k:=by
   unfold mK at hk
   split at hk
   ·rename_i e; subst e; cases hk; exact ⟨m1,by simp [ρK,k1]⟩
   ·split at hk
    ·rename_i e; subst e; cases hk; exact ⟨m2,by simp [ρK]⟩
    ·split at hk
     ·rename_i e; subst e; cases hk; exact ⟨m3,by simp [ρK,k3]⟩
     ·cases hk
  rw [hmk.2]
  have:=hR.mem k b hmk.1
  cases b with
  | box cs =>
    obtain ⟨g,cap,h1,h2,cur,T',h3,h4⟩:=this
    rw [hB] at h2
    exact ⟨g,cap,h1,h2,cur,T',h3,LR.mono hS (fun _ _=>rfl) hkc _ _ h4⟩
  | row T' sz' es'' =>
    refine ⟨this.1,?_⟩
    have h3:=this.2
    cases hr' : ρ' k with
    | none=>rw [hr'] at h3; exact h3
    | some p =>
      obtain ⟨g,cap⟩:=p
      rw [hr'] at h3
      obtain ⟨hBg,hc1,hc2,cur,hc,hcs,hall⟩:=h3
      rw [hB] at hBg
      refine ⟨hBg,hc1,hc2,cur,hc,hcs,fun i e he=>⟨(hall i e he).1,fun j u hu=>?_⟩⟩
      obtain ⟨v,hv,hd⟩:=(hall i e he).2 j u hu
      exact ⟨v,hv,hd.mono hS (fun _ _=>rfl)⟩
 haveI : GlobC ⟨A,GK go gc ro,RK go gc,gdat P⟩ P:=⟨rfl⟩
 refine wp_mono (vwp_sound hm sch c _ _ _ _ _ hok h0 (h w.heap.size)) fun e a' w' he=>?_
 obtain ⟨σ',ρ',hR,hK⟩:=he
 cases e with
 | normal =>
   obtain ⟨hd,hrun,es',ro',hbel,hk,hpost⟩:=fin σ' ρ' a' w' hR hK
   exact ⟨hd,_,hrun,es',ro',rfl,hbel,hk,hpost⟩
 | ret =>
   obtain ⟨hd,hrun,es',ro',hbel,hk,hpost⟩:=fin σ' ρ' a' w' hR hK
   exact ⟨hd,_,hrun,es',ro',rfl,hbel,hk,hpost⟩
 | _=>exact hK.elim
end
end Go.Vs
