/-
  EV1A4: a part of a proof of this seat: the value-level semantics of Go code without maps, its walk rules, the frame of a row, facts of types, schedules, walks, plain lemmas (Vs26 All Pl7 Pl8 Pl9 Pl10 Pl11 Pl12 Pl13 Pl14 Pl15 Pl16 Pl17 Pl21 Pl22 Pl18 Pl19 Pl20 Pl23 Pl24 Pl25 Pl26 Pl27 Pl28 Pl29 Pl30 Pl31 Pl32 Pl33 Pl34 Pl35 Pl36 Pl37 Pl38 Pl39 Pl40 Pl41 Pl42 Pl43 Pl44 Pl45 Pl57 Pl100 Pl101 Pl80 Pl81). It holds of every program and state that its hypotheses name.
-/
import Derived.Test.YtglilmkmkdkedaaGreatDoorEV1A3
set_option linter.unusedSimpArgs false
set_option linter.unusedVariables false
set_option linter.unnecessarySimpa false
namespace Go.Vs
open Go.RowKit
section
variable {P : Program} {E : Md} {A0 : Env} [GlobC A0 P] {N : Nat} {w0 : World} {ρ : Nat -> Option (Nat × Nat)} {σ : St} {a : Act} {w : World}
theorem dyn_run {P : Program} (f : FuncId) {fn : Func} (hfn : P.funcs[f]? = some fn) (hbody : fn.body.isSome = true) (hname : (fn.name == "runtime.NumGoroutine") = false) (a : Act) (w : World) (dst : Option Tmp) (t : Tmp) (caps : List Value) (ht : a.eval (.tmp t) = .func (.func f) #[] caps.toArray) (args : Array Operand) (tys : Array TypeId) (ty : TypeId) (pos : String) (af : Array Edge) (gd : Option (Nat × Bool)) :
  (execOp a.eval ⟨dst,.call ⟨.value (.tmp t),args,tys⟩,ty,pos,af,gd⟩).run P w = .ok (.enter f ((args.toList.map a.eval) ++ caps).toArray) w:=by
 have hbn : ¬ (fn.body = none):=fun hb=>by rw [hb] at hbody; cases hbody
 simp only [beq_eq_false_iff_ne,ne_eq] at hname
 simp [execOp,resolve,Deferred.ofValue,ht,invoke,callFunc,hfn,hname,hbn,Sem.run_bind,Sem.run_pure,Result.andThen]
def capOk : V -> Bool
 | .ptr k _ _=>k == 1001 || k == 1003
 | .d _ | .fptr _ _ _=>true
 | _=>false
def renK (ko kc : Nat) : V -> V
 | .ptr k i o=>.ptr (if k = 1001 then ko else kc) i o
 | v=>v
theorem wipe_ren {ko kc kr : Nat} (h1 : ko ≠ kr) (h2 : kc ≠ kr) : ∀ {c : V},capOk c = true -> wipe kr (renK ko kc c) = renK ko kc c
 | .ptr k i o, _ => by
   simp only [renK]
   split <;> simp [wipe,h1,h2]
 | .d _,_=>rfl
 | .fptr _ _ _,_=>rfl
theorem wipe_renL {ko kc kr : Nat} (h1 : ko ≠ kr) (h2 : kc ≠ kr) : ∀ {l : List V},l.all capOk = true -> (l.map (renK ko kc)).map (wipe kr) = l.map (renK ko kc)
 | [],_=>rfl
 | c :: r, h => by
   simp only [List.all_cons,Bool.and_eq_true] at h
   simp only [List.map_cons,wipe_ren h1 h2 h.1,wipe_renL h1 h2 h.2]
section
variable {m : Nat -> Option Blk} {S S' : Nat -> Prop} {w' : World} {ko kc go gc co cc T sz f : Nat} {ro : Option (Nat × Nat)} {caps cs1 cs2 : List V} {es : List (List D)}
theorem ren_to (h1 : m ko = some (.box cs1)) (h2 : ρ ko = some (go,co)) (h3 : m kc = some (.box cs2)) (h4 : ρ kc = some (gc,cc)) (hS : ∀ g,S g -> S' g) (hw : ∀ g,S g -> w'.heap[g]? = w.heap[g]?) :
  ∀ {c : V} {v : Value},capOk c = true -> VR ρ m S w (renK ko kc c) v -> VR (ρK go gc ro) (mK T sz f caps es) S' w' c v
 | .d x,v,_,h=>by simp only [renK,VR] at h ⊢; exact h.mono hS hw
 | .fptr x i o, v, _, h => by
   simp only [renK,VR] at h ⊢
   obtain ⟨a,n,c,sz,h1,h2⟩:=h
   exact ⟨a,n,c,sz,h1.mono hS hw,h2⟩
 | .ptr k i o, v, hc, h => by
   by_cases e1 : k = 1001
   ·subst e1
    simp only [renK,if_true,VR,h1] at h
    obtain ⟨rfl,g,cap,hρ,rfl⟩:=h
    rw [h2] at hρ
    cases hρ
    simp only [VR]
    rw [show mK T sz f caps es 1001 = some (.box [.own 1002 0 es.length]) from rfl]
    exact ⟨trivial,go,0,by simp [ρK],rfl⟩
   ·have e3 : k = 1003:=by simpa [capOk,e1] using hc
    subst e3
    simp only [renK,if_neg e1,VR,h3] at h
    obtain ⟨rfl,g,cap,hρ,rfl⟩:=h
    rw [h4] at hρ
    cases hρ
    simp only [VR]
    rw [show mK T sz f caps es 1003 = some (.box [.fn f caps]) from rfl]
    exact ⟨trivial,gc,0,by simp [ρK],rfl⟩
theorem ren_toL (h1 : m ko = some (.box cs1)) (h2 : ρ ko = some (go,co)) (h3 : m kc = some (.box cs2)) (h4 : ρ kc = some (gc,cc)) (hS : ∀ g,S g -> S' g) (hw : ∀ g,S g -> w'.heap[g]? = w.heap[g]?) :
  ∀ {l : List V} {vs : List Value},l.all capOk = true -> LR ρ m S w (l.map (renK ko kc)) vs -> LR (ρK go gc ro) (mK T sz f caps es) S' w' l vs
 | [],[],_,_=>by simp [LR]
 | [],_ :: _,_,h=>by simp [LR] at h
 | _ :: _,[],_,h=>by simp [LR] at h
 | c :: r, v :: vs, hc, h => by
   simp only [List.all_cons,Bool.and_eq_true] at hc
   simp only [List.map_cons,LR] at h ⊢
   exact ⟨ren_to h1 h2 h3 h4 hS hw hc.1 h.1,ren_toL h1 h2 h3 h4 hS hw hc.2 h.2⟩
theorem ren_back (h1 : m ko = some (.box cs1)) (h2 : ρ ko = some (go,co)) (h3 : m kc = some (.box cs2)) (h4 : ρ kc = some (gc,cc)) (hS : ∀ g,S g -> S' g) (hw : ∀ g,S g -> w'.heap[g]? = w.heap[g]?) :
  ∀ {c : V} {v : Value},capOk c = true -> VR (ρK go gc ro) (mK T sz f caps es) S w c v -> VR ρ m S' w' (renK ko kc c) v
 | .d x,v,_,h=>by simp only [renK,VR] at h ⊢; exact h.mono hS hw
 | .fptr x i o, v, _, h => by
   simp only [renK,VR] at h ⊢
   obtain ⟨a,n,c,sz,h1,h2⟩:=h
   exact ⟨a,n,c,sz,h1.mono hS hw,h2⟩
 | .ptr k i o, v, hc, h => by
   by_cases e1 : k = 1001
   ·subst e1
    simp only [VR] at h
    rw [show mK T sz f caps es 1001 = some (.box [.own 1002 0 es.length]) from rfl] at h
    obtain ⟨rfl,g,cap,hρ,rfl⟩:=h
    simp only [ρK,if_true,Option.some.injEq,Prod.mk.injEq] at hρ
    simp only [renK,if_true,VR,h1]
    exact ⟨trivial,go,co,h2,by rw [hρ.1]⟩
   ·have e3 : k = 1003:=by simpa [capOk,e1] using hc
    subst e3
    simp only [VR] at h
    rw [show mK T sz f caps es 1003 = some (.box [.fn f caps]) from rfl] at h
    obtain ⟨rfl,g,cap,hρ,rfl⟩:=h
    simp [ρK] at hρ
    simp only [renK,if_neg e1,VR,h3]
    exact ⟨trivial,gc,cc,h4,by rw [hρ.1]⟩
theorem ren_backL (h1 : m ko = some (.box cs1)) (h2 : ρ ko = some (go,co)) (h3 : m kc = some (.box cs2)) (h4 : ρ kc = some (gc,cc)) (hS : ∀ g,S g -> S' g) (hw : ∀ g,S g -> w'.heap[g]? = w.heap[g]?) :
  ∀ {l : List V} {vs : List Value},l.all capOk = true -> LR (ρK go gc ro) (mK T sz f caps es) S w l vs -> LR ρ m S' w' (l.map (renK ko kc)) vs
 | [],[],_,_=>by simp [LR]
 | [],_ :: _,_,h=>by simp [LR] at h
 | _ :: _,[],_,h=>by simp [LR] at h
 | c :: r, v :: vs, hc, h => by
   simp only [List.all_cons,Bool.and_eq_true] at hc
   simp only [List.map_cons,LR] at h ⊢
   exact ⟨ren_back h1 h2 h3 h4 hS hw hc.1 h.1,ren_backL h1 h2 h3 h4 hS hw hc.2 h.2⟩
end
def St.kst (σ : St) (kr ko T sz : Nat) (es' : List (List D)) (hs' : Nat) : St:=
 { (σ.lay kr (.row T sz es')) with hs:=hs',m:=upd (σ.lay kr (.row T sz es')).m ko (some (.box [.own kr 0 es'.length])) }
theorem vdynK {t : Tmp} {ko kr kc T sz f : Nat} {dst : Option Tmp} {ty : TypeId} {pos : String} {af : Array Edge} {gd : Option (Nat × Bool)} {args : Array Operand} {tys : Array TypeId} {es : List (List D)} {caps : List V} {post : List (List D) -> Prop} {K : St -> Prop}
  (hko : σ.m ko = some (.box [.own kr 0 es.length])) (hkr : σ.m kr = some (.row T sz es)) (hkc : σ.m kc = some (.box [.fn f (caps.map (renK ko kc))])) (hk0 : ¬ Hk kr) (ht : σ.t t = .fn f (caps.map (renK ko kc))) (hcap : caps.all capOk = true)
  (hargs : rdL (fun _=>none) σ.m (args.toList.map σ.ev) = some (args.toList.map σ.ev)) (hVK : VK P f (args.toList.map σ.ev) caps T sz es post)
  (hK : ∀ es' hs',σ.hs <= hs' -> post es' -> lnLL es' -> es'.length <= maxLen -> (∀ i ∈ idsLL es',i < hs') -> K ((σ.kst kr ko T sz es' hs').put dst (.tup []))) :
  vdyn P ⟨dst,.call ⟨.value (.tmp t),args,tys⟩,ty,pos,af,gd⟩ K σ:=by
 intro A0 _ N w0 ρ a w h hd next Q hn
 obtain ⟨⟨fn,hfn,hbody,hname⟩,hVK⟩:=hVK
 have hne1 : ko ≠ kr:=by rintro rfl; rw [hko] at hkr; cases hkr
 have hne2 : kc ≠ kr:=by rintro rfl; rw [hkc] at hkr; cases hkr
 have hne3 : ko ≠ kc:=by rintro rfl; rw [hko] at hkc; cases hkc
 obtain ⟨go,co,hρo,hBo,curo,To,hco,hlo⟩:=h.mem ko _ hko
 obtain ⟨gc,cc,hρc,hBc,curc,Tc,hcc,hlc⟩:=h.mem kc _ hkc
 have hrow:=h.mem kr _ hkr
 have hog : go ≠ gc:=fun e=>hne3 (h.inj ko kc _ _ _ _ hko hkc hρo hρc e)
 have hrg : ∀ p,ρ kr = some p -> p.1 ≠ go /\ p.1 ≠ gc:=fun p hp=>⟨fun e=>hne1 (h.inj ko kr _ _ _ _ hko hkr hρo hp e.symm),fun e=>hne2 (h.inj kc kr _ _ _ _ hkc hkr hρc hp e.symm)⟩
 obtain ⟨A,hA⟩ : ∃ A : Nat -> Prop,A = fun g=>Sof A0 σ.B ρ σ.m w g \/ ∃ p,ρ kr = some p /\ g = p.1:=⟨_,rfl⟩
 have hSK : ∀ g,Sof A0 σ.B ρ σ.m w g -> SK A w.heap.size go gc (ρ kr) w g:=fun g hg=>
  ⟨.inl (by rw [hA]; exact .inl hg),hg.2.1,fun e=>hg.2.2 ko _ hko _ hρo e.symm,fun e=>hg.2.2 kc _ hkc _ hρc e.symm,fun p hp=>hg.2.2 kr _ hkr p hp⟩
 have hBsz : σ.B <= w.heap.size:=by rw [h.hB]; exact h.below.size
 have hin : KIn T sz f caps A (GK go gc (ρ kr)) w.heap.size go gc (ρ kr) es w:=by
  refine ⟨fun k b hk=>?_,hog,hrg⟩
  unfold mK at hk
  split at hk
  ·rename_i e; subst e; cases hk
   refine ⟨go,0,by simp [ρK],.inr ⟨by decide,.inl rfl⟩,curo,To,hco,?_⟩
   generalize curo.toList = l at hlo
   match l,hlo with
   | [v], hl =>
     simp only [LR,VR,hkr] at hl ⊢
     rw [show mK T sz f caps es 1002 = some (.row T sz es) from rfl]
     exact ⟨⟨hl.1.1,hl.1.2⟩,trivial⟩
  ·split at hk
   ·rename_i e; subst e; cases hk
    refine ⟨hrow.1,?_⟩
    have h3:=hrow.2
    rw [show ρK go gc (ρ kr) 1002 = ρ kr from rfl]
    cases hr' : ρ kr with
    | none=>rw [hr'] at h3; exact h3
    | some p =>
      obtain ⟨g,cap⟩:=p
      rw [hr'] at h3
      obtain ⟨hBg,hc1,hc2,cur,hc,hcs,hall⟩:=h3
      refine ⟨.inr ⟨⟨by decide,.inr (.inr ⟨_,rfl,rfl⟩)⟩,by decide,by rw [hA]; exact .inr ⟨_,hr',rfl⟩⟩,hc1,hc2,cur,hc,hcs,fun i e he=>⟨(hall i e he).1,fun j u hu=>?_⟩⟩
      obtain ⟨v,hv,hd⟩:=(hall i e he).2 j u hu
      rw [<- hr']
      exact ⟨v,hv,hd.mono hSK (fun _ _=>rfl)⟩
   ·split at hk
    ·rename_i e; subst e; cases hk
     refine ⟨gc,0,by simp [ρK],.inr ⟨by decide,.inr (.inl rfl)⟩,curc,Tc,hcc,?_⟩
     generalize curc.toList = l at hlc
     match l,hlc with
     | [v], hl =>
       simp only [LR,VR] at hl ⊢
       obtain ⟨⟨l',hv,hl'⟩,_⟩:=hl
       exact ⟨⟨l',hv,ren_toL hko hρo hkc hρc hSK (fun _ _=>rfl) hcap hl'⟩,trivial⟩
    ·cases hk
 have hLa : LR (ρK go gc (ρ kr)) (mK T sz f caps es) (SK A w.heap.size go gc (ρ kr) w) w (args.toList.map σ.ev) (args.toList.map a.eval):=
  LR.fz _ _ (rdL_fz _ _ hargs) (LR.zf _ _ hargs (LR_map h args.toList)) fun g hg _=>hSK g hg
 have htv:=h.tmps t
 rw [ht] at htv
 simp only [VR] at htv
 obtain ⟨cl,hcl,hLcl⟩:=htv
 unfold Oper.wp
 rw [dyn_run f hfn hbody hname a w dst t cl hcl]
 simp only [Oper.upon]
 refine (hVK w _ go gc (ρ kr) A (h.globW fun g hg=>by
  rcases hg with rfl | rfl | ⟨p,hp,rfl⟩
  ·exact hBo.imp id And.right
  ·exact hBc.imp id And.right
  ·exact (hrow.lo p hp).imp id (fun h=>h.1.2)) hin (LR.append hLa (ren_toL hko hρo hkc hρc hSK (fun _ _=>rfl) hcap hLcl))).mono fun e w' he=>?_
 obtain ⟨es',ro',rfl,hb,hk',hpost⟩:=he
 have hm2 : ∀ j,j ≠ ko -> (σ.kst kr ko T sz es' w'.heap.size).m j = (σ.lay kr (.row T sz es')).m j:=fun j hj=>by simp [St.kst,upd,hj]
 have hmo : (σ.kst kr ko T sz es' w'.heap.size).m ko = some (.box [.own kr 0 es'.length]):=by simp [St.kst,upd]
 have hmr : (σ.kst kr ko T sz es' w'.heap.size).m kr = some (.row T sz es'):=by rw [hm2 kr (Ne.symm hne1),lay_m_same]; rfl
 have hmne : ∀ j,j ≠ ko -> j ≠ kr -> (σ.kst kr ko T sz es' w'.heap.size).m j = (σ.m j).map (Blk.map (wipe kr)):=fun j h1 h2=>by rw [hm2 j h1,lay_m_ne _ _ _ _ h2]
 obtain ⟨σ2,hσ2⟩ : ∃ σ2,σ2 = σ.kst kr ko T sz es' w'.heap.size:=⟨_,rfl⟩
 rw [<- hσ2] at hmo hmr hmne
 have hB2 : σ2.B = σ.B:=by rw [hσ2]; rfl
 have ht2 : ∀ i,σ2.t i = wipe kr (σ.t i):=fun i=>by rw [hσ2]; rfl
 have hW2 : σ2.W = σ.W:=by rw [hσ2]; rfl
 have hh2 : σ2.hs = w'.heap.size:=by rw [hσ2]; rfl
 have hmc : σ2.m kc = some (.box [.fn f (caps.map (renK ko kc))]):=by
  rw [hmne kc (Ne.symm hne3) hne2,hkc]
  simp only [Option.map_some,Blk.map,List.map_cons,List.map_nil,wipe,wipeL_map,wipe_renL hne1 hne2 hcap]
 have hback : ∀ j b,σ2.m j = some b -> ∃ b0,σ.m j = some b0:=by
  intro j b hj
  by_cases e1 : j = ko
  ·subst e1; exact ⟨_,hko⟩
  ·by_cases e2 : j = kr
   ·subst e2; exact ⟨_,hkr⟩
   ·rw [hmne j e1 e2] at hj
    cases hm : σ.m j with
    | none=>simp [hm] at hj
    | some b0=>exact ⟨b0,rfl⟩
 have hρ2 : ∀ j,j ≠ kr -> upd ρ kr ro' j = ρ j:=fun j hj=>by simp [upd,hj]
 have hρr : upd ρ kr ro' kr = ro':=by simp [upd]
 have hrow':=hk'.blk 1002 _ rfl
 have hro' : ∀ p,ro' = some p -> w.heap.size <= p.1 \/ ρ kr ≠ none /\ ∀ q,ρ kr = some q -> p.1 = q.1:=by
  intro p hp
  have h1:=hrow'.lo p (by simpa [ρK] using hp)
  rcases h1 with h1 | ⟨h1,h2⟩
  ·exact .inl h1
  ·refine .inr ?_
   have h4 : ∃ q,ρ kr = some q /\ p.1 = q.1:=by
    have h5:=h2.2
    rw [hA] at h5
    rcases h5 with h5 | h5
    ·rcases h1.2 with e | e | ⟨q,hq,e⟩
     ·exact absurd e.symm (h5.2.2 ko _ hko _ hρo)
     ·exact absurd e.symm (h5.2.2 kc _ hkc _ hρc)
     ·exact ⟨q,hq,e⟩
    ·exact h5
   obtain ⟨q,hq,e⟩:=h4
   exact ⟨by rw [hq]; simp,fun q' hq'=>by rw [hq] at hq'; cases hq'; exact e⟩
 have hwS : ∀ g,Sof A0 σ.B ρ σ.m w g -> w'.heap[g]? = w.heap[g]?:=by
  intro g hg
  refine hb.block g hg.2.1 ?_
  rintro (e | e | ⟨p,hp,e⟩)
  ·exact hg.2.2 ko _ hko _ hρo e.symm
  ·exact hg.2.2 kc _ hkc _ hρc e.symm
  ·exact hg.2.2 kr _ hkr p hp e.symm
 have hS : ∀ g,Sof A0 σ.B ρ σ.m w g -> Sof A0 σ2.B (upd ρ kr ro') σ2.m w' g:=by
  intro g hg
  rw [hB2]
  refine ⟨hg.1,Nat.lt_of_lt_of_le hg.2.1 hb.size,fun j b hj p hp=>?_⟩
  by_cases e : j = kr
  ·subst e
   rw [hρr] at hp
   rcases hro' p hp with h1 | ⟨h1,h2⟩
   ·have:=hg.2.1; omega
   ·cases hq : ρ j with
    | none=>exact absurd hq h1
    | some q=>rw [h2 q hq]; exact hg.2.2 j _ hkr q hq
  ·rw [hρ2 j e] at hp
   obtain ⟨b0,hb0⟩:=hback j b hj
   exact hg.2.2 j b0 hb0 p hp
 have hSK2 : ∀ g,SK A w.heap.size go gc ro' w' g -> Sof A0 σ2.B (upd ρ kr ro') σ2.m w' g:=by
  rintro g ⟨h1,h2,h3,h4,h5⟩
  have hnew : (A0.A g \/ σ.B <= g) -> (∀ j b0 p,j ≠ kr -> j ≠ ko -> j ≠ kc -> σ.m j = some b0 -> ρ j = some p -> p.1 ≠ g) -> Sof A0 σ2.B (upd ρ kr ro') σ2.m w' g:=by
   intro hlo hne
   rw [hB2]
   refine ⟨hlo,h2,fun j b hj p hp=>?_⟩
   by_cases e : j = kr
   ·subst e; rw [hρr] at hp; exact h5 p hp
   ·rw [hρ2 j e] at hp
    by_cases e1 : j = ko
    ·subst e1; rw [hρo] at hp; cases hp; exact fun e=>h3 e.symm
    ·by_cases e2 : j = kc
     ·subst e2; rw [hρc] at hp; cases hp; exact fun e=>h4 e.symm
     ·obtain ⟨b0,hb0⟩:=hback j b hj
      exact hne j b0 p e e1 e2 hb0 hp
  rcases h1 with h1 | h1
  ·rw [hA] at h1
   rcases h1 with h1 | ⟨p,hp,rfl⟩
   ·exact hS g h1
   ·refine hnew ((hrow.lo p hp).elim .inr fun h=>.inl h.2.2) fun j b0 q e _ _ hb0 hq he=>e (h.inj j kr _ _ q p hb0 hkr hq hp he)
  ·exact hnew (.inr (by omega)) fun j b0 p _ _ _ hb0 hp=>by have:=((h.mem j b0 hb0).lt p hp).2; omega
 have hKC : ∀ j,j ≠ kr -> KC ρ σ.m (upd ρ kr ro') σ2.m j:=by
  intro j hj
  unfold KC
  by_cases e1 : j = ko
  ·subst e1; rw [hmo]; exact ⟨hρ2 j hj,_,hko⟩
  ·rw [hmne j e1 hj]
   cases hm : σ.m j with
   | none=>trivial
   | some b0 =>
     cases b0 with
     | box cs=>exact ⟨hρ2 j hj,cs,rfl⟩
     | row T sz es=>exact ⟨hρ2 j hj,T,es,rfl,Nat.le_refl _⟩
 have hold : ∀ j b0 p,j ≠ kr -> j ≠ ko -> j ≠ kc -> σ.m j = some b0 -> ρ j = some p -> w'.heap[p.1]? = w.heap[p.1]?:=by
  intro j b0 p e1 e2 e3 hj hp
  refine hb.block p.1 ((h.mem j b0 hj).lt p hp).2 ?_
  rintro (e | e | ⟨q,hq,e⟩)
  ·exact e2 (h.inj j ko _ _ p _ hj hko hp hρo e)
  ·exact e3 (h.inj j kc _ _ p _ hj hkc hp hρc e)
  ·exact e1 (h.inj j kr _ _ p q hj hkr hp hq e)
 have hGo : A0.G go \/ w0.heap.size <= go:=by rw [<- h.hB]; exact hBo.elim .inr fun h=>.inl h.2
 have hGc : A0.G gc \/ w0.heap.size <= gc:=by rw [<- h.hB]; exact hBc.elim .inr fun h=>.inl h.2
 have hGr : ∀ p,ρ kr = some p -> A0.G p.1 \/ w0.heap.size <= p.1:=fun p hp=>by rw [<- h.hB]; exact (hrow.lo p hp).elim .inr fun h=>.inl h.1.2
 have hbel : Bel A0.G w0.heap.size w w':=by
  refine ⟨hb.os,hb.tape,hb.output,hb.size,fun k hk hG=>hb.block k (Nat.lt_of_lt_of_le hk h.below.size) ?_,fun k hk=>hb.shape k (Nat.lt_of_lt_of_le hk h.below.size)⟩
  rintro (rfl | rfl | ⟨q,hq,rfl⟩)
  ·rcases hGo with h1 | h1
   ·exact hG h1
   ·omega
  ·rcases hGc with h1 | h1
   ·exact hG h1
   ·omega
  ·rcases hGr q hq with h1 | h1
   ·exact hG h1
   ·omega
 have hR : Rel A0 N w0 (upd ρ kr ro') σ2 a w':=by
  refine ⟨h.below.trans hbel,h.hN,fun j hj=>by rw [hρ2 j (hj.ne hk0)]; exact h.key j hj,fun j hj=>?_,by rw [hW2]; exact h.hG,by rw [hB2]; exact h.hB,by rw [hh2]; exact Nat.le_refl _,by rw [hB2,hh2]; exact Nat.le_trans hBsz hb.size,h.defers,h.size,
   fun i=>by rw [ht2]; exact VR.wipe kr hS hwS hKC _ _ (h.tmps i),fun j b hj=>?_,fun j j' b b' p p' hj hj' hp hp' heq=>?_⟩
  ·by_cases e1 : j = ko
   ·subst e1; rw [hmo]; rfl
   ·rw [hmne j e1 (hj.ne hk0)]
    have:=h.norow j hj
    cases hm : σ.m j with
    | none=>rfl
    | some b=>rw [hm] at this; cases b <;> simp_all [isRow,Blk.map]
  ·by_cases e1 : j = ko
   ·subst e1
    rw [hmo] at hj
    cases hj
    obtain ⟨g,cap,hg,_,cur,T',hcur,hl⟩:=hk'.blk 1001 _ rfl
    simp only [ρK,if_true,Option.some.injEq,Prod.mk.injEq] at hg
    obtain ⟨rfl,rfl⟩:=hg
    rw [hρ2 j hne1]
    refine ⟨go,co,hρo,by rw [hB2]; exact hBo,cur,T',hcur,?_⟩
    generalize cur.toList = l at hl
    match l,hl with
    | [v], hl =>
      simp only [LR,VR,hmr,hρr] at hl ⊢
      rw [show mK T sz f caps es' 1002 = some (.row T sz es') from rfl] at hl
      exact ⟨⟨hl.1.1,hl.1.2⟩,trivial⟩
   ·by_cases e2 : j = kr
    ·subst e2
     rw [hmr] at hj
     cases hj
     rw [hρr]
     refine ⟨hrow.1,?_⟩
     have h3:=hrow'.2
     rw [show ρK go gc ro' 1002 = ro' from rfl] at h3
     cases hr' : ro' with
     | none=>rw [hr'] at h3; exact h3
     | some p =>
       obtain ⟨g,cap⟩:=p
       subst hr'
       obtain ⟨_,hc1,hc2,cur,hc,hcs,hall⟩:=h3
       refine ⟨?_,hc1,hc2,cur,hc,hcs,fun i e he=>⟨(hall i e he).1,fun j u hu=>?_⟩⟩
       ·rw [hB2]
        rcases hro' (g,cap) rfl with h1 | ⟨h1,h2⟩
        ·exact .inl (Nat.le_trans hBsz h1)
        ·cases hq : ρ j with
         | none=>exact absurd hq h1
         | some q =>
           have h4:=hrow.lo q hq
           rw [<- h2 q hq] at h4
           exact h4
       ·obtain ⟨v,hv,hd⟩:=(hall i e he).2 j u hu
        exact ⟨v,hv,hd.mono hSK2 (fun _ _=>rfl)⟩
    ·by_cases e3 : j = kc
     ·subst e3
      rw [hmc] at hj
      cases hj
      obtain ⟨g,cap,hg,_,cur,T',hcur,hl⟩:=hk'.blk 1003 _ rfl
      simp [ρK] at hg
      obtain ⟨rfl,rfl⟩:=hg
      rw [hρ2 j hne2]
      refine ⟨gc,cc,hρc,by rw [hB2]; exact hBc,cur,T',hcur,?_⟩
      generalize cur.toList = l at hl
      match l,hl with
      | [v], hl =>
        simp only [LR,VR] at hl ⊢
        obtain ⟨⟨l',hv,hl'⟩,_⟩:=hl
        exact ⟨⟨l',hv,ren_backL hmo ((hρ2 ko hne1).trans hρo) hmc ((hρ2 j hne2).trans hρc) hSK2 (fun _ _=>rfl) hcap hl'⟩,trivial⟩
     ·rw [hmne j e1 e2] at hj
      rw [hρ2 j e2]
      cases hm : σ.m j with
      | none=>simp [hm] at hj
      | some b0 =>
        simp only [hm,Option.map_some,Option.some.injEq] at hj
        subst hj
        have:=h.mem j b0 hm
        rw [hB2]
        rw [hB2] at hS
        cases b0 with
        | box cs =>
          obtain ⟨g,cap,hr',hB,cur,T',hc,hl⟩:=this
          refine ⟨g,cap,hr',hB,cur,T',(hold j _ (g,cap) e2 e1 e3 hm hr').trans hc,?_⟩
          rw [<- wipeL_map]
          exact LR.wipe kr hS hwS hKC _ _ hl
        | row T' sz' es'' =>
          refine ⟨this.1,?_⟩
          have h3:=this.2
          cases hr' : ρ j with
          | none=>rw [hr'] at h3; exact h3
          | some p =>
            obtain ⟨g,cap⟩:=p
            rw [hr'] at h3
            obtain ⟨hB,hc1,hc2,cur,hc,hcs,hall⟩:=h3
            refine ⟨hB,hc1,hc2,cur,(hold j _ (g,cap) e2 e1 e3 hm hr').trans hc,hcs,fun i e he=>⟨(hall i e he).1,fun n u hu=>?_⟩⟩
            obtain ⟨v,hv,hd⟩:=(hall i e he).2 n u hu
            exact ⟨v,hv,hd.mono hS hwS⟩
  ·have cross : ∀ j b p pk,σ2.m j = some b -> ρ j = some p -> j ≠ kr -> ro' = some pk -> p.1 = pk.1 -> False:=by
    intro j b p pk hj hp hjk hrk heq
    obtain ⟨b0,hb0⟩:=hback j b hj
    rcases hro' pk hrk with h1 | ⟨h1,h2⟩
    ·have:=((h.mem j b0 hb0).lt p hp).2; omega
    ·cases hq : ρ kr with
     | none=>exact absurd hq h1
     | some q=>exact hjk (h.inj j kr _ _ p q hb0 hkr hp hq (heq.trans (h2 q hq)))
   by_cases e : j = kr
   ·by_cases e' : j' = kr
    ·rw [e,e']
    ·subst e
     rw [hρr] at hp
     rw [hρ2 j' e'] at hp'
     exact (cross j' b' p' p hj' hp' e' hp heq.symm).elim
   ·by_cases e' : j' = kr
    ·subst e'
     rw [hρr] at hp'
     rw [hρ2 j e] at hp
     exact (cross j b p p' hj hp e hp' heq).elim
    ·rw [hρ2 j e] at hp
     rw [hρ2 j' e'] at hp'
     obtain ⟨b0,hb0⟩:=hback j b hj
     obtain ⟨b0',hb0'⟩:=hback j' b' hj'
     exact h.inj j j' _ _ p p' hb0 hb0' hp hp' heq
 have hput:=hR.put dst hd (v:=.tup []) (val:=.tuple #[]) (by simp only [VR]; exact ⟨[],rfl,by simp [LR]⟩)
 have hrowln : lnLL es' /\ es'.length <= maxLen /\ ∀ i ∈ idsLL es',i < w'.heap.size:=by
  have h3:=hrow'.2
  rw [show ρK go gc ro' 1002 = ro' from rfl] at h3
  cases hr' : ro' with
  | none=>rw [hr'] at h3; subst h3; simp [lnLL,idsLL]
  | some p =>
    obtain ⟨g,cap⟩:=p
    rw [hr'] at h3
    obtain ⟨_,hc1,hc2,cur,hc,hcs,hall⟩:=h3
    have hdr : ∀ e ∈ es',∀ u ∈ e,∃ v,DR (SK A w.heap.size go gc (some (g,cap)) w') w' u v:=by
     intro e he u hu
     obtain ⟨i,hi⟩:=List.mem_iff_getElem?.1 he
     obtain ⟨j,hj⟩:=List.mem_iff_getElem?.1 hu
     obtain ⟨v,_,hv⟩:=(hall i e hi).2 j u hj
     exact ⟨v,hv⟩
    refine ⟨lnLL_get fun e he u hu=>?_,by omega,fun i hi=>?_⟩
    ·obtain ⟨v,hv⟩:=hdr e he u hu
     exact hv.ln
    ·obtain ⟨e,he,hi⟩:=of_idsLL hi
     obtain ⟨u,hu,hi⟩:=of_idsL hi
     obtain ⟨v,hv⟩:=hdr e he u hu
     exact (hv.ids i hi).2.1
 rw [hσ2] at hput
 exact hn _ _ _ w' hput (hK es' w'.heap.size (Nat.le_trans h.hs hb.size) hpost hrowln.1 hrowln.2.1 hrowln.2.2)
end
end Go.Vs
namespace Go.Vs
theorem Back2.lead {X : Type} {Inv : X -> Nat -> Prop} {S : X -> List (Nat × V)} {M : X -> List (Nat × Option Blk)} {μ : X -> Nat} {B : Nat} {W : List Nat} {hs n : Nat} {K : St -> Prop} {σ : St} (h : Lead K σ) (hk : ∀ σ',K σ' -> Back2 Inv S M μ B W hs n σ') : Back2 Inv S M μ B W hs n σ:=h.bind hk
theorem anyQ {P : Program} {E : Md} {sch : Nat -> Tr} {c : Code} {X : Type} {Inv : X -> Prop} {S : X -> List (Nat × V)} {M : X -> List (Nat × Option Blk)} {μ : X -> Nat} {B : Nat} {W : List Nat} {hs n : Nat} {Q : Exit -> St -> Prop} {σ : St}
 (h : ∀ Q,vwp P E sch c (backV Inv S M μ B W hs n Q) σ) : vwp P E sch c (backV Inv S M μ B W hs n Q) σ:=h Q
theorem anyQ2 {P : Program} {E : Md} {sch : Nat -> Tr} {c : Code} {X : Type} {Inv : X -> Nat -> Prop} {S : X -> List (Nat × V)} {M : X -> List (Nat × Option Blk)} {μ : X -> Nat} {B : Nat} {W : List Nat} {hs n : Nat} {Q : Exit -> St -> Prop} {σ : St}
 (h : ∀ Q,vwp P E sch c (backV2 Inv S M μ B W hs n Q) σ) : vwp P E sch c (backV2 Inv S M μ B W hs n Q) σ:=h Q
structure RowS (T0 : TypeId × Nat) (B : Nat) (y : Sl (List UInt8)) : Prop where
 ok : ∀ s ∈ y.xs,okStr s
 lo : ∀ g,y.id = some g -> B <= g
 id : y.xs ≠ [] -> y.id ≠ none
 T : y.T = none -> y = nilS
theorem RowS.nil {T0 : TypeId × Nat} {B : Nat} : RowS T0 B nilS:=⟨by simp [nilS],by simp [nilS],by simp [nilS],by simp⟩
theorem RowS.good {T0 : TypeId × Nat} {B : Nat} {y : Sl (List UInt8)} (h : RowS T0 B y) : Good (cS cStr y) (whS whStr y) B:=by
 obtain ⟨hok,hlo,hid,hT⟩:=h
 obtain ⟨id,T,xs⟩:=y
 cases T with
 | none =>
   have:=hT rfl
   simp [nilS] at this
   obtain ⟨rfl,rfl⟩:=this
   exact ⟨by simp [cS,dSl,idsL,D.ids,idsLL],by simp [cS,dSl,idsL,D.ids,idsLL],⟨by simp,by simp⟩,by simp⟩
 | some T=>exact good_row (fun g hg=>hlo g hg) hid (fun g _=>by simp [cStr]) ⟨by simp [cStr],by simp [cStr]⟩ (by simp [whStr])
theorem getD_el {α : Type} {l : List α} {i : Nat} (d : α) (h : i < l.length) : l.getD i d = l[i]:=by simp [List.getD,h]
theorem cmpL_swap : ∀ (a b : List Int),cmpL b a = - cmpL a b
 | [],[]=>rfl
 | [],_ :: _=>rfl
 | _ :: _,[]=>rfl
 | x :: a, y :: b => by
   simp only [cmpL]
   by_cases h1 : x < y
   ·have h2 : ¬ y < x:=by omega
    simp [h1,h2]
   ·by_cases h2 : y < x
    ·simp [h1,h2]
    ·simp [h1,h2,cmpL_swap a b]
theorem cmpL_trans : ∀ {a b c : List Int},cmpL a b < 0 -> cmpL b c < 0 -> cmpL a c < 0
 | [],[],c,h,_=>by simp [cmpL] at h
 | [],_ :: _,[],_,h=>by simp [cmpL] at h
 | [],_ :: _,_ :: _,_,_=>by simp [cmpL]
 | _ :: _,[],_,h,_=>by simp [cmpL] at h
 | _ :: _,_ :: _,[],_,h=>by simp [cmpL] at h
 | x :: a, y :: b, z :: c, h1, h2 => by
   simp only [cmpL] at h1 h2 ⊢
   by_cases e1 : x < y
   ·by_cases e2 : y < z
    ·simp [show x < z by omega]
    ·by_cases e3 : z < y
     ·simp [e2,e3] at h2
     ·simp [show x < z by omega]
   ·by_cases e1' : y < x
    ·simp [e1,e1'] at h1
    ·simp only [e1,e1',if_false] at h1
     have : x = y:=by omega
     subst this
     by_cases e2 : x < z
     ·simp [e2]
     ·by_cases e3 : z < x
      ·simp [e2,e3] at h2
      ·simp only [e2,e3,if_false] at h2 ⊢
       exact cmpL_trans h1 h2
theorem cmpL_self (a : List Int) : cmpL a a = 0:=(cmpL_zero a a).2 rfl
theorem cmpL_tri (a b : List Int) : cmpL a b < 0 \/ a = b \/ cmpL b a < 0:=by
 have h1:=cmpL_swap a b
 have h2:=cmpL_zero a b
 by_cases h : cmpL a b = 0
 ·exact .inr (.inl (h2.1 h))
 ·omega
abbrev Srt (l : List (List Int)) : Prop:=l.Pairwise fun a b=>cmpL a b < 0
theorem srt_ext : ∀ {l l' : List (List Int)},Srt l -> Srt l' -> (∀ x,x ∈ l ↔ x ∈ l') -> l = l'
 | [],[],_,_,_=>rfl
 | [],b :: s,_,_,h=>by have:=(h b).2 (by simp); simp at this
 | a :: r,[],_,_,h=>by have:=(h a).1 (by simp); simp at this
 | a :: r, b :: s, h1, h2, h => by
   simp only [Srt,List.pairwise_cons] at h1 h2
   have e : a = b:=by
    rcases List.mem_cons.1 ((h a).1 (by simp)) with e | e
    ·exact e
    ·rcases List.mem_cons.1 ((h b).2 (by simp)) with e' | e'
     ·exact e'.symm
     ·have:=cmpL_trans (h1.1 b e') (h2.1 a e)
      simp [cmpL_self] at this
   subst e
   rw [srt_ext h1.2 h2.2 fun x=>⟨fun hx=>by
    rcases List.mem_cons.1 ((h x).1 (by simp [hx])) with e | e
    ·subst e; have:=h1.1 x hx; simp [cmpL_self] at this
    ·exact e,fun hx=>by
    rcases List.mem_cons.1 ((h x).2 (by simp [hx])) with e | e
    ·subst e; have:=h2.1 x hx; simp [cmpL_self] at this
    ·exact e⟩]
theorem srt_at {l : List (List Int)} (h : Srt l) {i j : Nat} (hij : i < j) (hj : j < l.length) : cmpL (l[i]'(by omega)) l[j] < 0:=List.pairwise_iff_getElem.1 h i j (by omega) hj hij
theorem bs_spec {l : List (List Int)} {x : List Int} (h : Srt l) : ∀ (n lo hi : Nat),hi - lo <= n -> lo <= hi -> hi <= l.length ->
  (∀ j (hj : j < l.length),j < lo -> cmpL l[j] x < 0) -> (∀ j (hj : j < l.length),hi <= j -> ¬ cmpL l[j] x < 0) ->
  (∀ j (hj : j < l.length),j < bs l x lo hi -> cmpL l[j] x < 0) /\ (∀ j (hj : j < l.length),bs l x lo hi <= j -> ¬ cmpL l[j] x < 0)
 | 0, lo, hi, hn, hle, hh, h1, h2 => by
   rw [bs_ge (by omega)]
   exact ⟨h1,fun j hj hl=>h2 j hj (by omega)⟩
 | n + 1, lo, hi, hn, hle, hh, h1, h2 => by
   by_cases hlt : lo < hi
   ·rw [bs_lt hlt]
    have hm : (lo + hi) / 2 < l.length:=by omega
    rw [getD_el _ hm]
    split
    ·rename_i hc
     refine bs_spec h n _ hi (by omega) (by omega) hh (fun j hj hl=>?_) h2
     by_cases e : j = (lo + hi) / 2
     ·subst e; exact hc
     ·exact cmpL_trans (srt_at h (by omega) hm) hc
    ·rename_i hc
     refine bs_spec h n lo _ (by omega) (by omega) (by omega) h1 fun j hj hl hj'=>?_
     by_cases e : j = (lo + hi) / 2
     ·subst e; exact hc hj'
     ·exact hc (cmpL_trans (srt_at h (by omega) hj) hj')
   ·rw [bs_ge hlt]
    exact ⟨h1,fun j hj hl=>h2 j hj (by omega)⟩
theorem placeK_spec {l : List (List Int)} {x : List Int} (h : Srt l) : (∀ j (hj : j < l.length),j < placeK l x -> cmpL l[j] x < 0) /\ (∀ j (hj : j < l.length),placeK l x <= j -> ¬ cmpL l[j] x < 0):=
 bs_spec h l.length 0 l.length (by omega) (by omega) (by omega) (fun _ _ h=>by omega) (fun _ _ h=>by omega)
theorem placeB_iff {l : List (List Int)} {x : List Int} (h : Srt l) : placeB l x = true ↔ x ∈ l:=by
 obtain ⟨h1,h2⟩:=placeK_spec (x:=x) h
 constructor
 ·intro hb
  simp only [placeB,Bool.and_eq_true,decide_eq_true_eq,beq_iff_eq] at hb
  rw [getD_el _ hb.1,cmpL_zero] at hb
  exact hb.2 ▸ List.getElem_mem _
 ·intro hm
  obtain ⟨j,hj,rfl⟩:=List.mem_iff_getElem.1 hm
  have hk : placeK l l[j] <= j:=by
   apply Nat.le_of_not_lt; intro hc
   have:=h1 j hj hc; simp [cmpL_self] at this
  have hk2 : placeK l l[j] = j:=by
   apply Nat.le_antisymm hk; apply Nat.le_of_not_lt; intro hc
   exact h2 _ (by omega) (Nat.le_refl _) (srt_at h hc hj)
  simp only [placeB,hk2,Bool.and_eq_true,decide_eq_true_eq,beq_iff_eq]
  exact ⟨hj,by rw [getD_el _ hj,cmpL_self]⟩
theorem placeB_at {l : List (List Int)} {x : List Int} (hb : placeB l x = true) : ∃ h : placeK l x < l.length,l[placeK l x] = x:=by
 simp only [placeB,Bool.and_eq_true,decide_eq_true_eq,beq_iff_eq] at hb
 obtain ⟨h,hc⟩:=hb
 rw [getD_el _ h,cmpL_zero] at hc
 exact ⟨h,hc⟩
def insR (l : List (List Int)) (x : List Int) : List (List Int):=if placeB l x then l else l.take (placeK l x) ++ x :: l.drop (placeK l x)
def insC (l : List (List Int)) (cs : List Int) (x : List Int) (n : Int) : List Int:=
 if placeB l x then cs.set (placeK l x) (cs.getD (placeK l x) 0 + n) else cs.take (placeK l x) ++ n :: cs.drop (placeK l x)
theorem insR_mem {l : List (List Int)} {x : List Int} (h : Srt l) (y : List Int) : y ∈ insR l x ↔ y ∈ l \/ y = x:=by
 simp only [insR]
 split
 ·rename_i hb
  have:=(placeB_iff h).1 hb
  exact ⟨.inl,fun hy=>hy.elim id fun e=>e ▸ this⟩
 ·simp only [List.mem_append,List.mem_cons]
  have e : (y ∈ l) ↔ (y ∈ l.take (placeK l x) \/ y ∈ l.drop (placeK l x)):=by
   rw [<- List.mem_append,List.take_append_drop]
  rw [e]
  constructor
  ·rintro (h | h | h) <;> simp [h]
  ·rintro ((h | h) | h) <;> simp [h]
theorem insR_srt {l : List (List Int)} {x : List Int} (h : Srt l) : Srt (insR l x):=by
 simp only [insR]
 split
 ·exact h
 ·rename_i hb
  obtain ⟨h1,h2⟩:=placeK_spec (x:=x) h
  have hne : x ∉ l:=fun hm=>hb ((placeB_iff h).2 hm)
  have hA : ∀ y ∈ l.take (placeK l x),cmpL y x < 0:=fun y hy=>by
   obtain ⟨j,hj,rfl⟩:=List.mem_iff_getElem.1 hy
   rw [List.length_take] at hj
   rw [List.getElem_take]
   exact h1 j (by omega) (by omega)
  have hB : ∀ y ∈ l.drop (placeK l x),cmpL x y < 0:=fun y hy=>by
   have hm:=List.mem_of_mem_drop hy
   obtain ⟨j,hj,rfl⟩:=List.mem_iff_getElem.1 hy
   rw [List.length_drop] at hj
   rw [List.getElem_drop] at hm ⊢
   rcases cmpL_tri l[placeK l x + j] x with h' | h' | h'
   ·exact absurd h' (h2 _ (by omega) (by omega))
   ·exact absurd (h' ▸ hm) hne
   ·exact h'
  refine List.pairwise_append.2 ⟨h.sublist (List.take_sublist _ _),List.pairwise_cons.2 ⟨hB,h.sublist (List.drop_sublist _ _)⟩,fun a ha b hb=>?_⟩
  rcases List.mem_cons.1 hb with rfl | hb
  ·exact hA a ha
  ·exact cmpL_trans (hA a ha) (hB b hb)
theorem insR_len (l : List (List Int)) (x : List Int) : l.length <= (insR l x).length /\ (insR l x).length <= l.length + 1:=by
 have:=placeK_le l x
 simp only [insR]
 split
 ·omega
 ·simp only [List.length_append,List.length_take,List.length_cons,List.length_drop]; omega
theorem insC_len {l : List (List Int)} {cs : List Int} {x : List Int} {n : Int} (h : cs.length = l.length) : (insC l cs x n).length = (insR l x).length:=by
 have:=placeK_le l x
 simp only [insR,insC]
 split
 ·simp [h]
 ·simp only [List.length_append,List.length_take,List.length_cons,List.length_drop]; omega
def lkC (l : List (List Int)) (cs : List Int) (y : List Int) : Int:=match l,cs with
 | x :: r,c :: s=>(if x = y then c else 0) + lkC r s y
 | _,_=>0
theorem look_nil (cs : List Int) (y : List Int) : lkC [] cs y = 0:=by cases cs <;> rfl
theorem look_app {y : List Int} : ∀ {a b : List (List Int)} {c d : List Int},a.length = c.length -> lkC (a ++ b) (c ++ d) y = lkC a c y + lkC b d y
 | [],b,[],d,_=>by simp [look_nil]
 | [],_,_ :: _,_,h=>by simp at h
 | _ :: _,_,[],_,h=>by simp at h
 | x :: a, b, e :: c, d, h => by
   have:=look_app (y:=y) (a:=a) (b:=b) (c:=c) (d:=d) (by simpa using h)
   simp only [List.cons_append,lkC,this]; omega
theorem look_none {y : List Int} : ∀ {l : List (List Int)} {cs : List Int},y ∉ l -> lkC l cs y = 0
 | [],cs,_=>look_nil cs y
 | _ :: _,[],_=>rfl
 | x :: r, c :: s, h => by
   have h1 : ¬ x = y:=fun e=>h (by simp [e])
   have h2 : y ∉ r:=fun e=>h (by simp [e])
   simp [lkC,h1,look_none h2]
theorem look_all : ∀ {l : List (List Int)} {cs : List Int},Srt l -> cs.length = l.length -> cs = l.map (lkC l cs)
 | [],[],_,_=>rfl
 | [],_ :: _,_,h=>by simp at h
 | _ :: _,[],_,h=>by simp at h
 | x :: r, c :: s, h, hl => by
   simp only [Srt,List.pairwise_cons] at h
   have hx : x ∉ r:=fun hm=>by have:=h.1 x hm; simp [cmpL_self] at this
   have ih:=look_all h.2 (cs:=s) (by simpa using hl)
   have e : r.map (lkC (x :: r) (c :: s)) = r.map (lkC r s):=List.map_congr_left fun y hy=>by
    have : ¬ x = y:=fun e=>hx (e ▸ hy)
    simp [lkC,this]
   simp only [List.map_cons,e,<- ih]
   simp [lkC,look_none hx]
theorem look_ins {l : List (List Int)} {cs : List Int} {x : List Int} {n : Int} (hl : cs.length = l.length) (y : List Int) : lkC (insR l x) (insC l cs x n) y = lkC l cs y + if x = y then n else 0:=by
 have hk:=placeK_le l x
 by_cases hb : placeB l x = true
 ·obtain ⟨h,hx⟩:=placeB_at hb
  simp only [insR,insC,hb,if_true]
  generalize placeK l x = k at h hx hk
  subst hx
  have hc : k < cs.length:=by omega
  have e1 : l = l.take k ++ l[k] :: l.drop (k + 1):=by rw [<- List.drop_eq_getElem_cons h,List.take_append_drop]
  have e2 : cs = cs.take k ++ cs[k] :: cs.drop (k + 1):=by rw [<- List.drop_eq_getElem_cons hc,List.take_append_drop]
  have e3 : cs.set k (cs.getD k 0 + n) = cs.take k ++ (cs[k] + n) :: cs.drop (k + 1):=by
   rw [getD_el _ hc,List.set_eq_take_append_cons_drop,if_pos hc]
  have a1 : lkC l (cs.set k (cs.getD k 0 + n)) y = lkC (l.take k) (cs.take k) y + ((if l[k] = y then cs[k] + n else 0) + lkC (l.drop (k + 1)) (cs.drop (k + 1)) y):=by
   rw [e3]
   conv=>lhs; rw [e1]
   rw [look_app (by simp; omega)]; rfl
  have a2 : lkC l cs y = lkC (l.take k) (cs.take k) y + ((if l[k] = y then cs[k] else 0) + lkC (l.drop (k + 1)) (cs.drop (k + 1)) y):=by
   conv=>lhs; rw [e1,e2]
   rw [look_app (by simp; omega)]; rfl
  rw [a1,a2]
  split <;> omega
 ·simp only [insR,insC,hb]
  generalize placeK l x = k at hk
  have a2 : lkC l cs y = lkC (l.take k) (cs.take k) y + lkC (l.drop k) (cs.drop k) y:=by
   rw [<- look_app (by simp; omega),List.take_append_drop,List.take_append_drop]
  simp only [Bool.false_eq_true,if_false]
  rw [look_app (by simp; omega),a2]
  simp only [lkC]; omega
def srtU (rows : List (List Int)) : List (List Int):=rows.foldl insR []
theorem fold_srt : ∀ (rows l : List (List Int)),Srt l -> Srt (rows.foldl insR l) /\ (∀ x,x ∈ rows.foldl insR l ↔ x ∈ l \/ x ∈ rows) /\ (rows.foldl insR l).length <= l.length + rows.length
 | [],l,h=>⟨h,by simp,by simp⟩
 | r :: rows, l, h => by
   obtain ⟨h1,h2,h3⟩:=fold_srt rows (insR l r) (insR_srt h)
   have:=insR_len l r
   refine ⟨h1,fun x=>?_,by simp only [List.foldl_cons,List.length_cons]; omega⟩
   simp only [List.foldl_cons,h2,insR_mem h,List.mem_cons,or_assoc]
theorem srtU_srt (rows : List (List Int)) : Srt (srtU rows):=(fold_srt rows [] .nil).1
theorem srtU_mem (rows : List (List Int)) (x : List Int) : x ∈ srtU rows ↔ x ∈ rows:=by simpa [srtU] using (fold_srt rows [] .nil).2.1 x
theorem srtU_len (rows : List (List Int)) : (srtU rows).length <= rows.length:=by simpa [srtU] using (fold_srt rows [] .nil).2.2
theorem srtU_uniq {l rows : List (List Int)} (h : Srt l) (hm : ∀ x,x ∈ l ↔ x ∈ rows) : l = srtU rows:=srt_ext h (srtU_srt rows) fun x=>by rw [hm,srtU_mem]
theorem srtU_id {l : List (List Int)} (h : Srt l) : srtU l = l:=(srtU_uniq h fun _=>Iff.rfl).symm
def talC : List (List Int) -> List Int -> List (List Int) -> List Int -> List Int
 | l,cs,x :: r,n :: s=>talC (insR l x) (insC l cs x n) r s
 | _,cs,_,_=>cs
def sumsOf (rows : List (List Int)) (cs : List Int) : List Int:=(srtU rows).map (lkC rows cs)
theorem talC_spec : ∀ (rows2 : List (List Int)) (cs2 : List Int) (l : List (List Int)) (cs : List Int),cs.length = l.length -> cs2.length = rows2.length ->
  (talC l cs rows2 cs2).length = (rows2.foldl insR l).length /\ ∀ y,lkC (rows2.foldl insR l) (talC l cs rows2 cs2) y = lkC l cs y + lkC rows2 cs2 y
 | [],[],l,cs,h,_=>⟨h,fun y=>by simp [look_nil,talC]⟩
 | [],_ :: _,_,_,_,h=>by simp at h
 | _ :: _,[],_,_,_,h=>by simp at h
 | x :: r, n :: s, l, cs, h, h' => by
   obtain ⟨h1,h2⟩:=talC_spec r s (insR l x) (insC l cs x n) (insC_len h) (by simpa using h')
   refine ⟨h1,fun y=>?_⟩
   simp only [List.foldl_cons,talC,h2,look_ins h,lkC]; omega
theorem tal_sums {l rows2 : List (List Int)} {cs cs2 : List Int} (hs : Srt l) (h : cs.length = l.length) (h' : cs2.length = rows2.length) :
  rows2.foldl insR l = srtU (l ++ rows2) /\ talC l cs rows2 cs2 = sumsOf (l ++ rows2) (cs ++ cs2):=by
 obtain ⟨h1,h2,_⟩:=fold_srt rows2 l hs
 have e : rows2.foldl insR l = srtU (l ++ rows2):=srtU_uniq h1 fun x=>by rw [h2,List.mem_append]
 obtain ⟨h3,h4⟩:=talC_spec rows2 cs2 l cs h h'
 refine ⟨e,?_⟩
 rw [look_all h1 h3,sumsOf,e]
 refine List.map_congr_left fun y _=>?_
 rw [<- e,h4,look_app h.symm]
theorem nil_or_snoc {α : Type} (l : List α) : l = [] \/ ∃ o z,l = o ++ [z]:=by
 rcases List.eq_nil_or_concat l with h | ⟨o,z,h⟩
 ·exact .inl h
 ·exact .inr ⟨o,z,by rw [h,List.concat_eq_append]⟩
theorem cmpL_asym {a b : List Int} (h : cmpL a b < 0) : ¬ cmpL b a < 0:=by have:=cmpL_swap a b; omega
structure MI (rows a b out : List (List Int)) : Prop where
 sa : Srt a
 sb : Srt b
 so : Srt out
 le : ∀ y ∈ out,∀ z,z ∈ a \/ z ∈ b -> ¬ cmpL z y < 0
 mem : ∀ x,(x ∈ out \/ x ∈ a \/ x ∈ b) ↔ x ∈ rows
 len : out.length + a.length + b.length <= rows.length
theorem MI.start (rows : List (List Int)) (m : Nat) : MI rows (srtU (rows.take m)) (srtU (rows.drop m)) []:=by
 refine ⟨srtU_srt _,srtU_srt _,.nil,by simp,fun x=>?_,?_⟩
 ·rw [srtU_mem,srtU_mem,<- List.mem_append,List.take_append_drop]; simp
 ·have h1:=srtU_len (rows.take m)
  have h2:=srtU_len (rows.drop m)
  rw [List.length_take] at h1
  rw [List.length_drop] at h2
  simp only [List.length_nil]; omega
theorem MI.swap {rows a b out : List (List Int)} (h : MI rows a b out) : MI rows b a out:=
 ⟨h.sb,h.sa,h.so,fun y hy z hz=>h.le y hy z hz.symm,fun x=>by rw [<- h.mem x,or_comm (a:=x ∈ a)],by have:=h.len; omega⟩
theorem MI.done {rows out : List (List Int)} (h : MI rows [] [] out) : out = srtU rows:=srtU_uniq h.so fun x=>by rw [<- h.mem x]; simp
theorem MI.left {rows a b out : List (List Int)} {x : List Int} (h : MI rows (x :: a) b out) (hb : ∀ z ∈ b,¬ cmpL z x < 0) :
  (x ∈ out -> MI rows a b out) /\ (x ∉ out -> MI rows a b (out ++ [x])):=by
 have ha:=List.pairwise_cons.1 h.sa
 have hl:=h.len
 simp only [List.length_cons] at hl
 constructor
 ·intro hx
  refine ⟨ha.2,h.sb,h.so,fun y hy z hz=>h.le y hy z (hz.imp (fun hz=>by simp [hz]) id),fun y=>?_,by omega⟩
  rw [<- h.mem y]
  constructor
  ·rintro (h1 | h1 | h1) <;> simp [h1]
  ·rintro (h1 | h1 | h1)
   ·exact .inl h1
   ·rcases List.mem_cons.1 h1 with rfl | h1
    ·exact .inl hx
    ·exact .inr (.inl h1)
   ·exact .inr (.inr h1)
 ·intro hx
  refine ⟨ha.2,h.sb,List.pairwise_append.2 ⟨h.so,by simp,fun y hy z hz=>?_⟩,fun y hy z hz=>?_,fun y=>?_,by simp only [List.length_append,List.length_cons,List.length_nil]; omega⟩
  ·rw [List.mem_singleton.1 hz]
   rcases cmpL_tri y x with h1 | h1 | h1
   ·exact h1
   ·exact absurd (h1 ▸ hy) hx
   ·exact absurd h1 (h.le y hy x (by simp))
  ·rcases List.mem_append.1 hy with hy | hy
   ·exact h.le y hy z (hz.imp (fun hz=>by simp [hz]) id)
   ·rw [List.mem_singleton.1 hy]
    rcases hz with hz | hz
    ·exact cmpL_asym (ha.1 z hz)
    ·exact hb z hz
  ·rw [<- h.mem y]
   simp only [List.mem_append,List.mem_cons,List.not_mem_nil,or_false]
   constructor
   ·rintro ((h1 | h1) | h1 | h1) <;> simp [h1]
   ·rintro (h1 | (h1 | h1) | h1) <;> simp [h1]
theorem MI.last {rows a b out : List (List Int)} {x z : List Int} (h : MI rows (x :: a) b (out ++ [z])) : x ∈ out ++ [z] ↔ z = x:=by
 constructor
 ·intro hx
  rcases List.mem_append.1 hx with hx | hx
  ·have:=(List.pairwise_append.1 h.so).2.2 x hx z (by simp)
   exact absurd this (h.le z (by simp) x (by simp))
  ·exact (List.mem_singleton.1 hx).symm
 ·rintro rfl; simp
theorem MI.hl {rows a b out : List (List Int)} {x y : List Int} (h : MI rows (x :: a) (y :: b) out) (hc : ¬ 0 < cmpL x y) : ∀ z ∈ y :: b,¬ cmpL z x < 0:=by
 have h1:=cmpL_swap x y
 intro z hz
 rcases List.mem_cons.1 hz with rfl | hz
 ·omega
 ·intro h2
  have:=cmpL_trans ((List.pairwise_cons.1 h.sb).1 z hz) h2
  omega
theorem MI.hr {rows a b out : List (List Int)} {x y : List Int} (h : MI rows (x :: a) (y :: b) out) (hc : 0 < cmpL x y) : ∀ z ∈ x :: a,¬ cmpL z y < 0:=
 h.swap.hl (by have:=cmpL_swap x y; omega)
theorem rowsOk_srt {ar : Int} {l : List (List Int)} (h : rowsOk ar l = true) : Srt l:=by
 simp only [rowsOk,Bool.and_eq_true,List.all_eq_true,List.mem_range] at h
 have key : ∀ n i,i + n + 1 < l.length -> cmpL (l.getD i []) (l.getD (i + n + 1) []) < 0:=by
  intro n
  induction n with
  | zero =>
    intro i hi
    have:=h.2 (i + 1) (by omega)
    simp only [rowOk,Bool.and_eq_true,Bool.or_eq_true,decide_eq_true_eq] at this
    simpa using this.2
  | succ n ih =>
    intro i hi
    have h1:=ih i (by omega)
    have:=h.2 (i + n + 1 + 1) (by omega)
    simp only [rowOk,Bool.and_eq_true,Bool.or_eq_true,decide_eq_true_eq] at this
    have h2 : cmpL (l.getD (i + n + 1) []) (l.getD (i + n + 1 + 1) []) < 0:=by simpa using this.2
    exact cmpL_trans h1 h2
 refine List.pairwise_iff_getElem.2 fun i j hi hj hij=>?_
 have:=key (j - i - 1) i (by omega)
 rw [show i + (j - i - 1) + 1 = j by omega,getD_el _ hi,getD_el _ hj] at this
 exact this
theorem rowsOk_mem {ar : Int} {l : List (List Int)} (h : rowsOk ar l = true) {x : List Int} (hx : x ∈ l) : (x.length : Int) = ar /\ valsOk x = true:=by
 simp only [rowsOk,Bool.and_eq_true,List.all_eq_true,List.mem_range] at h
 obtain ⟨i,hi,rfl⟩:=List.mem_iff_getElem.1 hx
 have:=h.2 i hi
 simp only [rowOk,Bool.and_eq_true,decide_eq_true_eq,getD_el _ hi] at this
 exact this.1
theorem rowsOk_of {ar : Int} {l : List (List Int)} (hr : inR ar 0 5 = true) (hs : Srt l) (hm : ∀ x ∈ l,(x.length : Int) = ar /\ valsOk x = true) : rowsOk ar l = decide (l.length <= 4000):=by
 simp only [rowsOk,hr,Bool.true_and]
 suffices h : ((List.range l.length).all (rowOk ar l)) = true by rw [h,Bool.and_true]
 simp only [List.all_eq_true,List.mem_range]
 intro i hi
 have h1:=hm _ (List.getElem_mem hi)
 simp only [rowOk,Bool.and_eq_true,decide_eq_true_eq,getD_el _ hi,Bool.or_eq_true,beq_iff_eq]
 refine ⟨h1,?_⟩
 by_cases e : i = 0
 ·exact .inl e
 ·right
  rw [getD_el _ (by omega)]
  exact srt_at hs (by omega) hi
def newB (ar : Int) (rows : List (List Int)) : Bool:=rows.all (fun r=>decide ((r.length : Int) = ar) && valsOk r) && rowsOk ar (srtU rows)
def newR (ar : Int) (rows : List (List Int)) : PReln:=if newB ar rows then ⟨ar,srtU rows⟩ else ⟨0,[]⟩
theorem newB_of {ar : Int} {rows : List (List Int)} (hr : inR ar 0 5 = true) (hm : ∀ x ∈ rows,(x.length : Int) = ar /\ valsOk x = true) : newB ar rows = decide ((srtU rows).length <= 4000):=by
 have h : rows.all (fun r=>decide ((r.length : Int) = ar) && valsOk r) = true:=by
  simp only [List.all_eq_true,Bool.and_eq_true,decide_eq_true_eq]; exact hm
 rw [newB,h,Bool.true_and]
 exact rowsOk_of hr (srtU_srt rows) fun x hx=>hm x ((srtU_mem rows x).1 hx)
theorem lkC_bound {M : Int} (hM : 0 <= M) (y : List Int) : ∀ {l : List (List Int)} {cs : List Int},(∀ c ∈ cs,-M <= c /\ c <= M) -> -(l.length * M) <= lkC l cs y /\ lkC l cs y <= l.length * M
 | [],cs,_=>by rw [look_nil]; simp
 | x :: r, [], _ => by
   simp only [lkC]
   have : 0 <= ((x :: r).length : Int) * M:=Int.mul_nonneg (by omega) hM
   omega
 | x :: r, c :: s, h => by
   have h1:=h c (by simp)
   have h2:=lkC_bound hM y (l:=r) (cs:=s) fun c hc=>h c (by simp [hc])
   simp only [lkC,List.length_cons,Int.natCast_add,Int.add_mul]
   split <;> simp only [Int.cast_ofNat_Int,Int.one_mul] <;> omega
def sumsTo (R l : List (List Int)) (cs : List Int) (i : Nat) : List Int:=R.map (lkC (l.take i) (cs.take i))
@[simp] theorem sumsTo_length (R l : List (List Int)) (cs : List Int) (i : Nat) : (sumsTo R l cs i).length = R.length:=by simp [sumsTo]
def pickR (cols row : List Int) : List Int:=cols.map fun c=>row.getD c.toNat 0
def colsOk (ar : Int) (cols : List Int) : Bool:=decide (cols.length <= 5) && cols.all fun c=>inR c 0 (IntKind.i64.wrap (ar - 1))
theorem pickR_len (cols row : List Int) : (pickR cols row).length = cols.length:=by simp [pickR]
theorem pickR_step {cols row : List Int} {i : Nat} (h : i < cols.length) (hc : ∀ c ∈ cols,0 <= c /\ c < row.length) :
  pickR (cols.take (i + 1)) row = pickR (cols.take i) row ++ [row[cols[i].toNat]'(by have:=hc _ (List.getElem_mem h); omega)]:=by
 have h1:=hc _ (List.getElem_mem h)
 rw [List.take_succ_eq_append_getElem h,pickR,List.map_append]
 simp only [pickR,List.map_cons,List.map_nil]
 rw [getD_el _ (by omega)]
theorem ids_sub {α : Type} {c : α -> List D} {l l' : List α} (h : l'.Sublist l) : (idsLL (l'.map c)).Sublist (idsLL (l.map c)):=by
 induction h with
 | slnil=>simp
 | cons a _ ih=>simp only [List.map_cons,idsLL]; exact ih.trans (List.sublist_append_right _ _)
 | cons_cons a _ ih=>simp only [List.map_cons,idsLL]; exact (List.Sublist.refl _).append ih
theorem talC_snoc : ∀ (r : List (List Int)) (s : List Int) (l : List (List Int)) (cs : List Int) (x : List Int) (n : Int),s.length = r.length ->
  talC l cs (r ++ [x]) (s ++ [n]) = insC (r.foldl insR l) (talC l cs r s) x n
 | [],[],l,cs,x,n,_=>rfl
 | [],_ :: _,_,_,_,_,h=>by simp at h
 | _ :: _,[],_,_,_,_,h=>by simp at h
 | y :: r, m :: s, l, cs, x, n, h => by
   simp only [List.cons_append,talC,List.foldl_cons]
   exact talC_snoc r s _ _ x n (by simpa using h)
theorem tal_bd {l r2 : List (List Int)} {cs c2 : List Int} {M : Int} (hM : 0 <= M) (hs : Srt l) (h : cs.length = l.length) (h2 : c2.length = r2.length) (h3 : ∀ c ∈ cs,-M <= c /\ c <= M) (h4 : ∀ c ∈ c2,-M <= c /\ c <= M) :
  ∀ c ∈ talC l cs r2 c2,-((l.length + r2.length : Int) * M) <= c /\ c <= (l.length + r2.length : Int) * M:=by
 intro c hc
 obtain ⟨e1,e2⟩:=talC_spec r2 c2 l cs h h2
 have e3:=look_all (fold_srt r2 l hs).1 e1
 rw [e3] at hc
 obtain ⟨y,_,rfl⟩:=List.mem_map.1 hc
 rw [e2]
 have b1:=lkC_bound hM y (l:=l) (cs:=cs) h3
 have b2:=lkC_bound hM y (l:=r2) (cs:=c2) h4
 rw [Int.add_mul]
 omega
structure TalI (a b : PCnt) (B : Nat) (p : Nat × Cnt) (h : Nat) : Prop where
 le : p.1 <= b.rows.length
 ar : p.2.ar = a.ar
 rows : (plCnt p.2).rows = (b.rows.take p.1).foldl insR a.rows
 cs : (plCnt p.2).cs = talC a.rows a.cs (b.rows.take p.1) (b.cs.take p.1)
 ok : okCnt p.2
 good : Good (cCnt p.2) (whCnt p.2) B
 hi : ∀ g ∈ idsL (cCnt p.2),g < h
theorem TalI.bd {a b : PCnt} {B h : Nat} {p : Nat × Cnt} (t : TalI a b B p h) (hs : Srt a.rows) (ha : a.cs.length = a.rows.length) (hb : b.cs.length = b.rows.length) (h1 : a.rows.length <= 4000) (h2 : b.rows.length <= 4000)
  (h3 : ∀ c ∈ a.cs,-1000000 <= c /\ c <= 1000000) (h4 : ∀ c ∈ b.cs,-1000000 <= c /\ c <= 1000000) :
  p.2.rows.xs.length <= 8000 /\ p.2.cs.xs.length = p.2.rows.xs.length /\ ∀ v ∈ p.2.cs.xs,-1000000000000 <= v /\ v <= 1000000000000:=by
 have hl : (b.cs.take p.1).length = (b.rows.take p.1).length:=by simp [hb]
 have e1:=(fold_srt (b.rows.take p.1) a.rows hs).2.2
 have e2:=(talC_spec (b.rows.take p.1) (b.cs.take p.1) a.rows a.cs ha hl).1
 rw [<- t.rows] at e1 e2
 rw [<- t.cs] at e2
 have e3 : (b.rows.take p.1).length <= 4000:=by rw [List.length_take]; omega
 have f1 : (plCnt p.2).rows.length = p.2.rows.xs.length:=by simp [plCnt,plS]
 have f2 : (plCnt p.2).cs = p.2.cs.xs:=by simp [plCnt,plS,map_plI]
 rw [f2] at e2
 refine ⟨by omega,by omega,fun v hv=>?_⟩
 have hv' : v ∈ talC a.rows a.cs (b.rows.take p.1) (b.cs.take p.1):=by rw [<- t.cs,f2]; exact hv
 have:=tal_bd (M:=1000000) (by omega) hs ha hl h3 (fun c hc=>h4 c (List.mem_of_mem_take hc)) v hv'
 omega
theorem TalI.step {a b : PCnt} {B h m h' i : Nat} {y z : Cnt} (t : TalI a b B (i,y) h) (hb : b.cs.length = b.rows.length) (hi : i < b.rows.length) (hi2 : i < b.cs.length) (e : plCnt z = ⟨y.ar,insR (plCnt y).rows b.rows[i],insC (plCnt y).rows y.cs.xs b.rows[i] b.cs[i]⟩)
  (hok : okCnt z) (hBm : B <= m) (hm : h <= m) (G : ∀ B',B' <= m -> Good (cCnt y) (whCnt y) B' -> (∀ g ∈ idsL (cCnt y),g < m) -> Good (cCnt z) (whCnt z) B') (hh : ∀ g ∈ idsL (cCnt z),g < h') : TalI a b B (i + 1,z) h':=by
 have er : (plCnt z).rows = insR (plCnt y).rows b.rows[i]:=by rw [e]
 have ec : (plCnt z).cs = insC (plCnt y).rows (plCnt y).cs b.rows[i] b.cs[i]:=by rw [e]; simp [plCnt,plS,map_plI]
 have ea : z.ar = y.ar:=by have:=congrArg PCnt.ar e; exact this
 refine ⟨hi,by rw [ea]; exact t.ar,?_,?_,hok,G B hBm t.good fun g hg=>Nat.lt_of_lt_of_le (t.hi g hg) hm,hh⟩
 ·rw [er,t.rows]
  simp only
  rw [List.take_succ_eq_append_getElem hi,List.foldl_append]; rfl
 ·rw [ec,t.rows,t.cs]
  simp only
  rw [List.take_succ_eq_append_getElem hi,List.take_succ_eq_append_getElem hi2,talC_snoc _ _ _ _ _ _ (by simp [hb])]
theorem TalI.fin {a b : PCnt} {B h i : Nat} {y : Cnt} (t : TalI a b B (i,y) h) (hi : b.rows.length <= i) (hs : Srt a.rows) (ha : a.cs.length = a.rows.length) (hb : b.cs.length = b.rows.length) :
  (plCnt y).rows = srtU (a.rows ++ b.rows) /\ (plCnt y).cs = sumsOf (a.rows ++ b.rows) (a.cs ++ b.cs):=by
 obtain ⟨e1,e2⟩:=tal_sums hs ha hb
 have h1:=t.rows
 have h2:=t.cs
 simp only at h1 h2
 rw [List.take_of_length_le hi] at h1 h2
 rw [List.take_of_length_le (by omega)] at h2
 exact ⟨h1.trans e1,h2.trans e2⟩
theorem cutT {P : Program} {E : Md} {ops : Array Oper} {tr : Tr} {K : St -> Prop} {B hs0 : Nat} {W : List Nat} {t0 : Nat -> V} {m0 : Nat -> Option Blk} {X : Type} (Inv : X -> Nat -> Prop) (S : X -> List (Nat × V)) (M : X -> List (Nat × Option Blk))
  (h1 : ∀ K' : St -> Prop,(∀ x s,Inv x s.hs -> s.B = B -> s.W = W -> hs0 <= s.hs -> (∀ p ∈ S x,s.t p.1 = p.2) -> (∀ p ∈ M x,s.m p.1 = p.2) -> K' s) -> vtr P E ops K' tr ⟨B,hs0,W,t0,m0⟩)
  (h2 : ∀ x hs t m,Inv x hs -> hs0 <= hs -> K ⟨B,hs,W,updL t (S x),updL m (M x)⟩) : vtr P E ops K tr ⟨B,hs0,W,t0,m0⟩:=by
 refine h1 K ?_
 rintro x ⟨B',hs',W',t',m'⟩ a1 a2 a3 a4 a5 a6
 simp only at a1 a2 a3 a4 a5 a6
 subst a2 a3
 have:=h2 x hs' t' m' a1 a4
 rwa [updL_has a5,updL_has a6] at this
structure EqTo {α : Type} (a b : List α) (i : Nat) : Prop where
 le : i <= a.length
 eq : a.take i = b.take i
theorem EqTo.zero {α : Type} {a b : List α} : EqTo a b 0:=⟨by omega,by simp⟩
def decN (n : Nat) : List UInt8:=if n < 10 then [UInt8.ofNat (48 + n)] else decN (n / 10) ++ [UInt8.ofNat (48 + n % 10)]
termination_by n
decreasing_by omega
def decZ (n : Int) : List UInt8:=if n < 0 then 45 :: decN n.natAbs else decN n.natAbs
def joinB (sep : List UInt8) : List (List UInt8) -> List UInt8
 | []=>[]
 | x :: r=>x ++ r.flatMap fun y=>sep ++ y
def lowB (b : UInt8) : Bool:=decide (97 <= b.toNat /\ b.toNat <= 122)
theorem lowB_lo {b : UInt8} (h : (b.toNat : Int) < 97) : lowB b = false:=by simp only [lowB,decide_eq_false_iff_not]; omega
theorem lowB_hi {b : UInt8} (h : (122 : Int) < (b.toNat : Int)) : lowB b = false:=by simp only [lowB,decide_eq_false_iff_not]; omega
theorem lowB_ok {b : UInt8} (h : ¬ (b.toNat : Int) < 97) (h' : ¬ (122 : Int) < (b.toNat : Int)) : lowB b = true:=by simp only [lowB,decide_eq_true_eq]; omega
def nameOk (s : List UInt8) : Bool:=decide (1 <= s.length /\ s.length <= 4) && s.all lowB
theorem nameOk_bad {s : List UInt8} (h : s.all lowB = false) : nameOk s = false:=by rw [nameOk,h,Bool.and_false]
theorem nameOk_len {s : List UInt8} (h : ¬ (1 <= s.length /\ s.length <= 4)) : nameOk s = false:=by rw [nameOk,decide_eq_false h,Bool.false_and]
theorem nameOk_ok {s : List UInt8} (h : s.all lowB = true) : nameOk s = decide (1 <= s.length /\ s.length <= 4):=by rw [nameOk,h,Bool.and_true]
def setOf (l : List Int) (n : Int) : Bool:=l.all (fun x=>inR x 0 (IntKind.i64.wrap (n - 1))) && decide l.Nodup
def atomOk (n : Int) (a : PAtom) : Bool:=nameOk a.rel && inR a.vars.length 1 5 && a.vars.all fun x=>inR x 0 (IntKind.i64.wrap (n - 1))
def varsIn (l : List PAtom) : List Int:=l.flatMap PAtom.vars
def usesAll (n : Int) (l : List PAtom) : Bool:=(List.range n.toNat).all fun (v : Nat)=>(varsIn l).contains (v : Int)
def queryOk (q : PQuery) : Bool:=inR q.n 1 5 && inR q.atoms.length 1 4 && setOf q.out q.n && q.atoms.all (atomOk q.n) && usesAll q.n q.atoms
theorem nodup_len : ∀ (n : Nat) (l : List Int),l.Nodup -> (∀ x ∈ l,0 <= x /\ x < n) -> l.length <= n
 | 0, l, _, h => by
   cases l with
   | nil=>simp
   | cons a r=>have:=h a (by simp); omega
 | n + 1, l, hn, h => by
   have h1:=nodup_len n (l.erase (n : Int)) (hn.erase _) fun x hx=>by
    have h2:=h x (List.mem_of_mem_erase hx)
    have h3:=(hn.mem_erase_iff.1 hx).1
    omega
   rw [List.length_erase] at h1
   split at h1 <;> omega
theorem setOf_len {l : List Int} {n : Int} (hn : 1 <= n /\ n <= 5) (h : setOf l n = true) : (l.length : Int) <= n:=by
 simp only [setOf,Bool.and_eq_true,List.all_eq_true,decide_eq_true_eq] at h
 obtain ⟨m,rfl⟩ : ∃ m : Nat,n = (m : Int):=⟨n.toNat,by omega⟩
 have:=nodup_len m l h.2 fun x hx=>by
  have:=h.1 x hx
  rw [wrap64_of (by omega) (by omega)] at this
  simp only [inR,Bool.and_eq_true,decide_eq_true_eq] at this
  omega
 omega
def idxL (l : List Int) (v : Int) : Int:=if v ∈ l then ((l.takeWhile fun x=>!(x == v)).length : Int) else -1
theorem idxL_at {l : List Int} {v : Int} {i : Nat} (h : AllTo (fun x=>!(x == v)) l i) (hi : i < l.length) (e : l[i] = v) : idxL l v = i:=by
 have hm : v ∈ l:=e ▸ List.getElem_mem hi
 rw [idxL,if_pos hm,takeWhile_at h (by omega) (fun _=>by simp [e])]
theorem idxL_no {l : List Int} {v : Int} (h : (l.all fun x=>!(x == v)) = true) : v ∉ l /\ idxL l v = -1:=by
 have hm : v ∉ l:=fun hm=>by
  have:=(List.all_eq_true.1 h) v hm
  simp at this
 exact ⟨hm,by rw [idxL,if_neg hm]⟩
theorem idxL_ge (l : List Int) (v : Int) : decide (0 <= idxL l v) = l.contains v:=by
 by_cases h : v ∈ l
 ·simp [idxL,h]
 ·simp [idxL,h]
structure SetTo (l : List Int) (n : Int) (i : Nat) : Prop where
 le : i <= l.length
 all : ∀ x ∈ l.take i,inR x 0 (IntKind.i64.wrap (n - 1)) = true
 nd : (l.take i).Nodup
theorem SetTo.zero {l : List Int} {n : Int} : SetTo l n 0:=⟨by omega,by simp,by simp⟩
theorem SetTo.step {l : List Int} {n : Int} {i : Nat} (h : SetTo l n i) (hi : i < l.length) (h1 : inR l[i] 0 (IntKind.i64.wrap (n - 1)) = true) (h2 : l[i] ∉ l.take i) : SetTo l n (i + 1):=by
 refine ⟨hi,fun x hx=>?_,?_⟩
 ·rw [List.take_succ_eq_append_getElem hi] at hx
  rcases List.mem_append.1 hx with h' | h'
  ·exact h.all x h'
  ·simp only [List.mem_singleton] at h'; rw [h']; exact h1
 ·rw [List.take_succ_eq_append_getElem hi]
  exact List.nodup_append.2 ⟨h.nd,by simp,fun a ha b hb e=>by simp only [List.mem_singleton] at hb; subst hb; subst e; exact h2 ha⟩
theorem SetTo.done {l : List Int} {n : Int} {i : Nat} (h : SetTo l n i) (hi : l.length <= i) : setOf l n = true:=by
 have h1:=h.all; have h2:=h.nd
 rw [List.take_of_length_le hi] at h1 h2
 simp only [setOf,Bool.and_eq_true,List.all_eq_true,decide_eq_true_eq]
 exact ⟨h1,h2⟩
theorem setOf_bad1 {l : List Int} {n : Int} {i : Nat} (hi : i < l.length) (h1 : inR l[i] 0 (IntKind.i64.wrap (n - 1)) = false) : setOf l n = false:=by
 have : l.all (fun x=>inR x 0 (IntKind.i64.wrap (n - 1))) = false:=all_bad (p:=fun x=>inR x 0 (IntKind.i64.wrap (n - 1))) hi h1
 simp only [setOf,this,Bool.false_and]
theorem setOf_bad2 {l : List Int} {n : Int} {i : Nat} (hi : i < l.length) (h2 : l[i] ∈ l.take i) : setOf l n = false:=by
 have : ¬ l.Nodup:=fun hn=>by
  have e : l = l.take i ++ l[i] :: l.drop (i + 1):=by rw [<- List.drop_eq_getElem_cons hi,List.take_append_drop]
  rw [e] at hn
  exact (List.nodup_append.1 hn).2.2 _ h2 _ (List.mem_cons.2 (.inl rfl)) rfl
 simp only [setOf,this,decide_false,Bool.and_false]
structure AtI (n : Int) (l : List PAtom) (i : Nat) : Prop where
 le : i <= l.length
 ok : AllTo (atomOk n) l i
theorem AtI.zero {n : Int} {l : List PAtom} : AtI n l 0:=⟨by omega,allTo_zero⟩
structure AtK (n : Int) (l : List Int) (k : Nat) : Prop where
 le : k <= l.length
 ok : AllTo (fun x=>inR x 0 (IntKind.i64.wrap (n - 1))) l k
theorem AtK.zero {n : Int} {l : List Int} : AtK n l 0:=⟨by omega,allTo_zero⟩
theorem AtK.step {n : Int} {l : List Int} {k : Nat} (h : AtK n l k) (hk : k < l.length) (e : inR l[k] 0 (IntKind.i64.wrap (n - 1)) = true) : AtK n l (k + 1):=⟨hk,allTo_step h.ok hk e⟩
theorem atomOk_bad {n : Int} {a : PAtom} {k : Nat} (hk : k < a.vars.length) (e : inR a.vars[k] 0 (IntKind.i64.wrap (n - 1)) = false) : atomOk n a = false:=by
 have : a.vars.all (fun x=>inR x 0 (IntKind.i64.wrap (n - 1))) = false:=all_bad (p:=fun x=>inR x 0 (IntKind.i64.wrap (n - 1))) hk e
 simp only [atomOk,this,Bool.and_false]
theorem atomOk_done {n : Int} {a : PAtom} {k : Nat} (h : AtK n a.vars k) (hk : a.vars.length <= k) (h1 : nameOk a.rel = true) (h2 : inR a.vars.length 1 5 = true) : atomOk n a = true:=by
 have:=allTo_done h.ok hk
 simp only [atomOk,h1,h2,this]; rfl
theorem AtI.step {n : Int} {l : List PAtom} {i : Nat} (h : AtI n l i) (hi : i < l.length) (e : atomOk n l[i] = true) : AtI n l (i + 1):=⟨hi,allTo_step h.ok hi e⟩
theorem queryOk_n {q : PQuery} (h : inR q.n 1 5 = false) : queryOk q = false:=by simp only [queryOk,h,Bool.false_and]
theorem queryOk_a {q : PQuery} (h : inR q.atoms.length 1 4 = false) : queryOk q = false:=by simp only [queryOk,h,Bool.false_and,Bool.and_false]
theorem queryOk_o {q : PQuery} (h : setOf q.out q.n = false) : queryOk q = false:=by simp only [queryOk,h,Bool.false_and,Bool.and_false]
theorem queryOk_at {q : PQuery} {i : Nat} (hi : i < q.atoms.length) (h : atomOk q.n q.atoms[i] = false) : queryOk q = false:=by
 have : q.atoms.all (atomOk q.n) = false:=all_bad hi h
 simp only [queryOk,this,Bool.false_and,Bool.and_false]
theorem queryOk_u {q : PQuery} (h : usesAll q.n q.atoms = false) : queryOk q = false:=by simp only [queryOk,h,Bool.and_false]
theorem queryOk_all {q : PQuery} (h1 : inR q.n 1 5 = true) (h2 : inR q.atoms.length 1 4 = true) (h3 : setOf q.out q.n = true) (h4 : q.atoms.all (atomOk q.n) = true) (h5 : usesAll q.n q.atoms = true) : queryOk q = true:=by
 simp only [queryOk,h1,h2,h3,h4,h5]; rfl
def hasTo (l : List PAtom) (v : Int) (i : Nat) : Bool:=(l.take i).any fun a=>a.vars.contains v
theorem hasTo_zero (l : List PAtom) (v : Int) : hasTo l v 0 = false:=by simp [hasTo]
theorem hasTo_step {l : List PAtom} {v : Int} {i : Nat} (hi : i < l.length) : hasTo l v (i + 1) = (hasTo l v i || l[i].vars.contains v):=by
 rw [hasTo,List.take_succ_eq_append_getElem hi,List.any_append]; simp [hasTo]
theorem hasTo_all {l : List PAtom} {v : Int} {i : Nat} (hi : l.length <= i) : hasTo l v i = (varsIn l).contains v:=by
 rw [hasTo,List.take_of_length_le hi,Bool.eq_iff_iff]
 simp [varsIn]
structure UsTo (n : Int) (l : List PAtom) (v : Nat) : Prop where
 le : v <= n.toNat
 ok : AllTo (fun (v : Nat)=>(varsIn l).contains (v : Int)) (List.range n.toNat) v
theorem UsTo.zero {n : Int} {l : List PAtom} : UsTo n l 0:=⟨by omega,allTo_zero⟩
theorem UsTo.step {n : Int} {l : List PAtom} {v : Nat} (h : UsTo n l v) (hv : v < n.toNat) (e : (varsIn l).contains (v : Int) = true) : UsTo n l (v + 1):=
 ⟨hv,allTo_step h.ok (by simpa using hv) (by simpa using e)⟩
theorem usesAll_bad {n : Int} {l : List PAtom} {v : Nat} (hv : v < n.toNat) (e : (varsIn l).contains (v : Int) = false) : usesAll n l = false:=
 all_bad (p:=fun (v : Nat)=>(varsIn l).contains (v : Int)) (l:=List.range n.toNat) (i:=v) (by simpa using hv) (by simpa using e)
theorem UsTo.done {n : Int} {l : List PAtom} {v : Nat} (h : UsTo n l v) (hv : n.toNat <= v) : usesAll n l = true:=allTo_done h.ok (by simpa using hv)
def usedL (n : Nat) (vs : List Int) : List Bool:=(List.range n).map fun (j : Nat)=>vs.contains (j : Int)
@[simp] theorem usedL_length (n : Nat) (vs : List Int) : (usedL n vs).length = n:=by simp [usedL]
theorem usedL_nil (n : Nat) : usedL n [] = List.replicate n false:=by
 apply List.ext_getElem (by simp)
 intro i h1 h2; simp [usedL]
theorem usedL_snoc {n k : Nat} {vs : List Int} (h : k < n) : (usedL n vs).set k true = usedL n (vs ++ [(k : Int)]):=by
 apply List.ext_getElem (by simp)
 intro i h1 h2
 simp only [List.length_set,usedL_length] at h1
 rw [List.getElem_set]
 simp only [usedL,List.getElem_map,List.getElem_range]
 by_cases e : k = i
 ·subst e; simp
 ·have : ¬ ((i : Int) = (k : Int)):=by omega
  simp [e,this]
theorem usesAll_iff {n : Int} {l : List PAtom} : usesAll n l = (usedL n.toNat (varsIn l)).all id:=by
 simp only [usesAll,usedL,List.all_map]; rfl
def rangeI (n : Nat) : List Int:=(List.range n).map fun (k : Nat)=>(k : Int)
@[simp] theorem rangeI_length (n : Nat) : (rangeI n).length = n:=by simp [rangeI]
theorem rangeI_succ (n : Nat) : rangeI (n + 1) = rangeI n ++ [(n : Int)]:=by simp [rangeI,List.range_succ]
theorem rangeI_zero : rangeI 0 = []:=rfl
theorem queryOk_n5 {q : PQuery} (h : queryOk q = true) : 1 <= q.n /\ q.n <= 5:=by
 cases h1 : inR q.n 1 5
 ·rw [queryOk_n h1] at h; cases h
 ·simpa [inR] using h1
theorem okQuery_strs {q : Query} (h : okQuery q) : ∀ a ∈ (plQuery q).atoms,a.rel.length <= maxLen:=fun a ha=>by
 simp only [plQuery,plS,List.mem_map] at ha
 obtain ⟨b,hb,rfl⟩:=ha
 exact (h.2.1.2 b hb).1
def tabOk (t : PTab) : Bool:=nameOk t.name && rowsOk t.rel.ar t.rel.rows && decide (1 <= t.rel.ar) && decide (t.rel.rows.length <= 16)
def dbAt (l : List PTab) (j : Nat) : Bool:=(decide (j = 0) || Op.bytesLess (l.getD (j - 1) default).name (l.getD j default).name) && tabOk (l.getD j default)
def dbOk (d : PDb) : Bool:=decide (d.tabs.length <= 6) && (List.range d.tabs.length).all (dbAt d.tabs)
structure DbTo (l : List PTab) (i : Nat) : Prop where
 le : i <= l.length
 ok : AllTo (dbAt l) (List.range l.length) i
theorem DbTo.zero {l : List PTab} : DbTo l 0:=⟨by omega,allTo_zero⟩
theorem DbTo.step {l : List PTab} {i : Nat} (h : DbTo l i) (hi : i < l.length) (e : dbAt l i = true) : DbTo l (i + 1):=⟨hi,allTo_step h.ok (by simpa using hi) (by simpa using e)⟩
theorem DbTo.done {l : List PTab} {i : Nat} (h : DbTo l i) (hi : l.length <= i) : dbOk ⟨l⟩ = decide (l.length <= 6):=by
 have:=allTo_done h.ok (by simpa using hi)
 simp only [dbOk,this,Bool.and_true]
theorem dbOk_bad {l : List PTab} {i : Nat} (hi : i < l.length) (e : dbAt l i = false) : dbOk ⟨l⟩ = false:=by
 have : (List.range l.length).all (dbAt l) = false:=all_bad (p:=dbAt l) (l:=List.range l.length) (i:=i) (by simpa using hi) (by simpa using e)
 simp only [dbOk,this,Bool.and_false]
theorem dbOk_len {d : PDb} (h : dbOk d = true) : d.tabs.length <= 6:=by
 simp only [dbOk,Bool.and_eq_true,decide_eq_true_eq] at h; exact h.1
theorem dbOk_tab {d : PDb} (h : dbOk d = true) {t : PTab} (ht : t ∈ d.tabs) : tabOk t = true:=by
 obtain ⟨i,hi,rfl⟩:=List.getElem_of_mem ht
 simp only [dbOk,Bool.and_eq_true,List.all_eq_true] at h
 have:=h.2 i (by simpa using hi)
 simp only [dbAt,Bool.and_eq_true] at this
 have h2:=this.2
 rwa [getD_el _ hi] at h2
theorem dbAt_eq {l : List PTab} {i : Nat} (hi : i < l.length) : dbAt l i = ((decide (i = 0) || Op.bytesLess (l[i - 1]'(by omega)).name l[i].name) && tabOk l[i]):=by
 rw [dbAt,getD_el _ hi,getD_el _ (show i - 1 < l.length by omega)]
def fmtRow (r : List Int) : List UInt8:=[40] ++ joinB [44] (r.map decZ) ++ [41]
def fmtRel (r : PReln) : List UInt8:=if rowsOk r.ar r.rows then decZ r.ar ++ [58] ++ joinB [32] (r.rows.map fmtRow) else []
def ckB (x : Int) (b : UInt8) : Int:=(31 * x + b.toNat + 1).tmod 65521
def ckS (s : List UInt8) : Int:=s.foldl ckB 7
def runNm (v : Int) (nm : List UInt8) : List UInt8:=[116] ++ decZ v ++ [46] ++ nm
def headLn (t : PTab) : List UInt8:=t.name ++ [61] ++ decZ (ckS (fmtRel t.rel)) ++ [10]
def headTx (l : List PTab) : List UInt8:=l.flatMap headLn
def runs (v : Int) (l : List PTab) : List PFile:=l.map fun t=>⟨runNm v t.name,fmtRel t.rel⟩
def verB (d : PDb) (v : Int) : Bool:=dbOk d && inR v 1 99
@[simp] theorem runs_length (v : Int) (l : List PTab) : (runs v l).length = l.length:=by simp [runs]
theorem okDb_strs {d : Db} (h : okDb d) : ∀ t ∈ (plDb d).tabs,t.name.length <= maxLen:=fun t ht=>by
 simp only [plDb,plS,List.mem_map] at ht
 obtain ⟨b,hb,rfl⟩:=ht
 exact (h.2 b hb).1
def lkT (d : PDb) (nm : List UInt8) : Option PReln:=if dbOk d then (d.tabs.find? fun t=>t.name == nm).map PTab.rel else none
def lkB (d : PDb) (nm : List UInt8) : Bool:=(lkT d nm).isSome
def lkR (d : PDb) (nm : List UInt8) : PReln:=(lkT d nm).getD ⟨0,[]⟩
theorem lk_no {d : PDb} {nm : List UInt8} (h : dbOk d = false) : lkB d nm = false /\ lkR d nm = ⟨0,[]⟩:=by simp [lkB,lkR,lkT,h]
theorem find_at {α : Type} {p : α -> Bool} {l : List α} {i : Nat} (h : AllTo (fun a=>!p a) l i) (hi : i < l.length) (e : p l[i] = true) : l.find? p = some l[i]:=by
 have e0 : l = l.take i ++ l[i] :: l.drop (i + 1):=by rw [<- List.drop_eq_getElem_cons hi,List.take_append_drop]
 have hn : (l.take i).find? p = none:=by
  rw [List.find?_eq_none]; intro x hx
  have:=(List.all_eq_true.1 h) x hx
  simpa using this
 obtain ⟨a,ha⟩ : ∃ a,a = l[i]:=⟨_,rfl⟩
 rw [<- ha] at e e0 ⊢
 rw [e0,List.find?_append,hn,Option.none_or,List.find?_cons,e]
theorem find_no {α : Type} {p : α -> Bool} {l : List α} (h : (l.all fun a=>!p a) = true) : l.find? p = none:=by
 rw [List.find?_eq_none]; intro x hx
 have:=(List.all_eq_true.1 h) x hx
 simpa using this
theorem lk_at {l : List PTab} {nm : List UInt8} (hd : dbOk ⟨l⟩ = true) {i : Nat} (h : AllTo (fun t=>!(t.name == nm)) l i) (hi : i < l.length) (e : l[i].name = nm) : lkB ⟨l⟩ nm = true /\ lkR ⟨l⟩ nm = l[i].rel:=by
 have:=find_at (p:=fun t : PTab=>t.name == nm) h hi (by simpa using e)
 have hT : lkT ⟨l⟩ nm = some l[i].rel:=by rw [lkT,if_pos hd]; simp only; rw [this]; rfl
 exact ⟨by rw [lkB,hT]; rfl,by rw [lkR,hT]; rfl⟩
theorem lk_none {l : List PTab} {nm : List UInt8} (h : (l.all fun t=>!(t.name == nm)) = true) : lkB ⟨l⟩ nm = false /\ lkR ⟨l⟩ nm = ⟨0,[]⟩:=by
 have:=find_no (p:=fun t : PTab=>t.name == nm) h
 by_cases hd : dbOk ⟨l⟩ = true
 ·have hT : lkT ⟨l⟩ nm = none:=by rw [lkT,if_pos hd]; simp only; rw [this]; rfl
  exact ⟨by rw [lkB,hT]; rfl,by rw [lkR,hT]; rfl⟩
 ·exact lk_no (by simpa using hd)
structure LkTo (l : List PTab) (nm : List UInt8) (i : Nat) : Prop where
 le : i <= l.length
 ok : AllTo (fun t=>!(t.name == nm)) l i
theorem LkTo.zero {l : List PTab} {nm : List UInt8} : LkTo l nm 0:=⟨by omega,allTo_zero⟩
theorem LkTo.step {l : List PTab} {nm : List UInt8} {i : Nat} (h : LkTo l nm i) (hi : i < l.length) (e : ¬ l[i].name = nm) : LkTo l nm (i + 1):=⟨hi,allTo_step h.ok hi (by simp [e])⟩
theorem LkTo.done {l : List PTab} {nm : List UInt8} {i : Nat} (h : LkTo l nm i) (hi : l.length <= i) : lkB ⟨l⟩ nm = false /\ lkR ⟨l⟩ nm = ⟨0,[]⟩:=lk_none (allTo_done h.ok hi)
theorem LkTo.found {l : List PTab} {nm : List UInt8} {i : Nat} (h : LkTo l nm i) (hd : dbOk ⟨l⟩ = true) (hi : i < l.length) (e : l[i].name = nm) : lkB ⟨l⟩ nm = true /\ lkR ⟨l⟩ nm = l[i].rel:=lk_at hd h.ok hi e
theorem lk_ok {d : PDb} {nm : List UInt8} (h : lkB d nm = true) : rowsOk (lkR d nm).ar (lkR d nm).rows = true:=by
 cases hT : lkT d nm with
 | none=>rw [lkB,hT] at h; cases h
 | some r =>
   have hr : lkR d nm = r:=by rw [lkR,hT]; rfl
   rw [hr]
   unfold lkT at hT
   split at hT
   ·rename_i hd
    obtain ⟨t,ht,rfl⟩:=Option.map_eq_some_iff.1 hT
    have hm:=dbOk_tab hd (List.mem_of_find?_eq_some ht)
    simp only [tabOk,Bool.and_eq_true] at hm
    exact hm.1.1.2
   ·cases hT
theorem tabOk_rel {t : PTab} (h : tabOk t = true) : t.rel.rows.length <= 4294967296 /\ ∀ x ∈ t.rel.rows,x.length <= 4294967296:=by
 simp only [tabOk,Bool.and_eq_true,decide_eq_true_eq] at h
 exact ⟨by omega,fun x hx=>by have:=rowsOk_row h.1.1.2 x hx; omega⟩
def hasR (r : PReln) (row : List Int) : Bool:=rowsOk r.ar r.rows && placeB r.rows row
def difB (a b : PReln) : Bool:=rowsOk a.ar a.rows && rowsOk b.ar b.rows && decide (a.ar = b.ar)
def difL (l : List (List Int)) (b : List (List Int)) : List (List Int):=l.filter fun r=>!placeB b r
def difR (a b : PReln) : PReln:=if difB a b then ⟨a.ar,difL a.rows b.rows⟩ else ⟨0,[]⟩
def fitB (d : PDb) (x : PDelta) : Bool:=lkB d x.name && rowsOk x.ins.ar x.ins.rows && rowsOk x.del.ar x.del.rows && decide (x.ins.ar = (lkR d x.name).ar) && decide (x.del.ar = (lkR d x.name).ar)
def norI (r : PReln) (l : List (List Int)) : List (List Int):=l.filter fun y=>!hasR r y
def norD (r ins : PReln) (l : List (List Int)) : List (List Int):=l.filter fun y=>hasR r y && !hasR ins y
def norP (d : PDb) (x : PDelta) : PDelta:=if fitB d x then ⟨x.name,⟨(lkR d x.name).ar,norI (lkR d x.name) x.ins.rows⟩,⟨(lkR d x.name).ar,norD (lkR d x.name) x.ins x.del.rows⟩⟩ else ⟨[],⟨0,[]⟩,⟨0,[]⟩⟩
structure NorI (f : List (List Int) -> List (List Int)) (l : List (List Int)) (B : Nat) (p : Nat × List Ints) (h : Nat) : Prop where
 le : p.1 <= l.length
 pl : p.2.map (plS plI) = f (l.take p.1)
 ok : ∀ y ∈ p.2,okS okI y
 good : GoodL (cS cI) (whS whI) B h p.2
theorem NorI.zero {f : List (List Int) -> List (List Int)} {l : List (List Int)} {B h : Nat} (hf : f [] = []) : NorI f l B (0,[]) h:=⟨by simp,by simp [hf],by simp,GoodL.nil⟩
theorem NorI.skip {f : List (List Int) -> List (List Int)} {l : List (List Int)} {B h h' i : Nat} {ys : List Ints} (H : NorI f l B (i,ys) h) (hi : i < l.length) (e : f (l.take (i + 1)) = f (l.take i)) (hh : h <= h') : NorI f l B (i + 1,ys) h':=
 ⟨hi,by rw [e]; exact H.pl,H.ok,⟨H.good.nd,H.good.lo,fun g hg=>Nat.lt_of_lt_of_le (H.good.hi g hg) hh,H.good.wh⟩⟩
theorem NorI.snoc {f : List (List Int) -> List (List Int)} {l : List (List Int)} {B h m h' i : Nat} {ys : List Ints} {y : Ints} (H : NorI f l B (i,ys) h) (hi : i < l.length) (e : f (l.take (i + 1)) = f (l.take i) ++ [l[i]]) (hy : plS plI y = l[i]) (hok : okS okI y) (hb : B <= m /\ h <= m) (hm : m <= h') (G : Good (cS cI y) (whS whI y) m) (hr : ∀ g ∈ idsL (cS cI y),g < h') : NorI f l B (i + 1,ys ++ [y]) h':=by
 refine ⟨hi,?_,fun z hz=>?_,GoodL.snoc H.good hb hm G hr⟩
 ·have:=H.pl
  simp only at this
  simp only [List.map_append,List.map_cons,List.map_nil]
  rw [this,hy,e]
 ·rcases List.mem_append.1 hz with h | h
  ·exact H.ok z h
  ·rw [List.mem_singleton.1 h]; exact hok
end Go.Vs
namespace Go.Vs
theorem VC.er {P : Program} {f : FuncId} {As Ps : List V} {post : Nat -> V -> Prop} (h : VC P f Ps post) (hp : rpL (fun _=>none) As = some Ps) : VC P f As post:=
 ⟨h.1,fun w vals A hgl hLR=>h.2 w vals A hgl (LR.er _ _ _ hLR hp)⟩
structure CopI {α β : Type} (c : α -> List D) (wh : α -> Prop) (ok : α -> Prop) (pl : α -> β) (l : List β) (B : Nat) (p : Nat × List α) (h : Nat) : Prop where
 le : p.1 <= l.length
 pl : p.2.map pl = l.take p.1
 ok : ∀ y ∈ p.2,ok y
 good : GoodL c wh B h p.2
section
variable {α β : Type} {c : α -> List D} {wh : α -> Prop} {ok : α -> Prop} {pl : α -> β} {l : List β} {B : Nat}
theorem CopI.zero {h : Nat} : CopI c wh ok pl l B (0,[]) h:=⟨by simp,by simp,by simp,GoodL.nil⟩
theorem CopI.len {h i : Nat} {ys : List α} (H : CopI c wh ok pl l B (i,ys) h) : ys.length = i:=by
 have:=congrArg List.length H.pl
 have hl:=H.le
 simp only [List.length_map,List.length_take] at this hl
 omega
theorem CopI.snoc {h m h' i : Nat} {ys : List α} {y : α} (H : CopI c wh ok pl l B (i,ys) h) (hi : i < l.length) (hy : pl y = l[i]) (hok : ok y) (hb : B <= m /\ h <= m) (hm : m <= h') (G : Good (c y) (wh y) m) (hr : ∀ g ∈ idsL (c y),g < h') : CopI c wh ok pl l B (i + 1,ys ++ [y]) h':=by
 refine ⟨hi,?_,fun z hz=>?_,GoodL.snoc H.good hb hm G hr⟩
 ·have:=H.pl
  simp only at this
  simp only [List.map_append,List.map_cons,List.map_nil]
  rw [this,hy,List.take_succ_eq_append_getElem hi]
 ·rcases List.mem_append.1 hz with h | h
  ·exact H.ok z h
  ·rw [List.mem_singleton.1 h]; exact hok
theorem CopI.all {h i : Nat} {ys : List α} (H : CopI c wh ok pl l B (i,ys) h) (hi : l.length <= i) : ys.map pl = l:=by
 have:=H.pl
 simp only at this
 rwa [List.take_of_length_le hi] at this
end
def uniB (a b : PReln) : Bool:=difB a b && newB a.ar (a.rows ++ b.rows)
def uniR (a b : PReln) : PReln:=if difB a b then newR a.ar (a.rows ++ b.rows) else ⟨0,[]⟩
end Go.Vs
namespace Go.Vs
structure MJ (rows a b out : List (List Int)) : Prop where
 sa : Srt a
 sb : Srt b
 so : Srt out
 lt : ∀ y ∈ out,∀ z,z ∈ a \/ z ∈ b -> cmpL y z < 0
 mem : ∀ x,(x ∈ out \/ x ∈ a \/ x ∈ b) ↔ x ∈ rows
 len : out.length + a.length + b.length <= rows.length
theorem MJ.start (rows : List (List Int)) (m : Nat) : MJ rows (srtU (rows.take m)) (srtU (rows.drop m)) []:=by
 have h:=MI.start rows m
 exact ⟨h.sa,h.sb,h.so,by simp,h.mem,h.len⟩
theorem MJ.swap {rows a b out : List (List Int)} (h : MJ rows a b out) : MJ rows b a out:=
 ⟨h.sb,h.sa,h.so,fun y hy z hz=>h.lt y hy z hz.symm,fun x=>by rw [<- h.mem x,or_comm (a:=x ∈ a)],by have:=h.len; omega⟩
theorem MJ.done {rows out : List (List Int)} (h : MJ rows [] [] out) : out = srtU rows:=srtU_uniq h.so fun x=>by rw [<- h.mem x]; simp
theorem MJ.left {rows a b out : List (List Int)} {x : List Int} (h : MJ rows (x :: a) b out) (hb : ∀ z ∈ b,cmpL x z < 0) : MJ rows a b (out ++ [x]):=by
 have ha:=List.pairwise_cons.1 h.sa
 have hl:=h.len
 simp only [List.length_cons] at hl
 refine ⟨ha.2,h.sb,List.pairwise_append.2 ⟨h.so,by simp,fun y hy z hz=>?_⟩,fun y hy z hz=>?_,fun y=>?_,by simp only [List.length_append,List.length_cons,List.length_nil]; omega⟩
 ·rw [List.mem_singleton.1 hz]; exact h.lt y hy x (by simp)
 ·rcases List.mem_append.1 hy with hy | hy
  ·exact h.lt y hy z (hz.imp (fun hz=>by simp [hz]) id)
  ·rw [List.mem_singleton.1 hy]
   rcases hz with hz | hz
   ·exact ha.1 z hz
   ·exact hb z hz
 ·rw [<- h.mem y]
  simp only [List.mem_append,List.mem_cons,List.not_mem_nil,or_false]
  constructor
  ·rintro ((h1 | h1) | h1 | h1) <;> simp [h1]
  ·rintro (h1 | (h1 | h1) | h1) <;> simp [h1]
theorem MJ.both {rows a b out : List (List Int)} {x : List Int} (h : MJ rows (x :: a) (x :: b) out) : MJ rows a b (out ++ [x]):=by
 have hb:=List.pairwise_cons.1 h.sb
 have hl:=h.len
 simp only [List.length_cons] at hl
 refine MJ.left (x:=x) ⟨h.sa,hb.2,h.so,fun y hy z hz=>h.lt y hy z (hz.imp id fun hz=>by simp [hz]),fun y=>?_,by simp only [List.length_cons]; omega⟩ hb.1
 rw [<- h.mem y]
 simp only [List.mem_cons]
 constructor
 ·rintro (h1 | h1 | h1)
  ·exact .inl h1
  ·exact .inr (.inl h1)
  ·exact .inr (.inr (.inr h1))
 ·rintro (h1 | h1 | h1 | h1)
  ·exact .inl h1
  ·exact .inr (.inl h1)
  ·exact .inr (.inl (.inl h1))
  ·exact .inr (.inr h1)
theorem MJ.less {rows a b out : List (List Int)} {x y : List Int} (h : MJ rows (x :: a) (y :: b) out) (hc : cmpL x y < 0) : ∀ z ∈ y :: b,cmpL x z < 0:=fun z hz=>by
 rcases List.mem_cons.1 hz with rfl | hz
 ·exact hc
 ·exact cmpL_trans hc ((List.pairwise_cons.1 h.sb).1 z hz)
structure OwnR (B : Nat) (L : List Ints) : Prop where
 nd : (idsLL (L.map (cS cI))).Nodup
 lo : ∀ g ∈ idsLL (L.map (cS cI)),B <= g
 wh : ∀ r ∈ L,whS whI r
 ok : ∀ r ∈ L,okS okI r
theorem ids_perm {L L' : List Ints} (h : L'.Perm L) : (idsLL (L'.map (cS cI))).Perm (idsLL (L.map (cS cI))):=by
 induction h with
 | nil=>exact .refl _
 | cons a _ ih=>simp only [List.map_cons,idsLL]; exact (List.Perm.refl _).append ih
 | swap a b l=>simp only [List.map_cons,idsLL]; exact List.perm_append_comm_assoc _ _ _
 | trans _ _ h1 h2=>exact h1.trans h2
theorem OwnR.perm {B : Nat} {L L' : List Ints} (H : OwnR B L) (h : L'.Perm L) : OwnR B L':=
 ⟨(ids_perm h).nodup_iff.2 H.nd,fun g hg=>H.lo g ((ids_perm h).mem_iff.1 hg),fun r hr=>H.wh r (h.mem_iff.1 hr),fun r hr=>H.ok r (h.mem_iff.1 hr)⟩
theorem OwnR.sub {B : Nat} {L L' : List Ints} (H : OwnR B L) (h : L'.Sublist L) : OwnR B L':=
 ⟨H.nd.sublist (ids_sub h),fun g hg=>H.lo g ((ids_sub h).subset hg),fun r hr=>H.wh r (h.subset hr),fun r hr=>H.ok r (h.subset hr)⟩
structure SrtI (rows : List (List Int)) (B : Nat) (p : List Ints × List Ints × List Ints × Option (TypeId × Nat) × Option (TypeId × Nat)) : Prop where
 mj : MJ rows (p.1.map (plS plI)) (p.2.1.map (plS plI)) (p.2.2.1.map (plS plI))
 own : OwnR B (p.2.2.1 ++ (p.1 ++ p.2.1))
theorem SrtI.left {rows : List (List Int)} {B : Nat} {x : Ints} {a b o : List Ints} {Ta Tb Ta' : Option (TypeId × Nat)} (H : SrtI rows B (x :: a,b,o,Ta,Tb)) (hb : ∀ z ∈ b.map (plS plI),cmpL (plS plI x) z < 0) : SrtI rows B (a,b,o ++ [x],Ta',Tb):=by
 have h1:=H.mj
 simp only [List.map_cons] at h1
 refine ⟨by simp only [List.map_append,List.map_cons,List.map_nil]; exact h1.left hb,?_⟩
 have h2:=H.own
 simp only at h2 ⊢
 simpa using h2
theorem SrtI.right {rows : List (List Int)} {B : Nat} {y : Ints} {a b o : List Ints} {Ta Tb Tb' : Option (TypeId × Nat)} (H : SrtI rows B (a,y :: b,o,Ta,Tb)) (ha : ∀ z ∈ a.map (plS plI),cmpL (plS plI y) z < 0) : SrtI rows B (a,b,o ++ [y],Ta,Tb'):=by
 have h1:=H.mj
 simp only [List.map_cons] at h1
 refine ⟨by simp only [List.map_append,List.map_cons,List.map_nil]; exact (h1.swap.left ha).swap,?_⟩
 refine H.own.perm ?_
 simp only [List.append_assoc,List.singleton_append]
 exact (List.Perm.refl o).append List.perm_middle.symm
theorem SrtI.both {rows : List (List Int)} {B : Nat} {x y : Ints} {a b o : List Ints} {Ta Tb Ta' Tb' : Option (TypeId × Nat)} (H : SrtI rows B (x :: a,y :: b,o,Ta,Tb)) (e : plS plI x = plS plI y) : SrtI rows B (a,b,o ++ [x],Ta',Tb'):=by
 have h1:=H.mj
 simp only [List.map_cons,<- e] at h1
 refine ⟨by simp only [List.map_append,List.map_cons,List.map_nil]; exact h1.both,?_⟩
 refine H.own.sub ?_
 simp only [List.append_assoc,List.singleton_append]
 exact (List.Sublist.refl o).append ((((List.Sublist.refl a).append (List.sublist_cons_self y b))).cons_cons x)
structure ToN (ar : Int) (l : List (List Int)) (i : Nat) : Prop where
 le : i <= l.length
 ok : AllTo (fun r : List Int=>decide ((r.length : Int) = ar) && valsOk r) l i
theorem ToN.zero {ar : Int} {l : List (List Int)} : ToN ar l 0:=⟨by omega,allTo_zero⟩
theorem ToN.step {ar : Int} {l : List (List Int)} {i : Nat} (h : ToN ar l i) (hi : i < l.length) (e : (decide ((l[i].length : Int) = ar) && valsOk l[i]) = true) : ToN ar l (i + 1):=⟨hi,allTo_step h.ok hi e⟩
theorem ToN.done {ar : Int} {l : List (List Int)} {i : Nat} (h : ToN ar l i) (hi : l.length <= i) : (l.all fun r : List Int=>decide ((r.length : Int) = ar) && valsOk r) = true:=allTo_done h.ok hi
theorem ToN.bad {ar : Int} {l : List (List Int)} {i : Nat} (_ : ToN ar l i) (hi : i < l.length) (e : (decide ((l[i].length : Int) = ar) && valsOk l[i]) = false) : newB ar l = false:=by
 have : (l.all fun r : List Int=>decide ((r.length : Int) = ar) && valsOk r) = false:=all_bad (p:=fun r : List Int=>decide ((r.length : Int) = ar) && valsOk r) hi e
 rw [newB,this,Bool.false_and]
theorem VC.weak {P : Program} {f : FuncId} {As : List V} {post post' : Nat -> V -> Prop} (h : VC P f As post) (hp : ∀ n r,post n r -> post' n r) : VC P f As post':=
 ⟨h.1,fun w vals A hgl hLR=>(h.2 w vals A hgl hLR).mono fun e w' he=>by
  obtain ⟨v,r,h1,h2,h3,h4,h5⟩:=he
  exact ⟨v,r,h1,h2,h3,h4,hp _ _ h5⟩⟩
end Go.Vs
namespace Go.Vs
def nxP (ps : List Int) (k : Int) : Int:=ps.getD k.toNat 0
def upI (ps : List Int) : Nat -> Int -> Option Int
 | 0,a=>some a
 | m + 1,a=>if a < 0 then some a else if inR (nxP ps a) (-1) (ps.length - 1) then upI ps m (nxP ps a) else none
def endNeg : Option Int -> Bool
 | some a=>decide (a < 0)
 | none=>false
def treeAt (ps : List Int) (i : Nat) : Bool:=inR (nxP ps i) (-1) (ps.length - 1) && endNeg (upI ps (ps.length + 1) i)
def rootsN (ps : List Int) : Nat:=(ps.filter fun p=>decide (p < 0)).length
def treeB (ps : List Int) : Bool:=(List.range ps.length).all (treeAt ps) && decide (rootsN ps = 1)
def pathS (ps : List Int) : Nat -> Int -> List Int
 | 0,_=>[]
 | m + 1,k=>if inR k 0 (ps.length - 1) then k :: pathS ps m (nxP ps k) else []
def oneR (ps : List Int) : Nat:=(ps.filter fun p=>p == -1).length
def rootS (ps : List Int) : Int:=if oneR ps = 1 then (ps.findIdx fun p=>p == -1 : Nat) else -1
def lastZ (l : List Int) : Int:=l.getD (l.length - 1) 0
def pathOk (ps : List Int) (i : Nat) : Bool:=decide ((pathS ps (ps.length + 1) i).length <= ps.length) && decide (lastZ (pathS ps (ps.length + 1) i) = rootS ps)
def treeS (ps : List Int) : Bool:=decide (0 <= rootS ps) && (List.range ps.length).all (pathOk ps)
section
variable {ps : List Int}
theorem path_yes {m : Nat} {k : Int} (h : inR k 0 (ps.length - 1) = true) : pathS ps (m + 1) k = k :: pathS ps m (nxP ps k):=by
 show (if inR k 0 (ps.length - 1) then k :: pathS ps m (nxP ps k) else []) = _
 rw [if_pos h]
theorem path_out {m : Nat} {k : Int} (h : ¬ inR k 0 (ps.length - 1) = true) : pathS ps m k = []:=by
 cases m with
 | zero=>rfl
 | succ m =>
   show (if inR k 0 (ps.length - 1) then k :: pathS ps m (nxP ps k) else []) = _
   rw [if_neg h]
theorem inR_neg {k n : Int} (h : k < 0) : ¬ inR k 0 n = true:=by simp only [inR,Bool.and_eq_true,decide_eq_true_eq]; omega
theorem upI_neg {m : Nat} {a : Int} (h : a < 0) : upI ps m a = some a:=by
 cases m with
 | zero=>rfl
 | succ m=>rw [upI,if_pos h]
theorem upI_pos {m : Nat} {a b : Int} (ha : 0 <= a) (h : upI ps (m + 1) a = some b) : inR (nxP ps a) (-1) (ps.length - 1) = true /\ upI ps m (nxP ps a) = some b:=by
 rw [upI,if_neg (by omega)] at h
 split at h
 ·rename_i h1; exact ⟨h1,h⟩
 ·cases h
theorem up_more : ∀ {m : Nat} {a b : Int},b < 0 -> upI ps m a = some b -> upI ps (m + 1) a = some b /\ pathS ps (m + 1) a = pathS ps m a
 | 0, a, b, hb, h => by
   simp only [upI,Option.some.injEq] at h
   subst h
   exact ⟨upI_neg hb,by rw [path_out (inR_neg hb),path_out (inR_neg hb)]⟩
 | m + 1, a, b, hb, h => by
   by_cases ha : a < 0
   ·rw [upI_neg ha] at h
    refine ⟨by rw [upI_neg ha]; exact h,?_⟩
    rw [path_out (inR_neg ha),path_out (inR_neg ha)]
   ·obtain ⟨h1,h2⟩:=upI_pos (by omega) h
    obtain ⟨h3,h4⟩:=up_more hb h2
    refine ⟨by rw [upI,if_neg ha,if_pos h1]; exact h3,?_⟩
    by_cases hin : inR a 0 (ps.length - 1) = true
    ·rw [path_yes hin,path_yes hin,h4]
    ·rw [path_out hin,path_out hin]
theorem up_le {a b : Int} (hb : b < 0) {m : Nat} (h : upI ps m a = some b) : ∀ k,upI ps (m + k) a = some b /\ pathS ps (m + k) a = pathS ps m a
 | 0=>⟨h,rfl⟩
 | k + 1 => by
   obtain ⟨h1,h2⟩:=up_le hb h k
   obtain ⟨h3,h4⟩:=up_more hb h1
   exact ⟨h3,h4.trans h2⟩
theorem path_in : ∀ (m : Nat) (a : Int),∀ x ∈ pathS ps m a,0 <= x /\ x < ps.length
 | 0,a,x,hx=>by simp [pathS] at hx
 | m + 1, a, x, hx => by
   by_cases h : inR a 0 (ps.length - 1) = true
   ·rw [path_yes h] at hx
    simp only [inR,Bool.and_eq_true,decide_eq_true_eq] at h
    rcases List.mem_cons.1 hx with h' | h'
    ·omega
    ·exact path_in m _ x h'
   ·rw [path_out h] at hx; simp at hx
theorem path_tail : ∀ {m : Nat} {a b : Int},b < 0 -> 0 <= a -> a < ps.length -> upI ps m a = some b -> ∀ x ∈ (pathS ps m a).tail,∃ m',upI ps m' x = some b /\ (pathS ps m' x).length < (pathS ps m a).length
 | 0,a,b,_,_,_,_,x,hx=>by simp [pathS] at hx
 | m + 1, a, b, hb, ha, hl, h, x, hx => by
   have hin : inR a 0 (ps.length - 1) = true:=by simp only [inR,Bool.and_eq_true,decide_eq_true_eq]; omega
   obtain ⟨h1,h2⟩:=upI_pos ha h
   rw [path_yes hin] at hx ⊢
   simp only [List.tail_cons] at hx
   cases m with
   | zero=>simp [pathS] at hx
   | succ m =>
     by_cases hq : inR (nxP ps a) 0 (ps.length - 1) = true
     ·have hq':=hq
      simp only [inR,Bool.and_eq_true,decide_eq_true_eq] at hq'
      rw [path_yes hq] at hx
      rcases List.mem_cons.1 hx with h' | h'
      ·subst h'; exact ⟨m + 1,h2,by simp⟩
      ·have:=path_tail hb hq'.1 (by omega) h2 x (by rw [path_yes hq]; exact h')
       obtain ⟨m',e1,e2⟩:=this
       exact ⟨m',e1,by simp only [List.length_cons]; omega⟩
     ·rw [path_out hq] at hx; simp at hx
theorem path_nd : ∀ {m : Nat} {a b : Int},b < 0 -> 0 <= a -> a < ps.length -> upI ps m a = some b -> (pathS ps m a).Nodup
 | 0,a,b,_,_,_,_=>by simp [pathS]
 | m + 1, a, b, hb, ha, hl, h => by
   have hin : inR a 0 (ps.length - 1) = true:=by simp only [inR,Bool.and_eq_true,decide_eq_true_eq]; omega
   have ht:=path_tail hb ha hl h
   obtain ⟨h1,h2⟩:=upI_pos ha h
   have hu:=up_le hb h
   have e : pathS ps (m + 1) a = a :: pathS ps m (nxP ps a):=path_yes hin
   rw [e,List.nodup_cons]
   refine ⟨fun hm=>?_,?_⟩
   ·obtain ⟨m',e1,e2⟩:=ht a (by rw [e]; exact hm)
    have hu':=up_le hb e1
    have a1:=(hu m').2
    have a2:=(hu' (m + 1)).2
    rw [Nat.add_comm] at a2
    rw [<- a1,a2] at e2
    omega
   ·by_cases hq : inR (nxP ps a) 0 (ps.length - 1) = true
    ·simp only [inR,Bool.and_eq_true,decide_eq_true_eq] at hq
     exact path_nd hb hq.1 (by omega) h2
    ·rw [path_out hq]; simp
theorem path_len {m : Nat} {a b : Int} (hb : b < 0) (ha : 0 <= a) (hl : a < ps.length) (h : upI ps m a = some b) : (pathS ps m a).length <= ps.length:=
 nodup_len ps.length _ (path_nd hb ha hl h) fun x hx=>by have:=path_in _ _ x hx; omega
theorem lastZ_cons {x : Int} {l : List Int} (h : l ≠ []) : lastZ (x :: l) = lastZ l:=by
 cases l with
 | nil=>exact absurd rfl h
 | cons y r=>simp [lastZ]
theorem path_last : ∀ {m : Nat} {a b : Int},b < 0 -> 0 <= a -> a < ps.length -> upI ps m a = some b -> 0 < m /\ pathS ps m a ≠ [] /\ nxP ps (lastZ (pathS ps m a)) = -1 /\ 0 <= lastZ (pathS ps m a) /\ lastZ (pathS ps m a) < ps.length
 | 0,a,b,hb,ha,_,h=>by simp only [upI,Option.some.injEq] at h; omega
 | m + 1, a, b, hb, ha, hl, h => by
   have hin : inR a 0 (ps.length - 1) = true:=by simp only [inR,Bool.and_eq_true,decide_eq_true_eq]; omega
   obtain ⟨h1,h2⟩:=upI_pos ha h
   have e : pathS ps (m + 1) a = a :: pathS ps m (nxP ps a):=path_yes hin
   rw [e]
   refine ⟨by omega,by simp,?_⟩
   simp only [inR,Bool.and_eq_true,decide_eq_true_eq] at h1
   by_cases hq : 0 <= nxP ps a
   ·obtain ⟨_,e1,e2,e3,e4⟩:=path_last hb hq (by omega) h2
    rw [lastZ_cons e1]; exact ⟨e2,e3,e4⟩
   ·have hnil : pathS ps m (nxP ps a) = []:=path_out (inR_neg (by omega))
    rw [hnil]
    simp only [lastZ,List.length_singleton,Nat.sub_self,List.getD_cons_zero]
    exact ⟨by omega,ha,hl⟩
theorem path_up : ∀ {m : Nat} {a : Int},0 <= a -> a < ps.length -> (pathS ps m a).length < m -> nxP ps (lastZ (pathS ps m a)) = -1 -> upI ps m a = some (-1)
 | 0,a,_,_,h,_=>by omega
 | m + 1, a, ha, hl, h, he => by
   have hin : inR a 0 (ps.length - 1) = true:=by simp only [inR,Bool.and_eq_true,decide_eq_true_eq]; omega
   have e : pathS ps (m + 1) a = a :: pathS ps m (nxP ps a):=path_yes hin
   rw [e] at h he
   simp only [List.length_cons] at h
   rw [upI,if_neg (by omega)]
   by_cases hq : inR (nxP ps a) 0 (ps.length - 1) = true
   ·simp only [inR,Bool.and_eq_true,decide_eq_true_eq] at hq
    have hne : pathS ps m (nxP ps a) ≠ []:=by
     cases m with
     | zero=>omega
     | succ m=>rw [path_yes (by simp only [inR,Bool.and_eq_true,decide_eq_true_eq]; omega)]; simp
    rw [lastZ_cons hne] at he
    rw [if_pos (by simp only [inR,Bool.and_eq_true,decide_eq_true_eq]; omega)]
    exact path_up hq.1 (by omega) (by omega) he
   ·have hnil : pathS ps m (nxP ps a) = []:=path_out hq
    rw [hnil] at he
    simp only [lastZ,List.length_singleton,Nat.sub_self,List.getD_cons_zero] at he
    rw [he,if_pos (by simp only [inR,Bool.and_eq_true,decide_eq_true_eq]; omega)]
    exact upI_neg (by omega)
theorem nxP_at {i : Nat} (h : i < ps.length) : nxP ps i = ps[i]:=by
 rw [nxP,Int.toNat_natCast,getD_el _ h]
theorem two_at {α : Type} {p : α -> Bool} {l : List α} {i j : Nat} (hij : i < j) (hj : j < l.length) (h1 : p (l[i]'(by omega)) = true) (h2 : p l[j] = true) : 2 <= (l.filter p).length:=by
 have e : l.filter p = (l.take (i + 1)).filter p ++ (l.drop (i + 1)).filter p:=by rw [<- List.filter_append,List.take_append_drop]
 have m1 : l[i]'(by omega) ∈ (l.take (i + 1)).filter p:=List.mem_filter.2 ⟨by
  rw [List.take_succ_eq_append_getElem (by omega)]; exact List.mem_append.2 (.inr (List.mem_singleton.2 rfl)),h1⟩
 have m2 : l[j] ∈ (l.drop (i + 1)).filter p:=List.mem_filter.2 ⟨by
  rw [List.mem_iff_getElem]
  exact ⟨j - (i + 1),by simp; omega,by simp only [List.getElem_drop]; congr 1; omega⟩,h2⟩
 have l1:=List.length_pos_of_mem m1
 have l2:=List.length_pos_of_mem m2
 rw [e,List.length_append]; omega
theorem one_uniq {i j : Nat} (h : oneR ps = 1) (hi : i < ps.length) (hj : j < ps.length) (e1 : ps[i] = -1) (e2 : ps[j] = -1) : i = j:=by
 rcases Nat.lt_trichotomy i j with hc | hc | hc
 ·have:=two_at (p:=fun p : Int=>p == -1) hc hj (by simp [e1]) (by simp [e2])
  simp only [oneR] at h; omega
 ·exact hc
 ·have:=two_at (p:=fun p : Int=>p == -1) hc hi (by simp [e2]) (by simp [e1])
  simp only [oneR] at h; omega
theorem root_at (h : oneR ps = 1) : ∃ r : Nat,rootS ps = (r : Int) /\ ∃ hr : r < ps.length,ps[r] = -1:=by
 have hm : ∃ x ∈ ps,(x == (-1 : Int)) = true:=by
  have : 0 < (ps.filter fun p=>p == (-1 : Int)).length:=by simp only [oneR] at h; omega
  obtain ⟨x,hx⟩:=List.exists_mem_of_length_pos this
  obtain ⟨h1,h2⟩:=List.mem_filter.1 hx
  exact ⟨x,h1,h2⟩
 have hl:=List.findIdx_lt_length_of_exists hm
 refine ⟨ps.findIdx fun p=>p == -1,by rw [rootS,if_pos h],hl,?_⟩
 have:=List.findIdx_getElem (w:=hl)
 simpa using this
theorem endNeg_iff {o : Option Int} : endNeg o = true ↔ ∃ b,o = some b /\ b < 0:=by
 cases o with
 | none=>simp [endNeg]
 | some b=>simp [endNeg]
theorem tree_eq (ps : List Int) : treeB ps = treeS ps:=by
 rw [Bool.eq_iff_iff]
 simp only [treeB,treeS,Bool.and_eq_true,decide_eq_true_eq,List.all_eq_true,List.mem_range]
 constructor
 ·rintro ⟨h1,h2⟩
  have hpar : ∀ i (h : i < ps.length),-1 <= ps[i] /\ ps[i] <= ps.length - 1:=fun i h=>by
   have:=h1 i h
   simp only [treeAt,Bool.and_eq_true,nxP_at h] at this
   simpa [inR] using this.1
  have hone : oneR ps = 1:=by
   rw [<- h2,oneR,rootsN]
   congr 1
   refine List.filter_congr fun x hx=>?_
   obtain ⟨i,hi,rfl⟩:=List.mem_iff_getElem.1 hx
   have:=hpar i hi
   by_cases e : ps[i] = -1
   ·simp [e]
   ·simp [e]; omega
  obtain ⟨r,hr,hrl,hre⟩:=root_at hone
  refine ⟨by omega,fun i hi=>?_⟩
  have hi':=h1 i hi
  simp only [treeAt,Bool.and_eq_true] at hi'
  obtain ⟨b,hu,hb⟩:=endNeg_iff.1 hi'.2
  have hlen:=path_len hb (by omega) (by omega) hu
  obtain ⟨_,_,e2,e3,e4⟩:=path_last hb (by omega) (by omega) hu
  simp only [pathOk,Bool.and_eq_true,decide_eq_true_eq]
  refine ⟨hlen,?_⟩
  obtain ⟨l,hl⟩ : ∃ l : Nat,lastZ (pathS ps (ps.length + 1) i) = (l : Int):=⟨(lastZ (pathS ps (ps.length + 1) i)).toNat,by omega⟩
  rw [hl] at e2 e4 ⊢
  have hll : l < ps.length:=by omega
  rw [nxP_at hll] at e2
  rw [hr,one_uniq hone hll hrl e2 hre]
 ·rintro ⟨h1,h2⟩
  have hone : oneR ps = 1:=by
   by_cases hc : oneR ps = 1
   ·exact hc
   ·rw [rootS,if_neg hc] at h1; omega
  obtain ⟨r,hr,hrl,hre⟩:=root_at hone
  have hu : ∀ i,i < ps.length -> upI ps (ps.length + 1) i = some (-1):=fun i hi=>by
   have:=h2 i hi
   simp only [pathOk,Bool.and_eq_true,decide_eq_true_eq] at this
   refine path_up (by omega) (by omega) (by omega) ?_
   rw [this.2,hr,nxP_at hrl,hre]
  have hpar : ∀ i,i < ps.length -> inR (nxP ps i) (-1) (ps.length - 1) = true:=fun i hi=>(upI_pos (by omega) (hu i hi)).1
  refine ⟨fun i hi=>?_,?_⟩
  ·simp only [treeAt,hpar i hi,hu i hi,endNeg]; decide
  ·rw [<- hone,oneR,rootsN]
   congr 1
   refine List.filter_congr fun x hx=>?_
   obtain ⟨i,hi,rfl⟩:=List.mem_iff_getElem.1 hx
   have:=hpar i hi
   rw [nxP_at hi] at this
   simp only [inR,Bool.and_eq_true,decide_eq_true_eq] at this
   by_cases e : ps[i] = -1
   ·simp [e]
   ·simp [e]; omega
end
end Go.Vs
namespace Go.Vs
def ascAt (b : List Int) (i : Nat) : Bool:=decide (i = 0) || decide (b.getD (i - 1) 0 < b.getD i 0)
def ascB (b : List Int) : Bool:=(List.range b.length).all (ascAt b)
def bagI (n : Int) (b : List Int) : Bool:=decide (0 < b.length) && ascB b && setOf b n
def bagAt (n : Int) (b : List Int) (i : Nat) : Bool:=inR (b.getD i 0) 0 (IntKind.i64.wrap (n - 1)) && ascAt b i
def bagS (n : Int) (b : List Int) : Bool:=(List.range b.length).all (bagAt n b) && decide (0 < b.length)
theorem asc_pw {b : List Int} (h : ascB b = true) : b.Pairwise (· < ·):=by
 simp only [ascB,List.all_eq_true,List.mem_range] at h
 have key : ∀ n i,i + n + 1 < b.length -> b.getD i 0 < b.getD (i + n + 1) 0:=by
  intro n
  induction n with
  | zero =>
    intro i hi
    have:=h (i + 1) (by omega)
    simp only [ascAt,Bool.or_eq_true,decide_eq_true_eq] at this
    simpa using this
  | succ n ih =>
    intro i hi
    have h1:=ih i (by omega)
    have:=h (i + n + 1 + 1) (by omega)
    simp only [ascAt,Bool.or_eq_true,decide_eq_true_eq] at this
    have h2 : b.getD (i + n + 1) 0 < b.getD (i + n + 1 + 1) 0:=by simpa using this
    exact Int.lt_trans h1 h2
 refine List.pairwise_iff_getElem.2 fun i j hi hj hij=>?_
 have:=key (j - i - 1) i (by omega)
 rw [show i + (j - i - 1) + 1 = j by omega,getD_el _ hi,getD_el _ hj] at this
 exact this
theorem bag_eq (n : Int) (b : List Int) : bagI n b = bagS n b:=by
 rw [Bool.eq_iff_iff]
 simp only [bagI,bagS,ascB,Bool.and_eq_true,decide_eq_true_eq,List.all_eq_true,List.mem_range,bagAt]
 constructor
 ·rintro ⟨⟨h1,h2⟩,h3⟩
  refine ⟨fun i hi=>⟨?_,h2 i hi⟩,h1⟩
  simp only [setOf,Bool.and_eq_true,List.all_eq_true] at h3
  rw [getD_el _ hi]; exact h3.1 _ (List.getElem_mem hi)
 ·rintro ⟨h1,h2⟩
  refine ⟨⟨h2,fun i hi=>(h1 i hi).2⟩,?_⟩
  have hpw:=asc_pw (b:=b) (by simp only [ascB,List.all_eq_true,List.mem_range]; exact fun i hi=>(h1 i hi).2)
  simp only [setOf,Bool.and_eq_true,List.all_eq_true,decide_eq_true_eq]
  refine ⟨fun x hx=>?_,hpw.imp fun h e=>by omega⟩
  obtain ⟨i,hi,rfl⟩:=List.mem_iff_getElem.1 hx
  have:=(h1 i hi).1
  rwa [getD_el _ hi] at this
def avars (a : PAtom) : List Int:=(rangeI 5).filter fun v=>a.vars.contains v
def commL (x y : List Int) : List Int:=x.filter fun v=>y.contains v
def inAB (a : PAtom) (b : List Int) : Bool:=decide ((commL (avars a) b).length = (avars a).length)
def insD (a : PAtom) (b : List Int) : Bool:=a.vars.all fun v=>b.contains v
theorem inAB_eq {a : PAtom} {n : Int} (hn : 1 <= n /\ n <= 5) (h : atomOk n a = true) (b : List Int) : inAB a b = insD a b:=by
 rw [Bool.eq_iff_iff]
 simp only [inAB,insD,decide_eq_true_eq,commL,List.length_filter_eq_length_iff,List.all_eq_true]
 have hv : ∀ v ∈ a.vars,0 <= v /\ v < 5:=fun v hv=>by
  simp only [atomOk,Bool.and_eq_true,List.all_eq_true] at h
  have:=h.2 v hv
  rw [wrap64_of (by omega) (by omega)] at this
  simp only [inR,Bool.and_eq_true,decide_eq_true_eq] at this
  omega
 constructor
 ·intro h1 v hva
  have h2:=hv v hva
  refine h1 v (List.mem_filter.2 ⟨?_,by simpa using hva⟩)
  simp only [rangeI,List.mem_map,List.mem_range]
  exact ⟨v.toNat,by omega,by omega⟩
 ·intro h1 v hva
  have:=(List.mem_filter.1 hva).2
  exact h1 v (by simpa using this)
def topIs (bags : List (List Int)) (ps : List Int) (v : Int) (i : Nat) : Bool:=(bags.getD i []).contains v && (decide (ps.getD i 0 < 0) || !((bags.getD (ps.getD i 0).toNat []).contains v))
def topN (bags : List (List Int)) (ps : List Int) (v : Int) (i : Nat) : Nat:=((List.range i).filter (topIs bags ps v)).length
theorem topN_step (bags : List (List Int)) (ps : List Int) (v : Int) (i : Nat) : topN bags ps v (i + 1) = topN bags ps v i + if topIs bags ps v i then 1 else 0:=by
 rw [topN,List.range_succ,List.filter_append,List.length_append]
 cases h : topIs bags ps v i <;> simp [topN,h]
theorem topN_le (bags : List (List Int)) (ps : List Int) (v : Int) (i : Nat) : topN bags ps v i <= i:=by
 have:=List.length_filter_le (topIs bags ps v) (List.range i)
 simpa [topN] using this
def anyIn (bags : List (List Int)) (a : PAtom) : Bool:=bags.any fun b=>inAB a b
def decOk (q : PQuery) (d : PDec) : Bool:=queryOk q && decide (d.bags.length = d.par.length) && treeB d.par && d.bags.all (bagI q.n) && q.atoms.all (anyIn d.bags) && (List.range q.n.toNat).all fun v=>decide (topN d.bags d.par (v : Int) d.bags.length = 1)
def placeOk (q : PQuery) (d : PDec) (i : Nat) : Bool:=bagS q.n (d.bags.getD i []) && pathOk d.par i
theorem decOk_q {q : PQuery} {d : PDec} (h : queryOk q = false) : decOk q d = false:=by simp only [decOk,h,Bool.false_and]
theorem decOk_l {q : PQuery} {d : PDec} (h : ¬ d.bags.length = d.par.length) : decOk q d = false:=by simp only [decOk,decide_eq_false h,Bool.false_and,Bool.and_false]
theorem decOk_t {q : PQuery} {d : PDec} (h : treeB d.par = false) : decOk q d = false:=by simp only [decOk,h,Bool.false_and,Bool.and_false]
theorem decOk_r {q : PQuery} {d : PDec} (h : rootS d.par < 0) : decOk q d = false:=decOk_t (by rw [tree_eq,treeS,decide_eq_false (by omega),Bool.false_and])
theorem decOk_b {q : PQuery} {d : PDec} {i : Nat} (hi : i < d.bags.length) (h : bagI q.n d.bags[i] = false) : decOk q d = false:=by
 have : d.bags.all (bagI q.n) = false:=all_bad hi h
 simp only [decOk,this,Bool.false_and,Bool.and_false]
theorem decOk_p {q : PQuery} {d : PDec} {i : Nat} (hl : d.bags.length = d.par.length) (hi : i < d.bags.length) (h : placeOk q d i = false) : decOk q d = false:=by
 rw [placeOk,getD_el _ hi,<- bag_eq] at h
 cases hb : bagI q.n d.bags[i]
 ·exact decOk_b hi hb
 ·rw [hb,Bool.true_and] at h
  refine decOk_t ?_
  rw [tree_eq,treeS]
  have : (List.range d.par.length).all (pathOk d.par) = false:=all_bad (p:=pathOk d.par) (l:=List.range d.par.length) (i:=i) (by simp; omega) (by simpa using h)
  rw [this,Bool.and_false]
theorem decOk_a {q : PQuery} {d : PDec} {i : Nat} (hi : i < q.atoms.length) (h : anyIn d.bags q.atoms[i] = false) : decOk q d = false:=by
 have : q.atoms.all (anyIn d.bags) = false:=all_bad hi h
 simp only [decOk,this,Bool.false_and,Bool.and_false]
theorem decOk_v {q : PQuery} {d : PDec} {v : Nat} (hv : v < q.n.toNat) (h : ¬ topN d.bags d.par (v : Int) d.bags.length = 1) : decOk q d = false:=by
 have : ((List.range q.n.toNat).all fun v=>decide (topN d.bags d.par (v : Int) d.bags.length = 1)) = false:=all_bad (p:=fun v : Nat=>decide (topN d.bags d.par (v : Int) d.bags.length = 1)) (l:=List.range q.n.toNat) (i:=v) (by simpa using hv) (by simpa using h)
 simp only [decOk,this,Bool.and_false]
theorem decOk_all {q : PQuery} {d : PDec} (h1 : queryOk q = true) (h2 : d.bags.length = d.par.length) (h3 : treeB d.par = true) (h4 : d.bags.all (bagI q.n) = true) (h5 : q.atoms.all (anyIn d.bags) = true) (h6 : ((List.range q.n.toNat).all fun v=>decide (topN d.bags d.par (v : Int) d.bags.length = 1)) = true) : decOk q d = true:=by
 simp only [decOk,h1,h3,h4,h5,h6,decide_eq_true h2]; rfl
theorem places {q : PQuery} {d : PDec} (hl : d.bags.length = d.par.length) (hr : 0 <= rootS d.par) (h : (List.range d.bags.length).all (placeOk q d) = true) : treeB d.par = true /\ d.bags.all (bagI q.n) = true:=by
 simp only [List.all_eq_true,List.mem_range,placeOk,Bool.and_eq_true] at h
 constructor
 ·rw [tree_eq,treeS,decide_eq_true hr,Bool.true_and]
  simp only [List.all_eq_true,List.mem_range]
  exact fun i hi=>(h i (by omega)).2
 ·simp only [List.all_eq_true]
  intro b hb
  obtain ⟨i,hi,rfl⟩:=List.mem_iff_getElem.1 hb
  have:=(h i hi).1
  rwa [getD_el _ hi,<- bag_eq] at this
structure AscI (b : List Int) (i : Nat) : Prop where
 le : 1 <= i /\ i <= b.length + 1
 ok : ∀ j,j < i -> j < b.length -> ascAt b j = true
theorem AscI.one {b : List Int} : AscI b 1:=by
 refine ⟨by omega,fun j hj _=>?_⟩
 have : j = 0:=by omega
 subst this
 simp [ascAt]
theorem ascAt_eq {b : List Int} {i : Nat} (h1 : 1 <= i) (hi : i < b.length) : ascAt b i = decide (b[i - 1]'(by omega) < b[i]):=by
 rw [ascAt,getD_el _ hi,getD_el _ (show i - 1 < b.length by omega),decide_eq_false (by omega),Bool.false_or]
theorem AscI.step {b : List Int} {i : Nat} (h : AscI b i) (hi : i < b.length) (e : b[i - 1]'(by omega) < b[i]) : AscI b (i + 1):=
 ⟨by omega,fun j hj hl=>by
  by_cases hc : j < i
  ·exact h.ok j hc hl
  ·have : j = i:=by omega
   subst this; rw [ascAt_eq h.le.1 hl]; simpa using e⟩
theorem AscI.done {b : List Int} {i : Nat} (h : AscI b i) (hi : b.length <= i) : ascB b = true:=by
 simp only [ascB,List.all_eq_true,List.mem_range]
 exact fun j hj=>h.ok j (by omega) hj
theorem asc_bad {b : List Int} {i : Nat} (h1 : 1 <= i) (hi : i < b.length) (e : ¬ b[i - 1]'(by omega) < b[i]) : ascB b = false:=
 all_bad (p:=ascAt b) (l:=List.range b.length) (i:=i) (by simpa using hi) (by simp only [List.getElem_range]; rw [ascAt_eq h1 hi]; simpa using e)
structure BagI (n : Int) (b : List Int) (i : Nat) : Prop where
 le : i <= b.length
 ok : AllTo (bagAt n b) (List.range b.length) i
theorem BagI.zero {n : Int} {b : List Int} : BagI n b 0:=⟨by omega,allTo_zero⟩
theorem BagI.step {n : Int} {b : List Int} {i : Nat} (h : BagI n b i) (hi : i < b.length) (e : bagAt n b i = true) : BagI n b (i + 1):=⟨hi,allTo_step h.ok (by simpa using hi) (by simpa using e)⟩
theorem BagI.done {n : Int} {b : List Int} {i : Nat} (h : BagI n b i) (hi : b.length <= i) : bagS n b = decide (0 < b.length):=by
 rw [bagS,allTo_done h.ok (by simpa using hi),Bool.true_and]
theorem bagS_bad {n : Int} {b : List Int} {i : Nat} (hi : i < b.length) (e : bagAt n b i = false) : bagS n b = false:=by
 have : (List.range b.length).all (bagAt n b) = false:=all_bad (p:=bagAt n b) (l:=List.range b.length) (i:=i) (by simpa using hi) (by simpa using e)
 rw [bagS,this,Bool.false_and]
theorem comm_step {l b : List Int} {i : Nat} (h : i < l.length) : commL (l.take (i + 1)) b = commL (l.take i) b ++ if b.contains l[i] then [l[i]] else []:=by
 rw [List.take_succ_eq_append_getElem h,commL,List.filter_append]
 cases e : b.contains l[i] <;> simp only [commL,List.filter_cons,e,List.filter_nil] <;> simp
def avTo (a : PAtom) (i : Nat) : List Int:=(rangeI i).filter fun v=>a.vars.contains v
theorem avTo_step (a : PAtom) (i : Nat) : avTo a (i + 1) = avTo a i ++ if a.vars.contains (i : Int) then [(i : Int)] else []:=by
 rw [avTo,rangeI_succ,List.filter_append]
 cases e : a.vars.contains (i : Int) <;> simp only [avTo,List.filter_cons,e,List.filter_nil] <;> simp
theorem avTo_len (a : PAtom) (i : Nat) : (avTo a i).length <= i:=by
 have:=List.length_filter_le (fun v=>a.vars.contains v) (rangeI i)
 simpa [avTo] using this
structure InTo (b : List Int) (a : PAtom) (i : Nat) : Prop where
 le : i <= a.vars.length
 ok : AllTo (fun v=>b.contains v) a.vars i
theorem InTo.zero {b : List Int} {a : PAtom} : InTo b a 0:=⟨by omega,allTo_zero⟩
theorem InTo.step {b : List Int} {a : PAtom} {i : Nat} (h : InTo b a i) (hi : i < a.vars.length) (e : a.vars[i] ∈ b) : InTo b a (i + 1):=⟨hi,allTo_step h.ok hi (by simpa using e)⟩
theorem InTo.done {b : List Int} {a : PAtom} {i : Nat} (h : InTo b a i) (hi : a.vars.length <= i) : insD a b = true:=allTo_done h.ok hi
theorem ins_bad {b : List Int} {a : PAtom} {i : Nat} (hi : i < a.vars.length) (e : ¬ a.vars[i] ∈ b) : insD a b = false:=all_bad (p:=fun v=>b.contains v) hi (by simpa using e)
structure TreI (ps : List Int) (i : Nat) : Prop where
 le : i <= ps.length
 ok : AllTo (treeAt ps) (List.range ps.length) i
theorem TreI.zero {ps : List Int} : TreI ps 0:=⟨by omega,allTo_zero⟩
theorem TreI.step {ps : List Int} {i : Nat} (h : TreI ps i) (hi : i < ps.length) (e : treeAt ps i = true) : TreI ps (i + 1):=⟨hi,allTo_step h.ok (by simpa using hi) (by simpa using e)⟩
def rootsTo (ps : List Int) (i : Nat) : Nat:=((ps.take i).filter fun p=>decide (p < 0)).length
theorem rootsTo_step {ps : List Int} {i : Nat} (h : i < ps.length) : rootsTo ps (i + 1) = rootsTo ps i + if ps[i] < 0 then 1 else 0:=by
 rw [rootsTo,List.take_succ_eq_append_getElem h,List.filter_append,List.length_append]
 by_cases e : ps[i] < 0 <;> simp [rootsTo,e]
theorem rootsTo_le (ps : List Int) (i : Nat) : rootsTo ps i <= i:=by
 have:=List.length_filter_le (fun p : Int=>decide (p < 0)) (ps.take i)
 rw [List.length_take] at this
 simp only [rootsTo]; omega
theorem TreI.done {ps : List Int} {i : Nat} (h : TreI ps i) (hi : ps.length <= i) : treeB ps = decide (rootsTo ps i = 1):=by
 rw [treeB,allTo_done h.ok (by simpa using hi),Bool.true_and,rootsTo,List.take_of_length_le hi]; rfl
theorem treeB_bad {ps : List Int} {i : Nat} (hi : i < ps.length) (e : treeAt ps i = false) : treeB ps = false:=by
 have : (List.range ps.length).all (treeAt ps) = false:=all_bad (p:=treeAt ps) (l:=List.range ps.length) (i:=i) (by simpa using hi) (by simpa using e)
 rw [treeB,this,Bool.false_and]
structure UpT (ps : List Int) (i : Nat) (p : Nat × Int) : Prop where
 le : p.1 <= ps.length + 1
 at_ : -1 <= p.2 /\ p.2 <= ps.length - 1
 up : upI ps (ps.length + 1) i = upI ps (ps.length + 1 - p.1) p.2
theorem upI_succ {ps : List Int} {m : Nat} {a : Int} (ha : 0 <= a) : upI ps (m + 1) a = if inR (nxP ps a) (-1) (ps.length - 1) then upI ps m (nxP ps a) else none:=by rw [upI,if_neg (by omega)]
theorem UpT.step {ps : List Int} {i k : Nat} {a q : Int} (h : UpT ps i (k,a)) (hk : k <= ps.length) (ha : 0 <= a) (e : nxP ps a = q) (hq : inR q (-1) (ps.length - 1) = true) : UpT ps i (k + 1,q):=by
 have h1:=h.up
 simp only at h1
 rw [show ps.length + 1 - k = (ps.length - k) + 1 by omega,upI_succ (m:=ps.length - k) ha,e,if_pos hq] at h1
 simp only [inR,Bool.and_eq_true,decide_eq_true_eq] at hq
 exact ⟨by simp only; omega,hq,by rw [h1]; simp only; rw [show ps.length + 1 - (k + 1) = ps.length - k by omega]⟩
theorem UpT.bad {ps : List Int} {i k : Nat} {a q : Int} (h : UpT ps i (k,a)) (hk : k <= ps.length) (ha : 0 <= a) (e : nxP ps a = q) (hq : inR q (-1) (ps.length - 1) = false) : treeAt ps i = false:=by
 have h1:=h.up
 simp only at h1
 rw [show ps.length + 1 - k = (ps.length - k) + 1 by omega,upI_succ (m:=ps.length - k) ha,e,if_neg (by simp [hq])] at h1
 rw [treeAt,h1]; simp [endNeg]
theorem UpT.fin {ps : List Int} {i k : Nat} {a : Int} (h : UpT ps i (k,a)) (hk : ¬ (k <= ps.length /\ 0 <= a)) : endNeg (upI ps (ps.length + 1) i) = decide (a < 0):=by
 have h1:=h.up
 have hle:=h.le
 simp only at h1 hle
 rw [h1]
 by_cases ha : a < 0
 ·rw [upI_neg ha]; rfl
 ·have : ps.length + 1 - k = 0:=by omega
  rw [this]; rfl
structure RootI (ps : List Int) (p : Nat × Int) : Prop where
 le : p.1 <= ps.length
 no : p.2 = -1 -> ∀ j (h : j < ps.length),j < p.1 -> ps[j] ≠ -1
 some : p.2 ≠ -1 -> ∃ r : Nat,p.2 = (r : Int) /\ r < p.1 /\ ∃ hr : r < ps.length,ps[r] = -1 /\ ∀ j (h : j < ps.length),j < p.1 -> j ≠ r -> ps[j] ≠ -1
theorem oneR_zero {ps : List Int} (h : ∀ j (h : j < ps.length),ps[j] ≠ -1) : oneR ps = 0:=by
 rw [oneR,List.length_eq_zero_iff,List.filter_eq_nil_iff]
 intro x hx
 obtain ⟨i,hi,rfl⟩:=List.mem_iff_getElem.1 hx
 simpa using h i hi
theorem oneR_one {ps : List Int} {r : Nat} (hr : r < ps.length) (e : ps[r] = -1) (h : ∀ j (h : j < ps.length),j ≠ r -> ps[j] ≠ -1) : oneR ps = 1:=by
 have e0 : ps = ps.take r ++ ps[r] :: ps.drop (r + 1):=by rw [<- List.drop_eq_getElem_cons hr,List.take_append_drop]
 have h1 : ((ps.take r).filter fun p=>p == (-1 : Int)) = []:=by
  rw [List.filter_eq_nil_iff]; intro x hx
  obtain ⟨i,hi,rfl⟩:=List.mem_iff_getElem.1 hx
  rw [List.length_take] at hi
  rw [List.getElem_take]
  simpa using h i (by omega) (by omega)
 have h2 : ((ps.drop (r + 1)).filter fun p=>p == (-1 : Int)) = []:=by
  rw [List.filter_eq_nil_iff]; intro x hx
  obtain ⟨i,hi,rfl⟩:=List.mem_iff_getElem.1 hx
  rw [List.length_drop] at hi
  rw [List.getElem_drop]
  simpa using h (r + 1 + i) (by omega) (by omega)
 rw [oneR,e0,List.filter_append,List.filter_cons,h1,h2,e]; simp
theorem RootI.done {ps : List Int} {i : Nat} {o : Int} (h : RootI ps (i,o)) (hi : ps.length <= i) : rootS ps = o:=by
 by_cases ho : o = -1
 ·have:=oneR_zero fun j hj=>h.no ho j hj (by simp only; omega)
  rw [rootS,if_neg (by omega),ho]
 ·obtain ⟨r,e,_,hr,e1,e2⟩:=h.some ho
  have h1:=oneR_one hr e1 fun j hj hne=>e2 j hj (by simp only; omega) hne
  obtain ⟨r',e',hr',e1'⟩:=root_at h1
  rw [e',one_uniq h1 hr' hr e1' e1]; exact e.symm
theorem RootI.two {ps : List Int} {i : Nat} {o : Int} (h : RootI ps (i,o)) (ho : 0 <= o) (hi : i < ps.length) (e : ps[i] = -1) : rootS ps = -1:=by
 obtain ⟨r,_,hlt,hr,e1,_⟩:=h.some (by simp only; omega)
 simp only at hlt
 have:=two_at (p:=fun p : Int=>p == -1) hlt hi (by simp [e1]) (by simp [e])
 rw [rootS,if_neg (by simp only [oneR]; omega)]
theorem RootI.put {ps : List Int} {i : Nat} {o : Int} (h : RootI ps (i,o)) (ho : o < 0) (hi : i < ps.length) (e : ps[i] = -1) : RootI ps (i + 1,(i : Int)):=by
 have ho' : o = -1:=by
  by_cases hc : o = -1
  ·exact hc
  ·obtain ⟨r,e,_⟩:=h.some hc
   simp only at e; omega
 exact ⟨by simp only; omega,fun hc=>by simp only at hc; omega,fun _=>⟨i,rfl,by simp only; omega,hi,e,fun j hj hji hne=>h.no ho' j hj (by simp only at hji ⊢; omega)⟩⟩
theorem RootI.skip {ps : List Int} {i : Nat} {o : Int} (h : RootI ps (i,o)) (hi : i < ps.length) (e : ps[i] ≠ -1) : RootI ps (i + 1,o):=by
 refine ⟨by simp only; omega,fun hc j hj hji=>?_,fun hc=>?_⟩
 ·by_cases hx : j = i
  ·subst hx; exact e
  ·exact h.no hc j hj (by simp only at hji ⊢; omega)
 ·obtain ⟨r,e1,e2,hr,e3,e4⟩:=h.some hc
  simp only at e2
  exact ⟨r,e1,by simp only; omega,hr,e3,fun j hj hji hne=>by
   by_cases hx : j = i
   ·subst hx; exact e
   ·exact e4 j hj (by simp only at hji ⊢; omega) hne⟩
theorem RootI.zero {ps : List Int} : RootI ps (0,-1):=⟨by simp,fun _ j _ hj=>by simp at hj,fun h=>absurd rfl h⟩
structure PathI (ps : List Int) (k0 : Int) (p : Int × List Int) : Prop where
 le : p.2.length <= ps.length + 1
 eq : pathS ps (ps.length + 1) k0 = p.2 ++ pathS ps (ps.length + 1 - p.2.length) p.1
theorem PathI.zero {ps : List Int} {k0 : Int} : PathI ps k0 (k0,[]):=⟨by simp,by simp⟩
theorem PathI.step {ps : List Int} {k0 k : Int} {o : List Int} (h : PathI ps k0 (k,o)) (hk : inR k 0 (ps.length - 1) = true) (ho : o.length <= ps.length) : PathI ps k0 (nxP ps k,o ++ [k]):=by
 have h1:=h.eq
 simp only at h1
 rw [show ps.length + 1 - o.length = (ps.length - o.length) + 1 by omega,path_yes hk] at h1
 refine ⟨by simp only [List.length_append,List.length_singleton]; omega,?_⟩
 simp only [List.length_append,List.length_singleton]
 rw [h1,show ps.length + 1 - (o.length + 1) = ps.length - o.length by omega]; simp
theorem PathI.done {ps : List Int} {k0 k : Int} {o : List Int} (h : PathI ps k0 (k,o)) (hk : ¬ (inR k 0 (ps.length - 1) = true /\ o.length <= ps.length)) : pathS ps (ps.length + 1) k0 = o:=by
 have h1:=h.eq
 have hle:=h.le
 simp only at h1 hle
 by_cases hc : inR k 0 (ps.length - 1) = true
 ·have : ps.length + 1 - o.length = 0:=by
   have : ¬ o.length <= ps.length:=fun hh=>hk ⟨hc,hh⟩
   omega
  rw [h1,this]; simp [pathS]
 ·rw [h1,path_out hc,List.append_nil]
def anyTo {α : Type} (f : α -> Bool) (l : List α) (k : Nat) : Bool:=(l.take k).any f
theorem anyTo_zero {α : Type} (f : α -> Bool) (l : List α) : anyTo f l 0 = false:=by simp [anyTo]
theorem anyTo_step {α : Type} {f : α -> Bool} {l : List α} {k : Nat} (h : k < l.length) : anyTo f l (k + 1) = (anyTo f l k || f l[k]):=by
 rw [anyTo,List.take_succ_eq_append_getElem h,List.any_append]; simp [anyTo]
theorem anyTo_all {α : Type} {f : α -> Bool} {l : List α} {k : Nat} (h : l.length <= k) : anyTo f l k = l.any f:=by rw [anyTo,List.take_of_length_le h]
theorem tree_par {ps : List Int} (h : treeB ps = true) (i : Nat) (hi : i < ps.length) : -1 <= ps[i] /\ ps[i] < ps.length:=by
 simp only [treeB,Bool.and_eq_true,List.all_eq_true,List.mem_range] at h
 have:=h.1 i hi
 simp only [treeAt,Bool.and_eq_true,nxP_at hi] at this
 have:=this.1
 simp only [inR,Bool.and_eq_true,decide_eq_true_eq] at this
 omega
theorem path_ne {ps : List Int} {i : Nat} (h : i < ps.length) : 0 < (pathS ps (ps.length + 1) i).length:=by
 rw [path_yes (by simp only [inR,Bool.and_eq_true,decide_eq_true_eq]; omega)]; simp
structure ToI {α : Type} (f : α -> Bool) (l : List α) (i : Nat) : Prop where
 le : i <= l.length
 ok : AllTo f l i
theorem ToI.zero {α : Type} {f : α -> Bool} {l : List α} : ToI f l 0:=⟨by omega,allTo_zero⟩
theorem ToI.step {α : Type} {f : α -> Bool} {l : List α} {i : Nat} (h : ToI f l i) (hi : i < l.length) (e : f l[i] = true) : ToI f l (i + 1):=⟨hi,allTo_step h.ok hi e⟩
theorem ToI.done {α : Type} {f : α -> Bool} {l : List α} {i : Nat} (h : ToI f l i) (hi : l.length <= i) : l.all f = true:=allTo_done h.ok hi
def topV (d : PDec) (v : Nat) : Bool:=decide (topN d.bags d.par (v : Int) d.bags.length = 1)
structure VarI (d : PDec) (n : Nat) (v : Nat) : Prop where
 le : v <= n
 ok : AllTo (topV d) (List.range n) v
theorem VarI.zero {d : PDec} {n : Nat} : VarI d n 0:=⟨by omega,allTo_zero⟩
theorem VarI.step {d : PDec} {n v : Nat} (h : VarI d n v) (hv : v < n) (e : topN d.bags d.par (v : Int) d.bags.length = 1) : VarI d n (v + 1):=⟨hv,allTo_step h.ok (by simpa using hv) (by simpa [topV] using e)⟩
theorem VarI.done {d : PDec} {n v : Nat} (h : VarI d n v) (hv : n <= v) : ((List.range n).all fun v=>decide (topN d.bags d.par (v : Int) d.bags.length = 1)) = true:=allTo_done h.ok (by simpa using hv)
structure PlI (q : PQuery) (d : PDec) (i : Nat) : Prop where
 le : i <= d.bags.length
 ok : AllTo (placeOk q d) (List.range d.bags.length) i
theorem PlI.zero {q : PQuery} {d : PDec} : PlI q d 0:=⟨by omega,allTo_zero⟩
theorem PlI.step {q : PQuery} {d : PDec} {i : Nat} (h : PlI q d i) (hi : i < d.bags.length) (e : placeOk q d i = true) : PlI q d (i + 1):=⟨hi,allTo_step h.ok (by simpa using hi) (by simpa using e)⟩
theorem PlI.done {q : PQuery} {d : PDec} {i : Nat} (h : PlI q d i) (hi : d.bags.length <= i) : (List.range d.bags.length).all (placeOk q d) = true:=allTo_done h.ok (by simpa using hi)
theorem any_ins {q : PQuery} (hq : queryOk q = true) {a : PAtom} (ha : a ∈ q.atoms) (bags : List (List Int)) : (bags.any fun b=>insD a b) = anyIn bags a:=by
 have h1:=queryOk_n5 hq
 have h2 : atomOk q.n a = true:=by
  cases hh : q.atoms.all (atomOk q.n)
  ·simp only [queryOk,hh,Bool.false_and,Bool.and_false] at hq; cases hq
  ·exact (List.all_eq_true.1 hh) a ha
 simp only [anyIn]
 congr 1
 funext b
 exact (inAB_eq h1 h2 b).symm
theorem bl_irr : ∀ (a : List UInt8),Op.bytesLess a a = false
 | []=>rfl
 | x :: r=>by simp [Op.bytesLess,bl_irr r,UInt8.lt_irrefl]
theorem bl_trans : ∀ {a b c : List UInt8},Op.bytesLess a b = true -> Op.bytesLess b c = true -> Op.bytesLess a c = true
 | _,[],_,h,_=>by cases ‹List UInt8› <;> simp [Op.bytesLess] at h
 | _,_ :: _,[],_,h=>by simp [Op.bytesLess] at h
 | [],_ :: _,_ :: _,_,_=>rfl
 | x :: a, y :: b, z :: c, h1, h2 => by
   simp only [Op.bytesLess,Bool.or_eq_true,Bool.and_eq_true,decide_eq_true_eq,beq_iff_eq] at h1 h2 ⊢
   rcases h1 with h1 | ⟨rfl,h1⟩
   ·rcases h2 with h2 | ⟨rfl,h2⟩
    ·exact .inl (UInt8.lt_trans h1 h2)
    ·exact .inl h1
   ·rcases h2 with h2 | ⟨rfl,h2⟩
    ·exact .inl h2
    ·exact .inr ⟨rfl,bl_trans h1 h2⟩
def SrtT (l : List PTab) : Prop:=l.Pairwise fun a b=>Op.bytesLess a.name b.name = true
theorem dbOk_srt {l : List PTab} (h : dbOk ⟨l⟩ = true) : SrtT l:=by
 simp only [dbOk,Bool.and_eq_true,List.all_eq_true,List.mem_range] at h
 have key : ∀ n i,i + n + 1 < l.length -> Op.bytesLess (l.getD i default).name (l.getD (i + n + 1) default).name = true:=by
  intro n
  induction n with
  | zero =>
    intro i hi
    have:=h.2 (i + 1) (by omega)
    simp only [dbAt,Bool.and_eq_true,Bool.or_eq_true,decide_eq_true_eq] at this
    simpa using this.1
  | succ n ih =>
    intro i hi
    have h1:=ih i (by omega)
    have:=h.2 (i + n + 1 + 1) (by omega)
    simp only [dbAt,Bool.and_eq_true,Bool.or_eq_true,decide_eq_true_eq] at this
    have h2 : Op.bytesLess (l.getD (i + n + 1) default).name (l.getD (i + n + 1 + 1) default).name = true:=by simpa using this.1
    exact bl_trans h1 h2
 refine List.pairwise_iff_getElem.2 fun i j hi hj hij=>?_
 have:=key (j - i - 1) i (by omega)
 rw [show i + (j - i - 1) + 1 = j by omega,getD_el _ hi,getD_el _ hj] at this
 exact this
def setK (l : List PTab) (nm : List UInt8) : Nat:=(l.takeWhile fun t=>Op.bytesLess t.name nm).length
def hitK (l : List PTab) (nm : List UInt8) : Bool:=decide (setK l nm < l.length) && decide ((l.getD (setK l nm) default).name = nm)
def setL (l : List PTab) (nm : List UInt8) (r : PReln) : List PTab:=l.take (setK l nm) ++ ⟨nm,r⟩ :: l.drop (if hitK l nm then setK l nm + 1 else setK l nm)
def stS (nm : List UInt8) (r : PReln) (s : List PTab × Bool) (t : PTab) : List PTab × Bool:=
 let s1:=if !s.2 && !(Op.bytesLess t.name nm) then (s.1 ++ [⟨nm,r⟩],true) else s
 if t.name = nm then s1 else (s1.1 ++ [t],s1.2)
def setS (l : List PTab) (nm : List UInt8) (r : PReln) : List PTab:=
 let s:=l.foldl (stS nm r) ([],false)
 if s.2 then s.1 else s.1 ++ [⟨nm,r⟩]
def setB (d : PDb) (nm : List UInt8) (r : PReln) : Bool:=dbOk d && dbOk ⟨setL d.tabs nm r⟩
def setP (d : PDb) (nm : List UInt8) (r : PReln) : PDb:=if setB d nm r then ⟨setL d.tabs nm r⟩ else d
theorem stS_len (nm : List UInt8) (r : PReln) (s : List PTab × Bool) (t : PTab) : (stS nm r s t).1.length <= s.1.length + 2:=by
 simp only [stS]
 repeat' split
 all_goals simp
theorem foldS_len (nm : List UInt8) (r : PReln) : ∀ (l : List PTab) (s : List PTab × Bool),(l.foldl (stS nm r) s).1.length <= s.1.length + 2 * l.length
 | [],s=>by simp
 | t :: l, s => by
   have h1:=foldS_len nm r l (stS nm r s t)
   have h2:=stS_len nm r s t
   simp only [List.foldl_cons,List.length_cons]; omega
structure StI (nm : List UInt8) (r : PReln) (l : List PTab) (p : Nat × List PTab × Bool) : Prop where
 le : p.1 <= l.length
 eq : (l.take p.1).foldl (stS nm r) ([],false) = p.2
theorem StI.zero {nm : List UInt8} {r : PReln} {l : List PTab} : StI nm r l (0,[],false):=⟨by simp,rfl⟩
theorem StI.step {nm : List UInt8} {r : PReln} {l : List PTab} {i : Nat} {s s' : List PTab × Bool} (h : StI nm r l (i,s)) (hi : i < l.length) (e : stS nm r s l[i] = s') : StI nm r l (i + 1,s'):=by
 refine ⟨hi,?_⟩
 have:=h.eq
 simp only at this ⊢
 rw [List.take_succ_eq_append_getElem hi,List.foldl_append,this,List.foldl_cons,List.foldl_nil,e]
theorem StI.len {nm : List UInt8} {r : PReln} {l : List PTab} {i : Nat} {s : List PTab × Bool} (h : StI nm r l (i,s)) : s.1.length <= 2 * i:=by
 have h1:=foldS_len nm r (l.take i) ([],false)
 have h2:=h.eq
 simp only at h2
 rw [h2] at h1
 simp only [List.length_nil,List.length_take] at h1
 omega
theorem StI.done {nm : List UInt8} {r : PReln} {l : List PTab} {i : Nat} {s : List PTab × Bool} (h : StI nm r l (i,s)) (hi : l.length <= i) : setS l nm r = if s.2 then s.1 else s.1 ++ [⟨nm,r⟩]:=by
 have h2:=h.eq
 simp only [List.take_of_length_le hi] at h2
 simp only [setS,h2]
end Go.Vs
namespace Go.Vs
section
variable {α : Type} {c : α -> List D} {wh : α -> Prop}
end
structure KTo (l : List PTab) (nm : List UInt8) (i : Nat) : Prop where
 le : i <= setK l nm
theorem KTo.zero {l : List PTab} {nm : List UInt8} : KTo l nm 0:=⟨by omega⟩
end Go.Vs
namespace Go.Vs
def difD (d : PDb) (x : PDelta) : PReln:=difR (lkR d x.name) (norP d x).del
def appU (d : PDb) (x : PDelta) : PReln:=uniR (difD d x) (norP d x).ins
def appG (d : PDb) (x : PDelta) : Bool:=fitB d x && uniB (difD d x) (norP d x).ins
def appB (d : PDb) (x : PDelta) : Bool:=appG d x && setB d x.name (appU d x)
def appP (d : PDb) (x : PDelta) : PDb:=if appG d x then setP d x.name (appU d x) else d
def runB : PDb -> List PDelta -> Nat -> Option PDb × Nat
 | c,[],k=>(some c,k)
 | c,x :: r,k=>if appB c x then runB (appP c x) r (k + 1) else (none,k)
def batG (d : PDb) (xs : List PDelta) : Bool:=decide (xs.length <= 5) && dbOk d
def batT (d : PDb) (xs : List PDelta) : PDb × Nat × Bool:=
 if batG d xs then match runB d xs 0 with
  | (some c,k)=>(c,k,true)
  | (none,k)=>(d,k,false)
 else (d,0,false)
def batB (d : PDb) (xs : List PDelta) : Bool:=(batT d xs).2.2
theorem app_ok {d : PDb} {x : PDelta} (h : appB d x = true) : dbOk (appP d x) = true:=by
 simp only [appB,Bool.and_eq_true] at h
 have h2:=h.2
 simp only [setB,Bool.and_eq_true] at h2
 simp only [appP,h.1,if_true,setP,h.2]
 exact h2.2
structure RunI (d : PDb) (xs : List PDelta) (i : Nat) (c : PDb) : Prop where
 le : i <= xs.length
 ok : dbOk c = true
 eq : runB c (xs.drop i) i = runB d xs 0
theorem RunI.zero {d : PDb} {xs : List PDelta} (h : dbOk d = true) : RunI d xs 0 d:=⟨by omega,h,rfl⟩
theorem RunI.step {d c : PDb} {xs : List PDelta} {i : Nat} (h : RunI d xs i c) (hi : i < xs.length) (e : appB c xs[i] = true) : RunI d xs (i + 1) (appP c xs[i]):=by
 refine ⟨hi,app_ok e,?_⟩
 have:=h.eq
 rwa [List.drop_eq_getElem_cons hi,runB,e,if_pos rfl] at this
theorem RunI.bad {d c : PDb} {xs : List PDelta} {i : Nat} (h : RunI d xs i c) (hi : i < xs.length) (e : appB c xs[i] = false) : runB d xs 0 = (none,i):=by
 have:=h.eq
 rw [List.drop_eq_getElem_cons hi,runB,e] at this
 exact this.symm
theorem RunI.done {d c : PDb} {xs : List PDelta} {i : Nat} (h : RunI d xs i c) (hi : xs.length <= i) : runB d xs 0 = (some c,i):=by
 have:=h.eq
 rw [List.drop_of_length_le hi,runB] at this
 exact this.symm
def invD (x : PDelta) : PDelta:=⟨x.name,x.del,x.ins⟩
def invL : PDb -> List PDelta -> List PDelta -> List PDelta
 | _,[],acc=>acc
 | c,x :: r,acc=>invL (appP c x) r (invD (norP c x) :: acc)
def invP (d : PDb) (xs : List PDelta) : List PDelta:=if batB d xs then invL d xs [] else []
theorem batB_run {d : PDb} {xs : List PDelta} (h : batB d xs = true) : batG d xs = true /\ ∃ c k,runB d xs 0 = (some c,k):=by
 unfold batB batT at h
 split at h
 ·rename_i hg
  refine ⟨hg,?_⟩
  split at h
  ·rename_i c k e; exact ⟨c,k,e⟩
  ·simp at h
 ·simp at h
structure InvI (d : PDb) (xs : List PDelta) (i : Nat) (c : PDb) (acc : List PDelta) : Prop where
 run : RunI d xs i c
 eq : invL c (xs.drop i) acc = invL d xs []
 len : acc.length = i
theorem InvI.zero {d : PDb} {xs : List PDelta} (h : batB d xs = true) : InvI d xs 0 d []:=by
 have h1:=(batB_run h).1
 simp only [batG,Bool.and_eq_true] at h1
 exact ⟨.zero h1.2,rfl,rfl⟩
theorem InvI.ap {d c : PDb} {xs acc : List PDelta} {i : Nat} (hb : batB d xs = true) (h : InvI d xs i c acc) (hi : i < xs.length) : appB c xs[i] = true:=by
 cases e : appB c xs[i]
 ·have h1:=h.run.bad hi e
  obtain ⟨_,c',k,h2⟩:=batB_run hb
  rw [h1] at h2
  simp at h2
 ·rfl
theorem InvI.step {d c : PDb} {xs acc : List PDelta} {i : Nat} (hb : batB d xs = true) (h : InvI d xs i c acc) (hi : i < xs.length) : InvI d xs (i + 1) (appP c xs[i]) (invD (norP c xs[i]) :: acc):=by
 refine ⟨h.run.step hi (h.ap hb hi),?_,by simp [h.len]⟩
 have:=h.eq
 rwa [List.drop_eq_getElem_cons hi,invL] at this
theorem InvI.done {d c : PDb} {xs acc : List PDelta} {i : Nat} (hb : batB d xs = true) (h : InvI d xs i c acc) (hi : xs.length <= i) : acc = invP d xs:=by
 have:=h.eq
 rw [List.drop_of_length_le hi,invL] at this
 rw [invP,if_pos hb,this]
theorem good_nilS {α : Type} {c : α -> List D} {wh : α -> Prop} (n : Nat) : Good (cS c nilS) (whS wh nilS) n:=
 ⟨by simp [cS,nilS,dSl,idsL,D.ids,idsLL],by simp [cS,nilS,dSl,idsL,D.ids,idsLL],⟨fun _=>rfl,fun h=>absurd rfl h⟩,by simp [nilS]⟩
def cutA (c : UInt8) (acc : List UInt8) : List UInt8 -> List (List UInt8)
 | []=>[acc]
 | x :: r=>if x = c then acc :: cutA c [] r else cutA c (acc ++ [x]) r
def cutB (c : UInt8) (s : List UInt8) : List (List UInt8):=cutA c [] s
structure CutI (c : UInt8) (s : List UInt8) (p : Nat × Nat × List (List UInt8)) : Prop where
 fr : p.1 <= p.2.1
 le : p.2.1 <= s.length
 eq : cutB c s = p.2.2 ++ cutA c ((s.drop p.1).take (p.2.1 - p.1)) (s.drop p.2.1)
 len : p.2.2.length <= p.2.1
theorem CutI.zero {c : UInt8} {s : List UInt8} : CutI c s (0,0,[]):=⟨by simp,by simp,by simp [cutB],by simp⟩
theorem CutI.done {c : UInt8} {s : List UInt8} {f i : Nat} {out : List (List UInt8)} (h : CutI c s (f,i,out)) (hi : s.length <= i) : out ++ [(s.drop f).take (i - f)] = cutB c s /\ (s.drop f).take (i - f) = s.drop f /\ i = s.length:=by
 have hl:=h.le
 have:=h.eq
 simp only at hl this
 rw [List.drop_of_length_le hi,cutA] at this
 exact ⟨this.symm,List.take_of_length_le (by rw [List.length_drop]; omega),by omega⟩
def isDg (b : UInt8) : Bool:=decide (48 <= b.toNat) && decide (b.toNat <= 57)
def digF (p : Int × Nat) (b : UInt8) : Int × Nat:=if isDg b then (p.1 * 10 + ((b.toNat : Int) - 48),p.2 + 1) else p
def digs (s : List UInt8) : Int × Nat:=s.foldl digF (0,0)
def prsV (s : List UInt8) : Int:=if s.head? = some 45 then -(digs (s.take 11)).1 else (digs (s.take 11)).1
def prsZ (s : List UInt8) : Option Int:=if (digs (s.take 11)).2 <= 9 /\ s.length <= 10 /\ decZ (prsV s) = s then some (prsV s) else none
def prsN (s : List UInt8) : Int:=(prsZ s).getD 0
def inTx (x : List UInt8) : List UInt8:=(x.drop 1).take (x.length - 2)
def rowTx (x : List UInt8) : List Int:=if 2 < x.length then (cutB 44 (inTx x)).map prsN else []
def preRel (s : List UInt8) : PReln:=
 ⟨prsN ((cutB 58 s).getD 0 []),if (cutB 58 s).length = 2 /\ (cutB 58 s).getD 1 [] ≠ [] then (cutB 32 ((cutB 58 s).getD 1 [])).map rowTx else []⟩
def prsB (s : List UInt8) : Bool:=decide (fmtRel (preRel s) = s) && decide (s ≠ [])
def prsR (s : List UInt8) : PReln:=if prsB s then preRel s else ⟨0,[]⟩
def rdF (k : List PFile) (nm : List UInt8) : Option (List UInt8):=(k.find? fun f=>decide (f.name = nm)).map (·.data)
def rdD (k : List PFile) (nm : List UInt8) : List UInt8:=(rdF k nm).getD []
def rdB (k : List PFile) (nm : List UInt8) : Bool:=(rdF k nm).isSome
structure RdI (k : List PFile) (nm : List UInt8) (i : Nat) : Prop where
 le : i <= k.length
 eq : rdF (k.drop i) nm = rdF k nm
theorem RdI.zero {k : List PFile} {nm : List UInt8} : RdI k nm 0:=⟨by omega,rfl⟩
theorem RdI.done {k : List PFile} {nm : List UInt8} {i : Nat} (h : RdI k nm i) (hi : k.length <= i) : rdF k nm = none:=by
 rw [<- h.eq,List.drop_of_length_le hi]; rfl
def dskAt (l : List PFile) (j : Nat) : Bool:=decide (j = 0) || Op.bytesLess (l.getD (j - 1) default).name (l.getD j default).name
def dskOk (l : List PFile) : Bool:=(List.range l.length).all (dskAt l)
structure DskI (l : List PFile) (i : Nat) : Prop where
 lo : 1 <= i
 ok : ∀ j,j < i -> j < l.length -> dskAt l j = true
theorem DskI.one {l : List PFile} : DskI l 1:=⟨by omega,fun j h1 _=>by simp [dskAt,show j = 0 by omega]⟩
theorem DskI.step {l : List PFile} {i : Nat} (h : DskI l i) (e : dskAt l i = true) : DskI l (i + 1):=
 ⟨by omega,fun j h1 h2=>by
  by_cases hj : j < i
  ·exact h.ok j hj h2
  ·rw [show j = i by omega]; exact e⟩
theorem DskI.done {l : List PFile} {i : Nat} (h : DskI l i) (hi : l.length <= i) : dskOk l = true:=by
 simp only [dskOk,List.all_eq_true,List.mem_range]
 exact fun j hj=>h.ok j (by omega) hj
def hdNm (v : Int) : List UInt8:=[109] ++ decZ v
def lnNm (ln : List UInt8) : List UInt8:=(cutB 61 ln).getD 0 []
def tabO (k : List PFile) (v : Int) (ln : List UInt8) : Option PTab:=if rdB k (runNm v (lnNm ln)) && prsB (rdD k (runNm v (lnNm ln))) then some ⟨lnNm ln,prsR (rdD k (runNm v (lnNm ln)))⟩ else none
def lnCk (ln s : List UInt8) : Bool:=decide ((cutB 61 ln).length = 2) && decide (decZ (ckS s) = (cutB 61 ln).getD 1 [])
def tabS (k : List PFile) (v : Int) (ln : List UInt8) : Option PTab:=if lnCk ln (rdD k (runNm v (lnNm ln))) then tabO k v ln else none
def tabsM (f : List UInt8 -> Option PTab) : List (List UInt8) -> Option (List PTab)
 | []=>some []
 | x :: r => match f x with
   | none=>none
   | some t=>(tabsM f r).map (t :: ·)
structure TbI (f : List UInt8 -> Option PTab) (ls : List (List UInt8)) (i : Nat) (acc : List PTab) : Prop where
 le : i <= ls.length
 eq : tabsM f ls = (tabsM f (ls.drop i)).map (acc ++ ·)
 len : acc.length = i
theorem TbI.zero {f : List UInt8 -> Option PTab} {ls : List (List UInt8)} : TbI f ls 0 []:=⟨by omega,by simp,rfl⟩
theorem TbI.step {f : List UInt8 -> Option PTab} {ls : List (List UInt8)} {i : Nat} {acc : List PTab} (h : TbI f ls i acc) (hi : i < ls.length) {t : PTab} (e : f ls[i] = some t) : TbI f ls (i + 1) (acc ++ [t]):=by
 refine ⟨hi,?_,by simp [h.len]⟩
 rw [h.eq,List.drop_eq_getElem_cons hi,tabsM,e]
 simp only [Option.map_map,Function.comp_def,List.append_assoc,List.singleton_append]
theorem TbI.bad {f : List UInt8 -> Option PTab} {ls : List (List UInt8)} {i : Nat} {acc : List PTab} (h : TbI f ls i acc) (hi : i < ls.length) (e : f ls[i] = none) : tabsM f ls = none:=by
 rw [h.eq,List.drop_eq_getElem_cons hi,tabsM,e]; rfl
theorem TbI.done {f : List UInt8 -> Option PTab} {ls : List (List UInt8)} {i : Nat} {acc : List PTab} (h : TbI f ls i acc) (hi : ls.length <= i) : tabsM f ls = some acc:=by
 rw [h.eq,List.drop_of_length_le hi,tabsM]; simp
def lns (h : List UInt8) : List (List UInt8):=(cutB 10 h).dropLast
def headEq (ts : List PTab) (h : List UInt8) : Bool:=decide (headTx ts ++ decZ (ckS (headTx ts)) = h)
def loadS (k : List PFile) (v : Int) : Option PDb:=
 if rdB k (hdNm v) then match tabsM (tabS k v) (lns (rdD k (hdNm v))) with
  | none=>none
  | some ts=>if verB ⟨ts⟩ v && headEq ts (rdD k (hdNm v)) then some ⟨ts⟩ else none
 else none
def newF (k : List PFile) : Nat -> Nat
 | 0=>0
 | n + 1=>if (loadS k ((n + 1 : Nat) : Int)).isSome then n + 1 else newF k n
def newV (k : List PFile) : Nat:=newF k 99
def recP (k : List PFile) : PDb:=if newV k = 0 then ⟨[]⟩ else (loadS k (newV k)).getD ⟨[]⟩
def recB (k : List PFile) : Bool:=decide (newV k ≠ 0)
structure NewI (k : List PFile) (v : Nat) : Prop where
 le : v <= 99
 eq : newF k v = newV k
theorem NewI.zero {k : List PFile} (h : NewI k 0) : newV k = 0 /\ recP k = ⟨[]⟩ /\ recB k = false:=by
 have h1 : newV k = 0:=by rw [<- h.eq]; rfl
 exact ⟨h1,by rw [recP,if_pos h1],by simp [recB,h1]⟩
def wrA (n : PFile) : Bool -> List PFile -> List PFile
 | done,[]=>if done then [] else [n]
 | done,f :: r=>(if !done && !Op.bytesLess f.name n.name then [n] else []) ++ (if f.name = n.name then [] else [f]) ++ wrA n (done || !Op.bytesLess f.name n.name) r
def wrF (k : List PFile) (n : PFile) : List PFile:=wrA n false k
structure WrI (k : List PFile) (n : PFile) (p : Nat × Bool × List PFile) : Prop where
 le : p.1 <= k.length
 eq : wrF k n = p.2.2 ++ wrA n p.2.1 (k.drop p.1)
 len : p.2.2.length <= p.1 + (if p.2.1 then 1 else 0)
theorem WrI.zero {k : List PFile} {n : PFile} : WrI k n (0,false,[]):=⟨by simp,by simp [wrF],by simp⟩
theorem WrI.step {k : List PFile} {n : PFile} {i : Nat} {b : Bool} {out : List PFile} (h : WrI k n (i,b,out)) (hi : i < k.length) :
  WrI k n (i + 1,b || !Op.bytesLess k[i].name n.name,out ++ ((if !b && !Op.bytesLess k[i].name n.name then [n] else []) ++ (if k[i].name = n.name then [] else [k[i]]))):=by
 refine ⟨hi,?_,?_⟩
 ·have:=h.eq
  simp only at this ⊢
  rw [this,List.drop_eq_getElem_cons hi,wrA]
  simp only [List.append_assoc]
 ·have:=h.len
  simp only [List.length_append] at this ⊢
  have h2 : (if k[i].name = n.name then ([] : List PFile) else [k[i]]).length <= 1:=by split <;> simp
  cases b <;> cases Op.bytesLess k[i].name n.name <;> simp at this ⊢ <;> omega
theorem WrI.done {k : List PFile} {n : PFile} {i : Nat} {b : Bool} {out : List PFile} (h : WrI k n (i,b,out)) (hi : k.length <= i) : wrF k n = out ++ (if b then [] else [n]):=by
 have:=h.eq
 simp only at this
 rw [this,List.drop_of_length_le hi,wrA]
theorem bl_ne {a b : List UInt8} (h : Op.bytesLess a b = true) : a ≠ b:=fun e=>by rw [e,bl_irr] at h; cases h
structure SplT (l A B : List PTab) (nm : List UInt8) (r : PReln) : Prop where
 eq : l = A ++ ⟨nm,r⟩ :: B
 lo : ∀ t ∈ A,Op.bytesLess t.name nm = true
 hi : ∀ t ∈ B,Op.bytesLess nm t.name = true
theorem lk_db {d : PDb} {nm : List UInt8} (h : lkB d nm = true) : dbOk d = true:=by
 cases hd : dbOk d
 ·rw [(lk_no hd).1] at h; cases h
 ·rfl
theorem lk_split {d : PDb} {nm : List UInt8} (h : lkB d nm = true) : ∃ A B,SplT d.tabs A B nm (lkR d nm):=by
 have hd:=lk_db h
 cases hT : lkT d nm with
 | none=>rw [lkB,hT] at h; cases h
 | some r =>
   have hr : lkR d nm = r:=by rw [lkR,hT]; rfl
   rw [hr]
   rw [lkT,if_pos hd] at hT
   obtain ⟨t,ht,rfl⟩:=Option.map_eq_some_iff.1 hT
   have hn : t.name = nm:=by simpa using List.find?_some ht
   obtain ⟨A,B,hl⟩:=List.append_of_mem (List.mem_of_find?_eq_some ht)
   have hs:=dbOk_srt (l:=d.tabs) hd
   rw [hl] at hs
   have hp:=List.pairwise_append.1 hs
   refine ⟨A,B,?_,fun u hu=>?_,fun u hu=>?_⟩
   ·rw [hl,<- hn]
   ·rw [<- hn]; exact hp.2.2 u hu t (by simp)
   ·rw [<- hn]; exact (List.pairwise_cons.1 hp.2.1).1 u hu
theorem tw_app {α : Type} {p : α -> Bool} {A B : List α} {t : α} (hA : ∀ a ∈ A,p a = true) (ht : p t = false) : (A ++ t :: B).takeWhile p = A:=by
 induction A with
 | nil=>simp [ht]
 | cons a r ih=>rw [List.cons_append,List.takeWhile_cons,hA a (by simp),if_pos rfl,ih fun b hb=>hA b (List.mem_cons_of_mem _ hb)]
theorem SplT.set {l A B : List PTab} {nm : List UInt8} {r : PReln} (h : SplT l A B nm r) (u : PReln) : setL l nm u = A ++ ⟨nm,u⟩ :: B:=by
 have hk : setK l nm = A.length:=by rw [setK,h.eq,tw_app h.lo (bl_irr nm)]
 have hh : hitK l nm = true:=by
  rw [hitK,hk,h.eq]
  simp [List.getD]
 rw [setL,hk,hh,h.eq]
 simp
theorem SplT.lk {l A B : List PTab} {nm : List UInt8} {r : PReln} (h : SplT l A B nm r) (hd : dbOk ⟨l⟩ = true) : lkB ⟨l⟩ nm = true /\ lkR ⟨l⟩ nm = r:=by
 have hA : A.find? (fun t=>t.name == nm) = none:=by
  rw [List.find?_eq_none]; intro t ht e
  exact bl_ne (h.lo t ht) (by simpa using e)
 have hT : lkT ⟨l⟩ nm = some r:=by
  rw [lkT,if_pos hd]
  simp only
  rw [h.eq,List.find?_append,hA]
  simp
 exact ⟨by rw [lkB,hT]; rfl,by rw [lkR,hT]; rfl⟩
theorem SplT.put {l A B : List PTab} {nm : List UInt8} {r : PReln} (h : SplT l A B nm r) (u : PReln) : SplT (setL l nm u) A B nm u:=⟨h.set u,h.lo,h.hi⟩
theorem dbOk_of {l : List PTab} (h1 : l.length <= 6) (h2 : SrtT l) (h3 : ∀ t ∈ l,tabOk t = true) : dbOk ⟨l⟩ = true:=by
 simp only [dbOk,Bool.and_eq_true,decide_eq_true_eq,List.all_eq_true,List.mem_range]
 refine ⟨h1,fun i hi=>?_⟩
 rw [dbAt_eq hi,h3 _ (List.getElem_mem hi),Bool.and_true]
 by_cases h0 : i = 0
 ·simp [h0]
 ·have:=List.pairwise_iff_getElem.1 h2 (i - 1) i (by omega) hi (by omega)
  simp [this]
theorem SplT.ok {l A B : List PTab} {nm : List UInt8} {r u : PReln} (h : SplT l A B nm r) (hd : dbOk ⟨l⟩ = true) (hu : tabOk ⟨nm,u⟩ = true) : dbOk ⟨setL l nm u⟩ = true:=by
 have hlen:=dbOk_len hd
 have hs:=dbOk_srt hd
 have hm : ∀ t ∈ l,tabOk t = true:=fun t ht=>dbOk_tab hd ht
 have e:=h.eq
 rw [h.set u]
 rw [e] at hs hm hlen
 simp only at hlen
 refine dbOk_of (by simpa using hlen) ?_ fun t ht=>?_
 ·have hp:=List.pairwise_append.1 hs
  refine List.pairwise_append.2 ⟨hp.1,List.pairwise_cons.2 ⟨fun t ht=>h.hi t ht,(List.pairwise_cons.1 hp.2.1).2⟩,fun a ha b hb=>?_⟩
  rcases List.mem_cons.1 hb with hb | hb
  ·subst hb; exact h.lo a ha
  ·exact hp.2.2 a ha b (List.mem_cons_of_mem _ hb)
 ·rcases List.mem_append.1 ht with ht | ht
  ·exact hm t (by simp [ht])
  ·rcases List.mem_cons.1 ht with ht | ht
   ·subst ht; exact hu
   ·exact hm t (by simp [ht])
theorem SplT.tab {l A B : List PTab} {nm : List UInt8} {r : PReln} (h : SplT l A B nm r) (hd : dbOk ⟨l⟩ = true) : tabOk ⟨nm,r⟩ = true:=
 dbOk_tab hd (t:=⟨nm,r⟩) (by rw [h.eq]; simp)
def lookV (a r : List Int) (v : Int) : Int:=r.getD (idxL a v).toNat 0
def aVars (vs : List Int) : List Int:=(rangeI 5).filter fun v=>vs.contains v
def fitR (vs row : List Int) : Bool:=decide (vs.map (lookV vs row) = row)
def valL (vs row : List Int) : List Int:=(vs.zip row).foldl (fun val p=>val.set p.1.toNat p.2) (List.replicate 5 0)
def abL (vs : List Int) (rows : List (List Int)) : List (List Int):=(rows.filter (fitR vs)).map fun row=>pickR (aVars vs) (valL vs row)
def abR (d : PDb) (a : PAtom) : List (List Int):=srtU (abL a.vars (lkR d a.rel).rows)
def insI (l : List Int) (n : Int) : List Int:=
 if (l.getD (l.takeWhile fun x=>decide (x < n)).length (n + 1)) = n then l else l.take (l.takeWhile fun x=>decide (x < n)).length ++ n :: l.drop (l.takeWhile fun x=>decide (x < n)).length
def uniL (a b : List Int) : List Int:=b.foldl insI a
def glV (a r b s : List Int) (v : Int) : Bool:=!(a.contains v && b.contains v && !decide (lookV a r v = lookV b s v))
def glB (u a r b s : List Int) : Bool:=u.all (glV a r b s)
def glR (u a r b s : List Int) : List Int:=u.map fun v=>if a.contains v then lookV a r v else lookV b s v
def glO (u a r b s : List Int) : Option (List Int):=if glB u a r b s then some (glR u a r b s) else none
def joinL (u a : List Int) (rows : List (List Int)) (b : List Int) (list : List (List Int)) : List (List Int):=rows.flatMap fun r=>list.filterMap fun s=>glO u a r b s
def joinS (d : PDb) (p : List Int × List (List Int)) (a : PAtom) : List Int × List (List Int):=(uniL p.1 (aVars a.vars),joinL (uniL p.1 (aVars a.vars)) p.1 p.2 (aVars a.vars) (abR d a))
def binds (d : PDb) (l : List PAtom) : List Int × List (List Int):=l.foldl (joinS d) ([],[[]])
def qryFor (d : PDb) (q : PQuery) : Bool:=queryOk q && dbOk d && q.atoms.all fun a=>lkB d a.rel && decide ((lkR d a.rel).ar = a.vars.length)
def asgO : List Int -> List (Int × Int) -> Option (List Int)
 | x,[]=>some x
 | x,(v,y) :: r=>if x.getD v.toNat 0 = -1 \/ x.getD v.toNat 0 = y then asgO (x.set v.toNat y) r else none
theorem idxL_mem {l : List Int} {v : Int} (h : v ∈ l) : (idxL l v).toNat < l.length /\ l.getD (idxL l v).toNat 0 = v:=by
 rw [idxL,if_pos h]
 simp only [Int.toNat_natCast]
 induction l with
 | nil=>cases h
 | cons x r ih =>
   by_cases hx : x = v
   ·subst hx; simp
   ·have hr : v ∈ r:=(List.mem_cons.1 h).resolve_left fun e=>hx e.symm
    have:=ih hr
    have hb : (!(x == v)) = true:=by simp [hx]
    have e : (x :: r).takeWhile (fun x=>!(x == v)) = x :: r.takeWhile (fun x=>!(x == v)):=by rw [List.takeWhile_cons,if_pos hb]
    rw [e]
    simp only [List.length_cons,List.getD_cons_succ]
    exact ⟨by omega,this.2⟩
theorem lookV_map {a : List Int} (β : Int -> Int) {v : Int} (h : v ∈ a) : lookV a (a.map β) v = β v:=by
 obtain ⟨h1,h2⟩:=idxL_mem h
 rw [lookV]
 have : (a.map β).getD (idxL a v).toNat 0 = β (a.getD (idxL a v).toNat 0):=by
  simp [List.getD,h1]
 rw [this,h2]
theorem idxL_self : ∀ {a : List Int},a.Nodup -> ∀ i (h : i < a.length),(idxL a a[i]).toNat = i:=by
 intro a ha i h
 obtain ⟨h1,h2⟩:=idxL_mem (List.getElem_mem h)
 have h3 : a[(idxL a a[i]).toNat] = a[i]:=by
  have:=h2
  rwa [getD_el _ h1] at this
 exact (List.getElem_inj ha).1 h3
theorem map_lookV {a r : List Int} (ha : a.Nodup) (hl : r.length = a.length) : a.map (lookV a r) = r:=by
 refine List.ext_getElem (by simp [hl]) fun i h1 h2=>?_
 rw [List.getElem_map,lookV,idxL_self ha i (by simpa using h1),getD_el _ h2]
theorem map_congr_mem {a : List Int} {f g : Int -> Int} : a.map f = a.map g ↔ ∀ v ∈ a,f v = g v:=List.map_inj_left
theorem aVars_mem {vs : List Int} {v : Int} : v ∈ aVars vs ↔ v ∈ vs /\ 0 <= v /\ v < 5:=by
 rw [aVars,List.mem_filter]
 simp only [rangeI,List.mem_map,List.mem_range,List.contains_iff_mem]
 constructor
 ·rintro ⟨⟨k,hk,rfl⟩,h⟩; exact ⟨h,by omega,by omega⟩
 ·rintro ⟨h,h0,h1⟩; exact ⟨⟨v.toNat,by omega,by omega⟩,h⟩
theorem rangeI_pw (n : Nat) : (rangeI n).Pairwise (· < ·):=by
 rw [rangeI,List.pairwise_map]
 exact List.pairwise_lt_range.imp fun h=>by omega
theorem aVars_pw (vs : List Int) : (aVars vs).Pairwise (· < ·):=List.Pairwise.filter _ (rangeI_pw 5)
theorem pw_nodup {l : List Int} (h : l.Pairwise (· < ·)) : l.Nodup:=h.imp fun h=>by omega
theorem val_step {vs row : List Int} (val : List Int) (β : Int -> Int) (hr : row = vs.map β) (hv : ∀ v ∈ vs,0 <= v /\ v < 5) (hl : val.length = 5) :
  ((vs.zip row).foldl (fun val p=>val.set p.1.toNat p.2) val).length = 5 /\ ∀ u : Int,0 <= u -> u < 5 -> ((vs.zip row).foldl (fun val p=>val.set p.1.toNat p.2) val).getD u.toNat 0 = if u ∈ vs then β u else val.getD u.toNat 0:=by
 subst hr
 induction vs generalizing val with
 | nil=>simp [hl]
 | cons w r ih =>
   simp only [List.map_cons,List.zip_cons_cons,List.foldl_cons]
   have hw:=hv w (by simp)
   have:=ih (val.set w.toNat (β w)) (fun v hm=>hv v (List.mem_cons_of_mem _ hm)) (by simp [hl])
   refine ⟨this.1,fun u h0 h5=>?_⟩
   rw [this.2 u h0 h5]
   by_cases h1 : u ∈ r
   ·simp [h1]
   ·by_cases h2 : u = w
    ·subst h2
     simp only [h1,if_false,List.mem_cons,true_or,if_true]
     simp [List.getD,List.getElem?_set,hl,show u.toNat < 5 by omega]
    ·have h3 : u ∉ w :: r:=by simp [h1,h2]
     rw [if_neg h1,if_neg h3]
     have : w.toNat ≠ u.toNat:=by omega
     simp [List.getD,List.getElem?_set,this]
theorem val_pick {vs row : List Int} (β : Int -> Int) (hr : row = vs.map β) (hv : ∀ v ∈ vs,0 <= v /\ v < 5) : pickR (aVars vs) (valL vs row) = (aVars vs).map β:=by
 rw [pickR]
 refine map_congr_mem.2 fun u hu=>?_
 obtain ⟨h1,h2,h3⟩:=aVars_mem.1 hu
 rw [valL,(val_step (List.replicate 5 0) β hr hv (by simp)).2 u h2 h3,if_pos h1]
theorem ab_mem {vs : List Int} {rows : List (List Int)} (hv : ∀ v ∈ vs,0 <= v /\ v < 5) (β : Int -> Int) : (aVars vs).map β ∈ srtU (abL vs rows) ↔ vs.map β ∈ rows:=by
 rw [srtU_mem,abL,List.mem_map]
 constructor
 ·rintro ⟨row,hrow,e⟩
  obtain ⟨h1,h2⟩:=List.mem_filter.1 hrow
  have hf : row = vs.map (lookV vs row):=(of_decide_eq_true h2).symm
  rw [val_pick (lookV vs row) hf hv] at e
  have he:=map_congr_mem.1 e
  have : vs.map β = row:=by
   rw [hf]
   refine map_congr_mem.2 fun v hm=>?_
   exact (he v (aVars_mem.2 ⟨hm,hv v hm⟩)).symm
  rw [this]; exact h1
 ·intro h
  refine ⟨vs.map β,List.mem_filter.2 ⟨h,decide_eq_true ?_⟩,val_pick β rfl hv⟩
  exact map_congr_mem.2 fun v hm=>lookV_map β hm
theorem ab_len {vs : List Int} {rows : List (List Int)} : ∀ s ∈ srtU (abL vs rows),s.length = (aVars vs).length:=fun s hs=>by
 rw [srtU_mem,abL,List.mem_map] at hs
 obtain ⟨row,_,rfl⟩:=hs
 exact pickR_len _ _
theorem insI_pw {l : List Int} (h : l.Pairwise (· < ·)) (n : Int) : (insI l n).Pairwise (· < ·) /\ ∀ x,x ∈ insI l n ↔ x ∈ l \/ x = n:=by
 induction l with
 | nil =>
   have e : insI [] n = [n]:=by
    have : ([] : List Int).getD 0 (n + 1) ≠ n:=by simp [List.getD]; omega
    simp only [insI,List.takeWhile_nil,List.length_nil,if_neg this,List.take_nil,List.drop_nil,List.nil_append]
   rw [e]; simp
 | cons a r ih =>
   have hp:=List.pairwise_cons.1 h
   have ih:=ih hp.2
   by_cases h1 : a < n
   ·have e : insI (a :: r) n = a :: insI r n:=by
     simp only [insI,List.takeWhile_cons,decide_eq_true h1,if_true,List.length_cons,List.getD_cons_succ,List.take_succ_cons,List.drop_succ_cons]
     split <;> simp
    rw [e]
    refine ⟨List.pairwise_cons.2 ⟨fun x hx=>?_,ih.1⟩,fun x=>?_⟩
    ·rcases (ih.2 x).1 hx with hx | hx
     ·exact hp.1 x hx
     ·omega
    ·rw [List.mem_cons,ih.2,List.mem_cons,or_assoc]
   ·have e0 : (List.takeWhile (fun x=>decide (x < n)) (a :: r)).length = 0:=by simp [List.takeWhile_cons,h1]
    by_cases h2 : a = n
    ·subst h2
     have e : insI (a :: r) a = a :: r:=by simp [insI,e0]
     rw [e]
     exact ⟨h,fun x=>by simp; intro hx; exact .inl hx⟩
    ·have e : insI (a :: r) n = n :: a :: r:=by simp [insI,e0,h2]
     rw [e]
     refine ⟨List.pairwise_cons.2 ⟨fun x hx=>?_,h⟩,fun x=>by simp [or_comm]⟩
     rcases List.mem_cons.1 hx with hx | hx
     ·omega
     ·have:=hp.1 x hx; omega
theorem uniL_pw : ∀ (b : List Int) {a : List Int},a.Pairwise (· < ·) -> (uniL a b).Pairwise (· < ·) /\ ∀ x,x ∈ uniL a b ↔ x ∈ a \/ x ∈ b
 | [],a,h=>⟨h,by simp [uniL]⟩
 | n :: b, a, h => by
   have h1:=insI_pw h n
   have h2:=uniL_pw b h1.1
   refine ⟨h2.1,fun x=>?_⟩
   have : uniL a (n :: b) = uniL (insI a n) b:=rfl
   rw [this,h2.2,h1.2,List.mem_cons,or_assoc]
theorem pw_ext : ∀ {l l' : List Int},l.Pairwise (· < ·) -> l'.Pairwise (· < ·) -> (∀ x,x ∈ l ↔ x ∈ l') -> l = l'
 | [],[],_,_,_=>rfl
 | [],b :: s,_,_,h=>by have:=(h b).2 (by simp); simp at this
 | a :: r,[],_,_,h=>by have:=(h a).1 (by simp); simp at this
 | a :: r, b :: s, h1, h2, h => by
   have p1:=List.pairwise_cons.1 h1
   have p2:=List.pairwise_cons.1 h2
   have hab : a = b:=by
    rcases List.mem_cons.1 ((h a).1 (by simp)) with e | e
    ·exact e
    ·rcases List.mem_cons.1 ((h b).2 (by simp)) with e' | e'
     ·exact e'.symm
     ·have:=p2.1 a e; have:=p1.1 b e'; omega
   subst hab
   congr 1
   refine pw_ext p1.2 p2.2 fun x=>?_
   have hx:=h x
   simp only [List.mem_cons] at hx
   constructor
   ·intro hm
    rcases hx.1 (.inr hm) with e | e
    ·have:=p1.1 x hm; omega
    ·exact e
   ·intro hm
    rcases hx.2 (.inr hm) with e | e
    ·have:=p2.1 x hm; omega
    ·exact e
theorem join_mem {u a b : List Int} {rows list : List (List Int)} (ha : a.Nodup) (hb : b.Nodup) (hu : ∀ x,x ∈ u ↔ x ∈ a \/ x ∈ b) (hr : ∀ r ∈ rows,r.length = a.length) (hs : ∀ s ∈ list,s.length = b.length) (β : Int -> Int) :
  u.map β ∈ joinL u a rows b list ↔ a.map β ∈ rows /\ b.map β ∈ list:=by
 simp only [joinL,List.mem_flatMap,List.mem_filterMap,glO]
 constructor
 ·rintro ⟨r,hrm,s,hsm,h⟩
  split at h
  ·rename_i hg
   simp only [Option.some.injEq,glR] at h
   have he:=map_congr_mem.1 h
   have hgv : ∀ v ∈ u,v ∈ a -> v ∈ b -> lookV a r v = lookV b s v:=fun v h1 h2 h3=>by
    have:=(List.all_eq_true.1 hg) v h1
    simpa [glV,List.contains_iff_mem,h2,h3] using this
   have e1 : ∀ v ∈ a,lookV a r v = β v:=fun v hv=>by
    have:=he v ((hu v).2 (.inl hv))
    simpa [List.contains_iff_mem,hv] using this
   have e2 : ∀ v ∈ b,lookV b s v = β v:=fun v hv=>by
    by_cases hva : v ∈ a
    ·rw [<- hgv v ((hu v).2 (.inr hv)) hva hv]; exact e1 v hva
    ·have:=he v ((hu v).2 (.inr hv))
     simpa [List.contains_iff_mem,hva] using this
   have f1 : a.map β = r:=by rw [<- map_lookV ha (hr r hrm)]; exact map_congr_mem.2 fun v hv=>(e1 v hv).symm
   have f2 : b.map β = s:=by rw [<- map_lookV hb (hs s hsm)]; exact map_congr_mem.2 fun v hv=>(e2 v hv).symm
   rw [f1,f2]; exact ⟨hrm,hsm⟩
  ·cases h
 ·rintro ⟨h1,h2⟩
  refine ⟨a.map β,h1,b.map β,h2,?_⟩
  rw [if_pos]
  ·simp only [Option.some.injEq,glR]
   refine map_congr_mem.2 fun v hv=>?_
   by_cases hva : v ∈ a
   ·simp only [List.contains_iff_mem,hva,if_true]; exact lookV_map β hva
   ·have hvb:=((hu v).1 hv).resolve_left hva
    simp only [List.contains_iff_mem,hva,if_false]; exact lookV_map β hvb
  ·refine List.all_eq_true.2 fun v hv=>?_
   by_cases hva : v ∈ a
   ·by_cases hvb : v ∈ b
    ·simp [glV,lookV_map β hva,lookV_map β hvb]
    ·simp [glV,List.contains_iff_mem,hvb]
   ·simp [glV,List.contains_iff_mem,hva]
theorem join_len {u a b : List Int} {rows list : List (List Int)} : ∀ x ∈ joinL u a rows b list,x.length = u.length:=fun x hx=>by
 simp only [joinL,List.mem_flatMap,List.mem_filterMap,glO] at hx
 obtain ⟨r,_,s,_,h⟩:=hx
 split at h
 ·simp only [Option.some.injEq] at h
  rw [<- h,glR,List.length_map]
 ·cases h
structure Jn (d : PDb) (as : List PAtom) (p : List Int × List (List Int)) : Prop where
 pw : p.1.Pairwise (· < ·)
 mem : ∀ x,x ∈ p.1 ↔ x ∈ varsIn as
 len : ∀ r ∈ p.2,r.length = p.1.length
 iff : ∀ β : Int -> Int,p.1.map β ∈ p.2 ↔ ∀ a ∈ as,a.vars.map β ∈ (lkR d a.rel).rows
theorem Jn.zero (d : PDb) : Jn d [] ([],[[]]):=⟨.nil,by simp [varsIn],by simp,by simp⟩
theorem Jn.step {d : PDb} {as : List PAtom} {p : List Int × List (List Int)} (h : Jn d as p) {a : PAtom} (hv : ∀ v ∈ a.vars,0 <= v /\ v < 5) : Jn d (as ++ [a]) (joinS d p a):=by
 have hu:=uniL_pw (aVars a.vars) h.pw
 have hab : ∀ x,x ∈ uniL p.1 (aVars a.vars) ↔ x ∈ p.1 \/ x ∈ aVars a.vars:=hu.2
 refine ⟨hu.1,fun x=>?_,join_len,fun β=>?_⟩
 ·show x ∈ uniL p.1 (aVars a.vars) ↔ _
  rw [hab,h.mem,varsIn,varsIn,List.flatMap_append,List.mem_append,aVars_mem]
  simp only [List.flatMap_cons,List.flatMap_nil,List.append_nil]
  constructor
  ·rintro (h | h)
   ·exact .inl h
   ·exact .inr h.1
  ·rintro (h | h)
   ·exact .inl h
   ·exact .inr ⟨h,hv x h⟩
 ·show (uniL p.1 (aVars a.vars)).map β ∈ joinL (uniL p.1 (aVars a.vars)) p.1 p.2 (aVars a.vars) (abR d a) ↔ _
  have hl : ∀ s ∈ abR d a,s.length = (aVars a.vars).length:=ab_len
  rw [join_mem (pw_nodup h.pw) (pw_nodup (aVars_pw a.vars)) hab h.len hl,h.iff,abR,ab_mem hv]
  simp only [List.mem_append,List.mem_singleton]
  constructor
  ·rintro ⟨h1,h2⟩ b (hb | rfl)
   ·exact h1 b hb
   ·exact h2
  ·exact fun h=>⟨fun b hb=>h b (.inl hb),h a (.inr rfl)⟩
theorem Jn.all {d : PDb} : ∀ (l as : List PAtom) (p : List Int × List (List Int)),Jn d as p -> (∀ a ∈ l,∀ v ∈ a.vars,0 <= v /\ v < 5) -> Jn d (as ++ l) (l.foldl (joinS d) p)
 | [],as,p,h,_=>by simpa using h
 | a :: l, as, p, h, hv => by
   have:=Jn.all l (as ++ [a]) (joinS d p a) (h.step (hv a (by simp))) fun b hb=>hv b (List.mem_cons_of_mem _ hb)
   simpa using this
theorem getD_set_ne {x : List Int} {i j : Nat} {y : Int} (h : i ≠ j) : (x.set i y).getD j 0 = x.getD j 0:=by simp [List.getD,List.getElem?_set,h]
structure Qf (d : PDb) (q : PQuery) : Prop where
 qok : queryOk q = true
 dok : dbOk d = true
 n5 : 1 <= q.n /\ q.n <= 5
 a4 : 1 <= q.atoms.length /\ q.atoms.length <= 4
 vin : ∀ a ∈ q.atoms,∀ v ∈ a.vars,0 <= v /\ v < q.n
 vlen : ∀ a ∈ q.atoms,1 <= a.vars.length /\ a.vars.length <= 5
 lk : ∀ a ∈ q.atoms,lkB d a.rel = true
 ar : ∀ a ∈ q.atoms,(lkR d a.rel).ar = a.vars.length
 all : ∀ j : Int,0 <= j -> j < q.n -> j ∈ varsIn q.atoms
theorem qf_of {d : PDb} {q : PQuery} (h : qryFor d q = true) : Qf d q:=by
 simp only [qryFor,Bool.and_eq_true,List.all_eq_true,decide_eq_true_eq] at h
 obtain ⟨⟨h1,h2⟩,h3⟩:=h
 have h0:=h1
 simp only [queryOk,Bool.and_eq_true,inR,decide_eq_true_eq,List.all_eq_true] at h1
 obtain ⟨⟨⟨⟨hn,ha⟩,ho⟩,hat⟩,hu⟩:=h1
 refine ⟨h0,h2,hn,by omega,fun a hm v hv=>?_,fun a hm=>?_,fun a hm=>(h3 a hm).1,fun a hm=>(h3 a hm).2,fun j hj0 hj=>?_⟩
 ·have:=hat a hm
  simp only [atomOk,Bool.and_eq_true,List.all_eq_true] at this
  have:=this.2 v hv
  rw [wrap64_of (by omega) (by omega)] at this
  simp only [inR,Bool.and_eq_true,decide_eq_true_eq] at this
  omega
 ·have:=hat a hm
  simp only [atomOk,Bool.and_eq_true,inR,decide_eq_true_eq] at this
  omega
 ·simp only [usesAll,List.all_eq_true,List.mem_range,List.contains_iff_mem] at hu
  have:=hu j.toNat (by omega)
  rwa [Int.toNat_of_nonneg hj0] at this
theorem lk_rows {d : PDb} {nm : List UInt8} (h : lkB d nm = true) : (lkR d nm).rows.length <= 16:=by
 obtain ⟨A,B,sp⟩:=lk_split h
 have:=sp.tab (lk_db h)
 simp only [tabOk,Bool.and_eq_true,decide_eq_true_eq] at this
 exact this.2
theorem rangeI_mem {n : Nat} {x : Int} : x ∈ rangeI n ↔ 0 <= x /\ x < n:=by
 simp only [rangeI,List.mem_map,List.mem_range]
 constructor
 ·rintro ⟨k,hk,rfl⟩; omega
 ·rintro ⟨h0,h1⟩; exact ⟨x.toNat,by omega,by omega⟩
theorem rangeI_len (n : Nat) : (rangeI n).length = n:=by simp [rangeI]
theorem join_size {u a b : List Int} {rows list : List (List Int)} : (joinL u a rows b list).length <= rows.length * list.length:=by
 simp only [joinL]
 induction rows with
 | nil=>simp
 | cons r rs ih =>
   rw [List.flatMap_cons,List.length_append,List.length_cons,Nat.add_mul,Nat.one_mul]
   have:=List.length_filterMap_le (fun s=>glO u a r b s) list
   omega
def fitJ (vs row : List Int) (j : Nat) : Bool:=(List.range j).all fun i=>decide (lookV vs row (vs.getD i 0) = row.getD i 0)
theorem fitJ_zero (vs row : List Int) : fitJ vs row 0 = true:=rfl
theorem fitJ_succ (vs row : List Int) (j : Nat) : fitJ vs row (j + 1) = (fitJ vs row j && decide (lookV vs row (vs.getD j 0) = row.getD j 0)):=by
 simp only [fitJ,List.range_succ,List.all_append,List.all_cons,List.all_nil,Bool.and_true]
theorem fitJ_all {vs row : List Int} (h : row.length = vs.length) : fitJ vs row vs.length = fitR vs row:=by
 have : fitJ vs row vs.length = true ↔ fitR vs row = true:=by
  simp only [fitJ,List.all_eq_true,List.mem_range,decide_eq_true_eq,fitR]
  constructor
  ·intro hh
   refine List.ext_getElem (by simp [h]) fun i h1 h2=>?_
   have:=hh i (by omega)
   rw [getD_el _ (by omega),getD_el _ h2] at this
   rw [List.getElem_map]; exact this
  ·intro hh i hi
   have : (vs.map (lookV vs row))[i]'(by simpa using hi) = row[i]'(by omega):=by congr 1
   rw [getD_el _ hi,getD_el _ (by omega)]
   rw [List.getElem_map] at this; exact this
 cases h1 : fitJ vs row vs.length <;> cases h2 : fitR vs row <;> simp_all
def valJ (vs row : List Int) (j : Nat) : List Int:=((vs.take j).zip (row.take j)).foldl (fun val p=>val.set p.1.toNat p.2) (List.replicate 5 0)
theorem valJ_zero (vs row : List Int) : valJ vs row 0 = List.replicate 5 0:=by simp [valJ]
theorem valJ_succ {vs row : List Int} {j : Nat} (h1 : j < vs.length) (h2 : j < row.length) : valJ vs row (j + 1) = (valJ vs row j).set vs[j].toNat row[j]:=by
 rw [valJ,List.take_succ_eq_append_getElem h1,List.take_succ_eq_append_getElem h2,List.zip_append (by simp; omega),List.foldl_append]
 rfl
theorem valJ_len (vs row : List Int) (j : Nat) : (valJ vs row j).length = 5:=by
 rw [valJ]
 generalize (vs.take j).zip (row.take j) = l
 have : ∀ (l : List (Int × Int)) (v : List Int),(l.foldl (fun val p=>val.set p.1.toNat p.2) v).length = v.length:=fun l=>by
  induction l with
  | nil=>simp
  | cons p r ih=>intro v; rw [List.foldl_cons,ih]; simp
 rw [this]; simp
theorem valJ_all {vs row : List Int} (h : row.length = vs.length) : valJ vs row vs.length = valL vs row:=by
 rw [valJ,List.take_of_length_le (Nat.le_refl _),List.take_of_length_le (by omega)]; rfl
theorem abL_succ {vs : List Int} {rows : List (List Int)} {i : Nat} (h : i < rows.length) : abL vs (rows.take (i + 1)) = abL vs (rows.take i) ++ if fitR vs rows[i] then [pickR (aVars vs) (valL vs rows[i])] else []:=by
 rw [List.take_succ_eq_append_getElem h]
 simp only [abL,List.filter_append,List.map_append]
 cases hf : fitR vs rows[i] <;> simp [hf]
theorem abL_len (vs : List Int) (rows : List (List Int)) : (abL vs rows).length <= rows.length:=by
 simp only [abL,List.length_map]; exact List.length_filter_le _ _
theorem abL_el {vs : List Int} {rows : List (List Int)} : ∀ x ∈ abL vs rows,x.length <= 5:=fun x hx=>by
 simp only [abL,List.mem_map] at hx
 obtain ⟨row,_,rfl⟩:=hx
 rw [pickR_len]
 have:=List.length_filter_le (fun v=>vs.contains v) (rangeI 5)
 rw [rangeI_len] at this
 exact this
theorem VC.plain {P : Program} {f : FuncId} {As : List V} {post : Nat -> V -> Prop} {v : V} (h : VC P f As post) (hq : ∀ n r,post n r -> rp (fun _=>none) r = some v) (hv : rd (fun _=>none) (fun _=>none) v = some v) :
  VC P f As (fun _ r=>r = v):=by
 refine ⟨h.1,fun w vals A hgl hLR=>?_⟩
 refine (h.2 w vals A hgl hLR).mono fun e w' he=>?_
 obtain ⟨v',r,rfl,hb,hvr,_,hp⟩:=he
 exact ⟨v',v,rfl,hb,VR.er _ _ _ hvr (hq _ _ hp),hv,rfl⟩
theorem VC.untrack {P : Program} {f : FuncId} {Ps As0 : List V} {post post0 : Nat -> V -> Prop} (h0 : VC P f As0 post0) (hv : pnVL Ps = true)
  (h : ∀ As,rpL (fun _=>none) As = some Ps -> tkVL As = true -> lnVL As -> VC P f As post) : VC P f Ps post:=by
 refine ⟨h0.1,fun w vals A hgl hLR=>?_⟩
 obtain ⟨ys,h3,h4,h5,_⟩:=LR.track Ps vals hv hLR
 exact (h ys h4 h5 (LR.ln _ _ h3)).2 w vals A hgl h3
theorem rp_args1 {As : List V} {a : V} (h : rpL (fun _=>none) As = some [a]) (ht : tkVL As = true) (hl : lnVL As) : ∃ x,As = [x] /\ rp (fun _=>none) x = some a /\ x.tk = true /\ x.ln:=by
 match As,h,ht,hl with
 | [],h,_,_=>simp [rpL] at h
 | x :: r, h, ht, hl =>
   simp only [rpL] at h
   cases hx : rp (fun _=>none) x with
   | none=>simp [hx] at h
   | some y =>
     cases hs : rpL (fun _=>none) r with
     | none=>simp [hx,hs] at h
     | some ys =>
       simp only [hx,hs,Option.some.injEq,List.cons.injEq] at h
       obtain ⟨rfl,rfl⟩:=h
       simp only [tkVL,Bool.and_eq_true] at ht
       cases r with
       | nil=>exact ⟨x,rfl,hx,ht.1,hl.1⟩
       | cons z s =>
         simp only [rpL] at hs
         cases h1 : rp (fun _=>none) z <;> cases h2 : rpL (fun _=>none) s <;> simp [h1,h2] at hs
theorem rp_args2 {As : List V} {a b : V} (h : rpL (fun _=>none) As = some [a,b]) (ht : tkVL As = true) (hl : lnVL As) :
  ∃ x y,As = [x,y] /\ (rp (fun _=>none) x = some a /\ x.tk = true /\ x.ln) /\ rp (fun _=>none) y = some b /\ y.tk = true /\ y.ln:=by
 match As,h,ht,hl with
 | [],h,_,_=>simp [rpL] at h
 | x :: r, h, ht, hl =>
   simp only [rpL] at h
   cases hx : rp (fun _=>none) x with
   | none=>simp [hx] at h
   | some y =>
     cases hs : rpL (fun _=>none) r with
     | none=>simp [hx,hs] at h
     | some ys =>
       simp only [hx,hs,Option.some.injEq,List.cons.injEq] at h
       obtain ⟨rfl,rfl⟩:=h
       simp only [tkVL,Bool.and_eq_true] at ht
       obtain ⟨z,rfl,h1,h2,h3⟩:=rp_args1 hs ht.2 hl.2
       exact ⟨x,z,rfl,⟨hx,ht.1,hl.1⟩,h1,h2,h3⟩
theorem queryOk_a4 {q : PQuery} (h : queryOk q = true) : q.atoms.length <= 4:=by
 simp only [queryOk,Bool.and_eq_true,inR,decide_eq_true_eq] at h
 omega
theorem pw_len5 {l : List Int} (h : l.Pairwise (· < ·)) (hm : ∀ x ∈ l,0 <= x /\ x < 5) : l.length <= 5:=by
 have : l = (rangeI 5).filter fun v=>l.contains v:=by
  refine pw_ext h (List.Pairwise.filter _ (rangeI_pw 5)) fun x=>?_
  rw [List.mem_filter,rangeI_mem,List.contains_iff_mem]
  exact ⟨fun h=>⟨hm x h,h⟩,fun h=>h.2⟩
 rw [this]
 have:=List.length_filter_le (fun v=>l.contains v) (rangeI 5)
 rw [rangeI_len] at this
 exact this
theorem aVars_len5 (vs : List Int) : (aVars vs).length <= 5:=by
 have:=List.length_filter_le (fun v=>vs.contains v) (rangeI 5)
 rw [rangeI_len] at this
 exact this
def jnI (u a : List Int) (rows : List (List Int)) (b : List Int) (list : List (List Int)) (k : Nat) (j : Nat) : List (List Int):=
 joinL u a (rows.take k) b list ++ (list.take j).filterMap fun s=>glO u a (rows.getD k []) b s
theorem jnI_zero (u a : List Int) (rows : List (List Int)) (b : List Int) (list : List (List Int)) (k : Nat) : jnI u a rows b list k 0 = joinL u a (rows.take k) b list:=by simp [jnI]
theorem jnI_all {u a : List Int} {rows : List (List Int)} {b : List Int} {list : List (List Int)} {k : Nat} (h : k < rows.length) : jnI u a rows b list k list.length = joinL u a (rows.take (k + 1)) b list:=by
 rw [jnI,List.take_of_length_le (Nat.le_refl _),List.take_succ_eq_append_getElem h,joinL,joinL,List.flatMap_append]
 simp [List.getElem?_eq_getElem h]
theorem jnI_succ {u a : List Int} {rows : List (List Int)} {b : List Int} {list : List (List Int)} {k j : Nat} (h : j < list.length) :
  jnI u a rows b list k (j + 1) = jnI u a rows b list k j ++ if glB u a (rows.getD k []) b list[j] then [glR u a (rows.getD k []) b list[j]] else []:=by
 rw [jnI,jnI,List.take_succ_eq_append_getElem h,List.filterMap_append,List.append_assoc]
 congr 1
 cases hg : glB u a (rows.getD k []) b list[j] <;> simp only [List.getD_eq_getElem?_getD] at hg <;> simp [glO,hg]
theorem joinL_nil (u a b : List Int) (list : List (List Int)) : joinL u a [] b list = []:=rfl
theorem asgO_app : ∀ (l : List (Int × Int)) (x : List Int) (v y : Int),asgO x (l ++ [(v,y)]) = (asgO x l).bind fun z=>if z.getD v.toNat 0 = -1 \/ z.getD v.toNat 0 = y then some (z.set v.toNat y) else none
 | [],x,v,y=>by simp [asgO]
 | (u, w) :: r, x, v, y => by
   rw [List.cons_append,asgO,asgO]
   split
   ·exact asgO_app r _ v y
   ·rfl
theorem asgO_none : ∀ (l r : List (Int × Int)) (x : List Int),asgO x l = none -> asgO x (l ++ r) = none
 | [],_,_,h=>by simp [asgO] at h
 | (u, w) :: l, r, x, h => by
   rw [List.cons_append,asgO]
   rw [asgO] at h
   split at h
   ·rename_i hc
    rw [if_pos hc]
    exact asgO_none l r _ h
   ·rename_i hc
    rw [if_neg hc]
structure AsS (row vs t : List Int) (j : Nat) (x : List Int) (fits : Bool) : Prop where
 le : j <= vs.length
 len : x.length = row.length
 yes : fits = true -> asgO row ((vs.zip t).take j) = some x
 no : fits = false -> asgO row (vs.zip t) = none
theorem AsS.zero {row vs t : List Int} : AsS row vs t 0 row true:=⟨by omega,rfl,fun _=>by simp [asgO],fun h=>by cases h⟩
theorem zip_take {vs t : List Int} {j : Nat} (h1 : j < vs.length) (h2 : j < t.length) : (vs.zip t).take (j + 1) = (vs.zip t).take j ++ [(vs[j],t[j])]:=by
 rw [List.take_succ_eq_append_getElem (by simp; omega)]
 simp
theorem AsS.step {row vs t x : List Int} {j : Nat} (h : AsS row vs t j x true) (h1 : j < vs.length) (h2 : j < t.length) :
  AsS row vs t (j + 1) (x.set vs[j].toNat t[j]) (decide (x.getD vs[j].toNat 0 = -1 \/ x.getD vs[j].toNat 0 = t[j])):=by
 have hy:=h.yes rfl
 have hz : asgO row ((vs.zip t).take (j + 1)) = if x.getD vs[j].toNat 0 = -1 \/ x.getD vs[j].toNat 0 = t[j] then some (x.set vs[j].toNat t[j]) else none:=by
  rw [zip_take h1 h2,asgO_app,hy]; rfl
 refine ⟨by omega,by rw [List.length_set]; exact h.len,fun hd=>?_,fun hd=>?_⟩
 ·rw [hz,if_pos (of_decide_eq_true hd)]
 ·rw [if_neg (of_decide_eq_false hd)] at hz
  have:=asgO_none _ ((vs.zip t).drop (j + 1)) _ hz
  rwa [List.take_append_drop] at this
theorem AsS.done {row vs t x : List Int} {j : Nat} {fits : Bool} (h : AsS row vs t j x fits) (hj : fits = true -> vs.length <= j) : asgO row (vs.zip t) = if fits then some x else none:=by
 cases fits with
 | false=>simpa using h.no rfl
 | true =>
   have h2:=hj rfl
   have h3:=h.yes rfl
   rw [List.take_of_length_le (by simp; omega)] at h3
   simpa using h3
theorem setOf_len5 {l : List Int} {n : Int} (h : setOf l n = true) (h1 : 1 <= n) (hn : n <= 5) : l.length <= 5:=by
 simp only [setOf,Bool.and_eq_true,List.all_eq_true,decide_eq_true_eq] at h
 refine nodup_len 5 l h.2 fun x hx=>?_
 have:=h.1 x hx
 rw [wrap64_of (by omega) (by omega)] at this
 simp only [inR,Bool.and_eq_true,decide_eq_true_eq] at this
 omega
def comL (a b : List Int) : List Int:=a.filter fun x=>b.contains x
structure Od (q : PQuery) (o : List Int) : Prop where
 qok : queryOk q = true
 len : (o.length : Int) = q.n
 nd : o.Nodup
 rng : ∀ v ∈ o,0 <= v /\ v < q.n
 n5 : 1 <= q.n /\ q.n <= 5
theorem Od.all {q : PQuery} {o : List Int} (h : Od q o) {v : Int} (h0 : 0 <= v) (h1 : v < q.n) : v ∈ o:=by
 refine Classical.byContradiction fun hn=>?_
 have:=nodup_len (o.length) (v :: o) (List.nodup_cons.2 ⟨hn,h.nd⟩) fun x hx=>by
  rcases List.mem_cons.1 hx with rfl | hx
  ·have:=h.len; omega
  ·have:=h.rng x hx; have:=h.len; omega
 simp at this; omega
def vrOk (b : PVRel) : Bool:=(List.range b.vars.length).all (bagAt 5 b.vars) && (rowsOk b.rel.ar b.rel.rows && decide (b.rel.ar = b.vars.length))
def njL (a b : PVRel) : List (List Int):=joinL (uniL a.vars b.vars) a.vars a.rel.rows b.vars b.rel.rows
def njB (a b : PVRel) : Bool:=vrOk a && vrOk b && decide ((njL a b).length <= 4000)
def njP (a b : PVRel) : PVRel:=if njB a b then ⟨uniL a.vars b.vars,⟨(uniL a.vars b.vars).length,srtU (njL a b)⟩⟩ else ⟨[],⟨0,[]⟩⟩
def prG (r : PReln) (cols : List Int) : Bool:=rowsOk r.ar r.rows && colsOk r.ar cols
def prL (r : PReln) (cols : List Int) : List (List Int):=r.rows.map (pickR cols)
def prB (r : PReln) (cols : List Int) : Bool:=prG r cols && newB cols.length (prL r cols)
def prP (r : PReln) (cols : List Int) : PReln:=if prG r cols then newR cols.length (prL r cols) else ⟨0,[]⟩
def comC (a b : List Int) : List Int:=(comL a b).map (idxL a)
def pjV (b : PVRel) (bag : List Int) : PVRel:=⟨comL b.vars bag,prP b.rel (comC b.vars bag)⟩
def abV (d : PDb) (a : PAtom) : PVRel:=⟨aVars a.vars,⟨(aVars a.vars).length,abR d a⟩⟩
def brS (d : PDb) (bag : List Int) (s : Option PVRel) (a : PAtom) : Option PVRel:=match s with
 | none=>none
 | some v=>if comL (aVars a.vars) bag = [] then some v else if njB v (pjV (abV d a) bag) then some (njP v (pjV (abV d a) bag)) else none
def brT (d : PDb) (q : PQuery) (bag : List Int) (i : Nat) : Option PVRel:=(q.atoms.take i).foldl (brS d bag) (some ⟨[],⟨0,[[]]⟩⟩)
def brO (d : PDb) (q : PQuery) (bag : List Int) : Option PVRel:=if qryFor d q && bagI q.n bag then brT d q bag q.atoms.length else none
def ovR : Option PVRel -> PVRel
 | none=>⟨[],⟨0,[]⟩⟩
 | some v=>v
theorem brT_zero (d : PDb) (q : PQuery) (bag : List Int) : brT d q bag 0 = some ⟨[],⟨0,[[]]⟩⟩:=rfl
theorem brT_succ (d : PDb) (q : PQuery) (bag : List Int) {i : Nat} (h : i < q.atoms.length) : brT d q bag (i + 1) = brS d bag (brT d q bag i) q.atoms[i]:=by
 rw [brT,List.take_succ_eq_append_getElem h,List.foldl_append]; rfl
theorem brT_none {d : PDb} {q : PQuery} {bag : List Int} {i : Nat} (h : brT d q bag i = none) : ∀ j,i <= j -> brT d q bag j = none:=by
 intro j hj
 have key : ∀ l : List PAtom,l.foldl (brS d bag) none = none:=fun l=>by
  induction l with
  | nil=>rfl
  | cons a r ih=>simpa [brS] using ih
 have e : q.atoms.take j = q.atoms.take i ++ (q.atoms.take j).drop i:=by
  have:=(List.take_append_drop i (q.atoms.take j)).symm
  rwa [List.take_take,Nat.min_eq_left hj] at this
 rw [brT,e,List.foldl_append,<- brT,h,key]
theorem vAsc_pw {l : List Int} (h : (List.range l.length).all (bagAt 5 l) = true) : l.Pairwise (· < ·) /\ ∀ x ∈ l,0 <= x /\ x < 5:=by
 simp only [bagAt,List.all_eq_true,Bool.and_eq_true,List.mem_range] at h
 refine ⟨asc_pw (by simp only [ascB,List.all_eq_true,List.mem_range]; exact fun i hi=>(h i hi).2),fun x hx=>?_⟩
 obtain ⟨i,hi,rfl⟩:=List.getElem_of_mem hx
 have:=(h i hi).1
 rw [getD_el _ hi,show IntKind.i64.wrap (5 - 1) = 4 by decide] at this
 simp only [inR,Bool.and_eq_true,decide_eq_true_eq] at this
 omega
structure VrF (b : PVRel) : Prop where
 pw : b.vars.Pairwise (· < ·)
 rng : ∀ x ∈ b.vars,0 <= x /\ x < 5
 len : b.vars.length <= 5
 ar : b.rel.ar = b.vars.length
 rl : ∀ r ∈ b.rel.rows,r.length = b.vars.length /\ valsOk r = true
 nr : b.rel.rows.length <= 4000
 srt : Srt b.rel.rows
theorem vrF_of {b : PVRel} (h : vrOk b = true) : VrF b:=by
 simp only [vrOk,Bool.and_eq_true,decide_eq_true_eq] at h
 obtain ⟨h1,h2,h3⟩:=h
 obtain ⟨p1,p2⟩:=vAsc_pw h1
 have hs:=rowsOk_srt h2
 have hm : ∀ r ∈ b.rel.rows,(r.length : Int) = b.rel.ar /\ valsOk r = true:=fun r hr=>rowsOk_mem h2 hr
 refine ⟨p1,p2,pw_len5 p1 p2,h3,fun r hr=>?_,?_,hs⟩
 ·have:=hm r hr; exact ⟨by omega,this.2⟩
 ·simp only [rowsOk,Bool.and_eq_true,decide_eq_true_eq] at h2; exact h2.1.2
theorem nd_sub {α : Type} [BEq α] [LawfulBEq α] : ∀ (l m : List α),l.Nodup -> (∀ x ∈ l,x ∈ m) -> l.length <= m.length
 | [],_,_,_=>Nat.zero_le _
 | a :: r, m, hn, hs => by
   obtain ⟨h1,h2⟩:=List.nodup_cons.1 hn
   have ha:=hs a (by simp)
   have ih:=nd_sub r (m.erase a) h2 fun x hx=>(List.mem_erase_of_ne (by rintro rfl; exact h1 hx)).2 (hs x (List.mem_cons_of_mem _ hx))
   have:=List.length_pos_of_mem ha
   rw [List.length_erase_of_mem ha] at ih
   simp only [List.length_cons]; omega
theorem srtU_nd {l : List (List Int)} (h : l.Nodup) : (srtU l).length = l.length:=
 Nat.le_antisymm (srtU_len l) (nd_sub l _ h fun x hx=>(srtU_mem l x).2 hx)
theorem srt_ndR {l : List (List Int)} (h : Srt l) : l.Nodup:=h.imp fun {a b} h e=>by subst e; rw [cmpL_self] at h; omega
theorem lookV_mem {a r : List Int} {v : Int} (hv : v ∈ a) (hl : r.length = a.length) : lookV a r v ∈ r:=by
 have:=(idxL_mem hv).1
 rw [lookV,getD_el _ (show (idxL a v).toNat < r.length by omega)]
 exact List.getElem_mem _
theorem glO_back {u a r b s x : List Int} (ha : a.Nodup) (hb : b.Nodup) (hu : ∀ v,v ∈ u ↔ v ∈ a \/ v ∈ b) (hr : r.length = a.length) (hs : s.length = b.length) (h : glO u a r b s = some x) :
  r = a.map (lookV u x) /\ s = b.map (lookV u x):=by
 rw [glO] at h
 split at h
 ·rename_i hg
  obtain rfl:=Option.some.inj h
  have hgv : ∀ v ∈ u,v ∈ a -> v ∈ b -> lookV a r v = lookV b s v:=fun v h1 h2 h3=>by
   have:=(List.all_eq_true.1 hg) v h1
   simpa [glV,List.contains_iff_mem,h2,h3] using this
  constructor
  ·conv=>lhs; rw [<- map_lookV ha hr]
   refine map_congr_mem.2 fun v hv=>?_
   rw [glR,lookV_map _ ((hu v).2 (.inl hv))]
   simp [List.contains_iff_mem,hv]
  ·conv=>lhs; rw [<- map_lookV hb hs]
   refine map_congr_mem.2 fun v hv=>?_
   rw [glR,lookV_map _ ((hu v).2 (.inr hv))]
   by_cases hva : v ∈ a
   ·simp [List.contains_iff_mem,hva,hgv v ((hu v).2 (.inr hv)) hva hv]
   ·simp [List.contains_iff_mem,hva]
 ·cases h
theorem uni_mem {a b : PVRel} (fa : VrF a) (x : Int) : x ∈ uniL a.vars b.vars ↔ x ∈ a.vars \/ x ∈ b.vars:=(uniL_pw b.vars fa.pw).2 x
theorem nj_nodup {a b : PVRel} (fa : VrF a) (fb : VrF b) : (njL a b).Nodup:=by
 have hu:=uni_mem (b:=b) fa
 have na:=pw_nodup fa.pw
 have nb:=pw_nodup fb.pw
 have bk : ∀ r ∈ a.rel.rows,∀ s ∈ b.rel.rows,∀ x,glO (uniL a.vars b.vars) a.vars r b.vars s = some x -> r = a.vars.map (lookV (uniL a.vars b.vars) x) /\ s = b.vars.map (lookV (uniL a.vars b.vars) x):=
  fun r hr s hs x h=>glO_back na nb hu (fa.rl r hr).1 (fb.rl s hs).1 h
 have n1:=srt_ndR fa.srt
 have n2:=srt_ndR fb.srt
 rw [njL,joinL]
 refine List.pairwise_flatMap.2 ⟨fun r hr=>?_,?_⟩
 ·refine List.pairwise_filterMap.2 (n2.imp_of_mem fun {s s'} hs hs' hne x hx y hy e=>?_)
  subst e
  exact hne ((bk r hr s hs x hx).2.trans (bk r hr s' hs' x hy).2.symm)
 ·refine n1.imp_of_mem fun {r r'} hr hr' hne x hx y hy e=>?_
  subst e
  obtain ⟨s,hs,h1⟩:=List.mem_filterMap.1 hx
  obtain ⟨s',hs',h2⟩:=List.mem_filterMap.1 hy
  exact hne ((bk r hr s hs x h1).1.trans (bk r' hr' s' hs' x h2).1.symm)
theorem nj_row {a b : PVRel} (fa : VrF a) (fb : VrF b) : ∀ x ∈ njL a b,x.length = (uniL a.vars b.vars).length /\ valsOk x = true:=fun x hx=>by
 refine ⟨join_len x hx,?_⟩
 rw [njL,joinL] at hx
 simp only [List.mem_flatMap,List.mem_filterMap,glO] at hx
 obtain ⟨r,hr,s,hs,h⟩:=hx
 split at h
 ·obtain rfl:=Option.some.inj h
  obtain ⟨l1,v1⟩:=fa.rl r hr
  obtain ⟨l2,v2⟩:=fb.rl s hs
  simp only [valsOk,List.all_eq_true] at v1 v2 ⊢
  intro y hy
  rw [glR,List.mem_map] at hy
  obtain ⟨v,hv,rfl⟩:=hy
  rcases (uni_mem fa v).1 hv with h' | h'
  ·simp only [List.contains_iff_mem,h',if_true]
   exact v1 _ (lookV_mem h' l1)
  ·split
   ·rename_i hc; exact v1 _ (lookV_mem (List.contains_iff_mem.1 hc) l1)
   ·exact v2 _ (lookV_mem h' l2)
 ·cases h
theorem uni_len5 {a b : PVRel} (fa : VrF a) (fb : VrF b) : (uniL a.vars b.vars).length <= 5:=
 pw_len5 (uniL_pw b.vars fa.pw).1 fun x hx=>by
  rcases (uni_mem fa x).1 hx with h | h
  ·exact fa.rng x h
  ·exact fb.rng x h
theorem nj_new {a b : PVRel} (fa : VrF a) (fb : VrF b) : newB (uniL a.vars b.vars).length (njL a b) = decide ((njL a b).length <= 4000):=by
 have h5:=uni_len5 fa fb
 rw [newB_of (by simp only [inR,Bool.and_eq_true,decide_eq_true_eq]; omega) (fun x hx=>by
  have:=nj_row fa fb x hx; exact ⟨by omega,this.2⟩),srtU_nd (nj_nodup fa fb)]
theorem njP_spec {a b : PVRel} (ha : vrOk a = true) (hb : vrOk b = true) : njB a b = newB (uniL a.vars b.vars).length (njL a b) /\
  njP a b = if newB (uniL a.vars b.vars).length (njL a b) then ⟨uniL a.vars b.vars,newR (uniL a.vars b.vars).length (njL a b)⟩ else ⟨[],⟨0,[]⟩⟩:=by
 have h:=nj_new (vrF_of ha) (vrF_of hb)
 have e : njB a b = newB (uniL a.vars b.vars).length (njL a b):=by rw [h,njB,ha,hb]; rfl
 refine ⟨e,?_⟩
 rw [njP,e]
 split
 ·rename_i hn; rw [newR,if_pos hn]
 ·rfl
theorem uni_flt {a b : List Int} (ha : a.Pairwise (· < ·)) (ra : ∀ x ∈ a,0 <= x /\ x < 5) (rb : ∀ x ∈ b,0 <= x /\ x < 5) : (rangeI 5).filter (fun v=>a.contains v || b.contains v) = uniL a b:=by
 have hu:=uniL_pw b ha
 refine pw_ext (List.Pairwise.filter _ (rangeI_pw 5)) hu.1 fun x=>?_
 rw [List.mem_filter,rangeI_mem,hu.2 x]
 simp only [Bool.or_eq_true,List.contains_iff_mem]
 constructor
 ·exact fun h=>h.2
 ·intro h
  refine ⟨?_,h⟩
  rcases h with h | h
  ·have:=ra x h; omega
  ·have:=rb x h; omega
theorem pick_com {a b r : List Int} : pickR (comC a b) r = (comL a b).map (lookV a r):=by
 rw [pickR,comC,List.map_map]; rfl
theorem pick_com2 {a b s : List Int} : pickR ((comL a b).map (idxL b)) s = (comL a b).map (lookV b s):=by
 rw [pickR,List.map_map]; rfl
theorem com_gl {u a b r s : List Int} (hu : ∀ v,v ∈ u ↔ v ∈ a \/ v ∈ b) : pickR (comC a b) r = pickR ((comL a b).map (idxL b)) s ↔ glB u a r b s = true:=by
 rw [pick_com,pick_com2,map_congr_mem]
 simp only [comL,List.mem_filter,List.contains_iff_mem,glB,List.all_eq_true,glV,Bool.not_eq_true',Bool.and_eq_false_iff]
 constructor
 ·intro h v hv
  by_cases h1 : v ∈ a
  ·by_cases h2 : v ∈ b
   ·simp [h v ⟨h1,h2⟩]
   ·simp [h2]
  ·simp [h1]
 ·intro h v ⟨h1,h2⟩
  have:=h v ((hu v).2 (.inl h1))
  simpa [h1,h2] using this
def abF (vs row : List Int) : List Int:=(aVars vs).map (lookV vs row)
def abZ (vs : List Int) (rows : List (List Int)) : List (List Int):=(rows.filter (fitR vs)).map (abF vs)
theorem abZ_succ {vs : List Int} {rows : List (List Int)} {i : Nat} (h : i < rows.length) : abZ vs (rows.take (i + 1)) = abZ vs (rows.take i) ++ if fitR vs rows[i] then [abF vs rows[i]] else []:=by
 rw [abZ,abZ,List.take_succ_eq_append_getElem h,List.filter_append,List.map_append]
 cases hf : fitR vs rows[i] <;> simp [hf]
theorem abZ_len (vs : List Int) (rows : List (List Int)) : (abZ vs rows).length <= rows.length:=by
 rw [abZ,List.length_map]; exact List.length_filter_le _ _
theorem abZ_eq {vs : List Int} (hv : ∀ v ∈ vs,0 <= v /\ v < 5) (rows : List (List Int)) : abZ vs rows = abL vs rows:=by
 rw [abZ,abL]
 refine List.map_congr_left fun row hr=>?_
 have hf : row = vs.map (lookV vs row):=(of_decide_eq_true (List.mem_filter.1 hr).2).symm
 rw [abF,val_pick (lookV vs row) hf hv]
theorem abF_len (vs row : List Int) : (abF vs row).length = (aVars vs).length:=by simp [abF]
theorem abF_at {vs row : List Int} {v : Int} (h : v ∈ aVars vs) : (abF vs row).getD (idxL (aVars vs) v).toNat 0 = lookV vs row v:=lookV_map (lookV vs row) h
theorem ab_new {d : PDb} {nm : List UInt8} {vs : List Int} (hlk : lkB d nm = true) (har : (lkR d nm).ar = vs.length) (hv5 : vs.length <= 5) (hv : ∀ v ∈ vs,0 <= v /\ v < 5) :
  newB (aVars vs).length (abZ vs (lkR d nm).rows) = true /\ newR (aVars vs).length (abZ vs (lkR d nm).rows) = ⟨(aVars vs).length,abR d ⟨nm,vs⟩⟩:=by
 have hr:=lk_ok hlk
 have h16:=lk_rows hlk
 have ha5:=aVars_len5 vs
 have hl:=abZ_len vs (lkR d nm).rows
 have hb : newB (aVars vs).length (abZ vs (lkR d nm).rows) = true:=by
  rw [newB_of (by simp only [inR,Bool.and_eq_true,decide_eq_true_eq]; omega) (fun x hx=>?_)]
  ·have:=srtU_len (abZ vs (lkR d nm).rows)
   exact decide_eq_true (by omega)
  ·rw [abZ,List.mem_map] at hx
   obtain ⟨row,hrow,rfl⟩:=hx
   have hm:=rowsOk_mem hr (List.mem_filter.1 hrow).1
   refine ⟨by rw [abF_len],?_⟩
   simp only [valsOk,List.all_eq_true] at hm ⊢
   intro y hy
   rw [abF,List.mem_map] at hy
   obtain ⟨v,hvv,rfl⟩:=hy
   exact hm.2 _ (lookV_mem (aVars_mem.1 hvv).1 (by omega))
 refine ⟨hb,?_⟩
 rw [newR,if_pos hb,abZ_eq hv]; rfl
structure VI (b : List Int) (i : Nat) : Prop where
 le : i <= b.length
 al : ∀ j,j < i -> bagAt 5 b j = true
theorem VI.zero {b : List Int} : VI b 0:=⟨by omega,fun j h=>by omega⟩
theorem VI.step {b : List Int} {i : Nat} (h : VI b i) (hi : i < b.length) (hb : bagAt 5 b i = true) : VI b (i + 1):=
 ⟨by omega,fun j hj=>by
  rcases Nat.lt_succ_iff_lt_or_eq.1 hj with h' | h'
  ·exact h.al j h'
  ·exact h' ▸ hb⟩
theorem VI.done {b : PVRel} {i : Nat} (h : VI b.vars i) (hi : b.vars.length <= i) : vrOk b = (rowsOk b.rel.ar b.rel.rows && decide (b.rel.ar = b.vars.length)):=by
 have : (List.range b.vars.length).all (bagAt 5 b.vars) = true:=by
  simp only [List.all_eq_true,List.mem_range]; exact fun j hj=>h.al j (by omega)
 rw [vrOk,this,Bool.true_and]
theorem vr_bad {b : PVRel} {i : Nat} (hi : i < b.vars.length) (hb : bagAt 5 b.vars i = false) : vrOk b = false:=by
 have : (List.range b.vars.length).all (bagAt 5 b.vars) = false:=by
  rw [List.all_eq_false]; exact ⟨i,List.mem_range.2 hi,by simp [hb]⟩
 rw [vrOk,this,Bool.false_and]
theorem comL_succ {a b : List Int} {i : Nat} (h : i < a.length) : comL (a.take (i + 1)) b = comL (a.take i) b ++ if b.contains a[i] then [a[i]] else []:=by
 rw [comL,comL,List.take_succ_eq_append_getElem h,List.filter_append]
 cases hc : b.contains a[i] <;> simp only [List.filter_cons,List.filter_nil,hc] <;> rfl
theorem comL_len (a b : List Int) : (comL a b).length <= a.length:=List.length_filter_le _ _
theorem comL_nil (b : List Int) : comL [] b = []:=rfl
theorem idxL_get {a : List Int} (h : a.Nodup) {i : Nat} (hi : i < a.length) : idxL a a[i] = (i : Int):=by
 have h1:=idxL_self h i hi
 have h2:=idxL_ge a a[i]
 have h3 : a.contains a[i] = true:=by simp
 rw [h3] at h2
 have:=of_decide_eq_true h2
 omega
theorem jnI_le {u a : List Int} {rows : List (List Int)} {b : List Int} {list : List (List Int)} {k j : Nat} (hk : k <= 4000) (hj : j <= 4000) (hl : list.length <= 4000) : (jnI u a rows b list k j).length <= 16004000:=by
 rw [jnI,List.length_append]
 have h1:=join_size (u:=u) (a:=a) (b:=b) (rows:=rows.take k) (list:=list)
 have h2:=List.length_filterMap_le (fun s=>glO u a (rows.getD k []) b s) (list.take j)
 have h3 : (rows.take k).length <= 4000:=by rw [List.length_take]; omega
 have h4 : (list.take j).length <= 4000:=by rw [List.length_take]; omega
 have h5:=Nat.mul_le_mul h3 hl
 omega
theorem join_le {u a b : List Int} {rows list : List (List Int)} (h3 : rows.length <= 4000) (hl : list.length <= 4000) : (joinL u a rows b list).length <= 16000000:=
 Nat.le_trans join_size (Nat.mul_le_mul h3 hl)
def lvI (a b : List Int) (i : Nat) : List Int:=(rangeI i).filter fun v=>a.contains v || b.contains v
theorem lvI_succ (a b : List Int) (i : Nat) : lvI a b (i + 1) = lvI a b i ++ if a.contains (i : Int) || b.contains (i : Int) then [(i : Int)] else []:=by
 rw [lvI,lvI,rangeI_succ,List.filter_append]
 cases hc : (a.contains (i : Int) || b.contains (i : Int)) <;> simp only [List.filter_cons,List.filter_nil,hc] <;> rfl
theorem lvI_len (a b : List Int) (i : Nat) : (lvI a b i).length <= i:=by
 have:=List.length_filter_le (fun v=>a.contains v || b.contains v) (rangeI i)
 rwa [rangeI_len] at this
theorem glR_get {u a r b s : List Int} {i : Nat} (h : i < u.length) : (glR u a r b s)[i]'(by simpa [glR] using h) = if a.contains u[i] then lookV a r u[i] else lookV b s u[i]:=by
 simp [glR]
theorem join_mono {u a b : List Int} {rows list : List (List Int)} (k : Nat) : (joinL u a (rows.take k) b list).length <= (joinL u a rows b list).length:=by
 conv=>rhs; rw [<- List.take_append_drop k rows]
 rw [joinL,joinL,List.flatMap_append,List.length_append]
 omega
def dotF : Nat -> (Nat -> _root_.Rat) -> (Nat -> _root_.Rat) -> _root_.Rat
 | 0,_,_=>0
 | n + 1,a,x=>dotF n a x + a n * x n
theorem dotF_congr {a a' x x' : Nat -> _root_.Rat} : ∀ {n : Nat},(∀ k,k < n -> a k = a' k) -> (∀ k,k < n -> x k = x' k) -> dotF n a x = dotF n a' x'
 | 0,_,_=>rfl
 | n + 1, h, h' => by
   rw [dotF,dotF,dotF_congr (n:=n) (fun k hk=>h k (by omega)) (fun k hk=>h' k (by omega)),h n (by omega),h' n (by omega)]
theorem dotF_add (a x y : Nat -> _root_.Rat) : ∀ n : Nat,dotF n a (fun k=>x k + y k) = dotF n a x + dotF n a y
 | 0=>by simp only [dotF]; grind
 | n + 1 => by
   simp only [dotF,dotF_add a x y n]
   grind
theorem dotF_smul (a x : Nat -> _root_.Rat) (t : _root_.Rat) : ∀ n : Nat,dotF n a (fun k=>t * x k) = t * dotF n a x
 | 0=>by simp [dotF]
 | n + 1 => by
   simp only [dotF,dotF_smul a x t n]
   grind
theorem dotF_comm (a x : Nat -> _root_.Rat) : ∀ n : Nat,dotF n a x = dotF n x a
 | 0=>rfl
 | n + 1=>by rw [dotF,dotF,dotF_comm a x n,Rat.mul_comm]
theorem dotF_zero {a x : Nat -> _root_.Rat} : ∀ {n : Nat},(∀ k,k < n -> a k * x k = 0) -> dotF n a x = 0
 | 0,_=>rfl
 | n + 1, h => by
   rw [dotF,dotF_zero (n:=n) (fun k hk=>h k (by omega)),h n (by omega)]
   grind
theorem dotF_nonneg {a x : Nat -> _root_.Rat} : ∀ {n : Nat},(∀ k,k < n -> 0 <= a k * x k) -> 0 <= dotF n a x
 | 0,_=>by simp [dotF]
 | n + 1, h => by
   have h1:=dotF_nonneg (n:=n) (fun k hk=>h k (by omega))
   have h2:=h n (by omega)
   rw [dotF]
   grind
theorem dotF_one {a x : Nat -> _root_.Rat} {j : Nat} : ∀ {n : Nat},j < n -> (∀ k,k < n -> k ≠ j -> a k * x k = 0) -> dotF n a x = a j * x j
 | 0,h,_=>by omega
 | n + 1, h, hz => by
   rw [dotF]
   by_cases e : j = n
   ·subst e
    rw [dotF_zero fun k hk=>hz k (by omega) (by omega)]
    grind
   ·rw [dotF_one (n:=n) (by omega) fun k hk=>hz k (by omega),hz n (by omega) (by omega)]
    grind
theorem dotF_swap (c : Nat -> _root_.Rat) (B : Nat -> Nat -> _root_.Rat) (y : Nat -> _root_.Rat) (n : Nat) : ∀ m : Nat,dotF m c (fun i=>dotF n (B i) y) = dotF n (fun k=>dotF m c (fun i=>B i k)) y
 | 0 => by rw [dotF_zero (n := n)]; · rfl
           intro k _; simp [dotF]
 | m + 1 => by
   rw [dotF,dotF_swap c B y n m]
   simp only [dotF]
   rw [dotF_comm (fun k=>dotF m c (fun i=>B i k) + c m * B m k),dotF_add,dotF_smul,dotF_comm y,dotF_comm y]
theorem homog : ∀ (n : Nat) (A : List (Nat -> _root_.Rat)),A.length < n -> ∃ y : Nat -> _root_.Rat,(∃ k,k < n /\ y k ≠ 0) /\ ∀ a ∈ A,dotF n a y = 0
 | 0,_,h=>by omega
 | n + 1, A, h => by
   by_cases hA : ∀ a ∈ A,a n = 0
   ·refine ⟨fun k=>if k = n then 1 else 0,⟨n,by omega,by simp⟩,fun a ha=>?_⟩
    refine dotF_zero fun k hk=>?_
    by_cases e : k = n
    ·rw [e,hA a ha]; grind
    ·simp only [if_neg e]; grind
   ·have : ∃ a0,a0 ∈ A /\ a0 n ≠ 0:=by
     refine Classical.byContradiction fun hn=>hA fun a ha=>Classical.byContradiction fun h'=>hn ⟨a,ha,h'⟩
    obtain ⟨a0,h0,hne⟩:=this
    obtain ⟨s,t,rfl⟩:=List.append_of_mem h0
    obtain ⟨y,⟨k,hk,hy⟩,hz⟩:=homog n ((s ++ t).map fun a k=>a k - a n / a0 n * a0 k) (by simp at h ⊢; omega)
    have hd : ∀ a : Nat -> _root_.Rat,dotF (n + 1) a (fun k=>if k = n then - dotF n a0 y / a0 n else y k) = dotF n a y + a n * (- dotF n a0 y / a0 n):=fun a=>by
     rw [dotF]
     simp only [if_true]
     rw [dotF_congr (a:=a) (a':=a) (x':=y) (fun _ _=>rfl) (fun k hk=>if_neg (by omega))]
    refine ⟨fun k=>if k = n then - dotF n a0 y / a0 n else y k,⟨k,by omega,by simp only [if_neg (show ¬ k = n by omega)]; exact hy⟩,fun a ha=>?_⟩
    rw [hd]
    have hsub : ∀ a ∈ s ++ t,dotF n a y = a n / a0 n * dotF n a0 y:=fun a ha=>by
     have h1:=hz _ (List.mem_map_of_mem ha)
     have h2 : dotF n (fun k=>a k - a n / a0 n * a0 k) y = dotF n a y - a n / a0 n * dotF n a0 y:=by
      rw [dotF_comm,dotF_comm a,dotF_comm a0,show (fun k=>a k - a n / a0 n * a0 k) = fun k=>a k + (-(a n / a0 n)) * a0 k from funext fun k=>by grind,dotF_add,dotF_smul]
      grind
     rw [h2] at h1
     grind
    rcases List.mem_append.1 ha with ha | ha
    ·rw [hsub a (List.mem_append_left _ ha)]; grind
    ·rcases List.mem_cons.1 ha with rfl | ha
     ·grind
     ·rw [hsub a (List.mem_append_right _ ha)]; grind
theorem gd {α : Type} {l : List α} {i : Nat} {d : α} (h : i < l.length) : l.getD i d = l[i]:=by simp [List.getD,h]
def Ker (n : Nat) (A : List (Nat -> _root_.Rat)) : Prop:=∀ y : Nat -> _root_.Rat,(∀ a ∈ A,dotF n a y = 0) -> ∀ k,k < n -> y k = 0
theorem ker_sub {n : Nat} : ∀ (m : Nat) (A : List (Nat -> _root_.Rat)),A.length <= m -> Ker n A -> ∃ B : List (Nat -> _root_.Rat),B.Sublist A /\ B.length = n /\ Ker n B
 | m, A, hm, hA => by
   by_cases h1 : A.length < n
   ·obtain ⟨y,⟨k,hk,hy⟩,hz⟩:=homog n A h1
    exact absurd (hA y hz k hk) hy
   by_cases h2 : A.length = n
   ·exact ⟨A,.refl _,h2,hA⟩
   cases m with
   | zero=>omega
   | succ m =>
     obtain ⟨c,⟨j,hj,hc⟩,hz⟩:=homog A.length ((List.range n).map fun k i=>A.getD i (fun _=>0) k) (by simp; omega)
     have hz' : ∀ k,k < n -> dotF A.length c (fun i=>A.getD i (fun _=>0) k) = 0:=fun k hk=>by
      rw [dotF_comm]
      exact hz _ (List.mem_map.2 ⟨k,List.mem_range.2 hk,rfl⟩)
     have hK : Ker n (A.eraseIdx j):=fun y hy=>hA y fun a ha=>by
      obtain ⟨i,hi,rfl⟩:=List.mem_iff_getElem.1 ha
      by_cases e : i = j
      ·subst e
       have h3 : dotF A.length c (fun i=>dotF n (A.getD i (fun _=>0)) y) = 0:=by
        rw [dotF_swap]
        exact dotF_zero fun k hk=>by rw [hz' k hk]; grind
       have h4 : dotF A.length c (fun i=>dotF n (A.getD i (fun _=>0)) y) = c i * dotF n (A.getD i (fun _=>0)) y:=by
        refine dotF_one hi fun k hk hki=>?_
        have h5 : A.getD k (fun _=>0) ∈ A.eraseIdx i:=by
         rw [gd hk,List.mem_eraseIdx_iff_getElem]
         exact ⟨k,hk,hki,rfl⟩
        rw [hy _ h5]; grind
       rw [h4,gd hi] at h3
       grind
      ·exact hy _ (List.mem_eraseIdx_iff_getElem.2 ⟨i,hi,e,rfl⟩)
     obtain ⟨B,hB,hl,hk⟩:=ker_sub m (A.eraseIdx j) (by rw [List.length_eraseIdx]; split <;> omega) hK
     exact ⟨B,hB.trans (List.eraseIdx_sublist _ _),hl,hk⟩
theorem filter_lt {α : Type} {q r : α -> Bool} : ∀ {l : List α},(∀ p ∈ l,q p = true -> r p = true) -> (∃ p,p ∈ l /\ r p = true /\ q p = false) -> (l.filter q).length < (l.filter r).length
 | [],_,⟨_,h,_⟩=>by simp at h
 | a :: l, h, ⟨p, hp, h1, h2⟩ => by
   have hle : ∀ l : List α,(∀ p ∈ l,q p = true -> r p = true) -> (l.filter q).length <= (l.filter r).length:=fun l hl=>by
    rw [<- List.countP_eq_length_filter,<- List.countP_eq_length_filter]
    exact List.countP_mono_left hl
   have hl:=hle l fun p hp=>h p (by simp [hp])
   have ha:=h a (by simp)
   rcases List.mem_cons.1 hp with rfl | hp
   ·simp only [List.filter_cons,h1,h2,if_true,Bool.false_eq_true,if_false,List.length_cons]; omega
   ·have ih:=filter_lt (l:=l) (fun p hp=>h p (by simp [hp])) ⟨p,hp,h1,h2⟩
    simp only [List.filter_cons]
    by_cases e : q a = true
    ·rw [if_pos e,if_pos (ha e)]; simp; exact ih
    ·rw [if_neg e]
     split
     ·simp; omega
     ·exact ih
theorem min_ex {α : Type} (f : α -> _root_.Rat) : ∀ {l : List α},l ≠ [] -> ∃ p,p ∈ l /\ ∀ p' ∈ l,f p <= f p'
 | [],h=>absurd rfl h
 | [a],_=>⟨a,by simp,fun p' hp=>by rw [List.mem_singleton.1 hp]; exact Rat.le_refl⟩
 | a :: b :: l, _ => by
   obtain ⟨p,hp,hm⟩:=min_ex f (l:=b :: l) (by simp)
   by_cases e : f a <= f p
   ·refine ⟨a,by simp,fun p' hp'=>?_⟩
    rcases List.mem_cons.1 hp' with rfl | hp'
    ·exact Rat.le_refl
    ·have:=hm p' hp'; grind
   ·refine ⟨p,by simp only [List.mem_cons] at hp ⊢; exact .inr hp,fun p' hp'=>?_⟩
    rcases List.mem_cons.1 hp' with rfl | hp'
    ·grind
    ·exact hm p' hp'
abbrev Cst:=(Nat -> _root_.Rat) × _root_.Rat
def feasF (n : Nat) (C : List Cst) (x : Nat -> _root_.Rat) : Prop:=∀ p ∈ C,p.2 <= dotF n p.1 x
def tgt (n : Nat) (x : Nat -> _root_.Rat) (p : Cst) : Bool:=decide (dotF n p.1 x = p.2)
theorem dir_ex {n : Nat} {C : List Cst} {c x : Nat -> _root_.Rat} (hc : ∀ k,k < n -> 0 <= c k) (h : ¬ Ker n ((C.filter (tgt n x)).map Prod.fst)) :
  ∃ y : Nat -> _root_.Rat,(∀ p ∈ C,tgt n x p = true -> dotF n p.1 y = 0) /\ dotF n c y <= 0 /\ ∃ k,k < n /\ y k < 0:=by
 have : ∃ y : Nat -> _root_.Rat,(∀ a ∈ (C.filter (tgt n x)).map Prod.fst,dotF n a y = 0) /\ ∃ k,k < n /\ y k ≠ 0:=
  Classical.byContradiction fun hn=>h fun y hy k hk=>Classical.byContradiction fun h'=>hn ⟨y,hy,k,hk,h'⟩
 obtain ⟨y,hy,k,hk,hne⟩:=this
 have hy' : ∀ p ∈ C,tgt n x p = true -> dotF n p.1 y = 0:=fun p hp ht=>hy _ (List.mem_map_of_mem (List.mem_filter.2 ⟨hp,ht⟩))
 have hm : ∀ a : Nat -> _root_.Rat,dotF n a (fun k=>-1 * y k) = - dotF n a y:=fun a=>by rw [dotF_smul]; grind
 have hneg : ∀ y : Nat -> _root_.Rat,dotF n c y < 0 -> ∃ k,k < n /\ y k < 0:=fun y h0=>
  Classical.byContradiction fun hn=>by
   have : 0 <= dotF n c y:=dotF_nonneg fun k hk=>Rat.mul_nonneg (hc k hk) (by
    by_cases e : y k < 0
    ·exact absurd ⟨k,hk,e⟩ hn
    ·grind)
   grind
 by_cases h1 : dotF n c y < 0
 ·exact ⟨y,hy',by grind,hneg y h1⟩
 by_cases h2 : 0 < dotF n c y
 ·refine ⟨fun k=>-1 * y k,fun p hp ht=>by rw [hm,hy' p hp ht]; grind,by rw [hm]; grind,hneg _ (by rw [hm]; grind)⟩
 by_cases h3 : y k < 0
 ·exact ⟨y,hy',by grind,k,hk,h3⟩
 ·exact ⟨fun k=>-1 * y k,fun p hp ht=>by rw [hm,hy' p hp ht]; grind,by rw [hm]; grind,k,hk,by grind⟩
theorem vert_ex {n : Nat} {C : List Cst} {c : Nat -> _root_.Rat} (hc : ∀ k,k < n -> 0 <= c k) (hu : ∀ k,k < n -> ∃ p ∈ C,p.2 = 0 /\ ∀ x,dotF n p.1 x = x k) :
  ∀ (m : Nat) (x : Nat -> _root_.Rat),feasF n C x -> (C.filter fun p=>!tgt n x p).length <= m -> ∃ v,feasF n C v /\ dotF n c v <= dotF n c x /\ Ker n ((C.filter (tgt n v)).map Prod.fst)
 | m, x, hx, hm => by
   by_cases hK : Ker n ((C.filter (tgt n x)).map Prod.fst)
   ·exact ⟨x,hx,Rat.le_refl,hK⟩
   obtain ⟨y,hy,hcy,k,hk,hyk⟩:=dir_ex hc hK
   obtain ⟨pk,hpk,_,hek⟩:=hu k hk
   have hne : (C.filter fun p=>decide (dotF n p.1 y < 0)) ≠ []:=fun e=>by
    have : pk ∈ (C.filter fun p=>decide (dotF n p.1 y < 0)):=List.mem_filter.2 ⟨hpk,by rw [hek]; simpa using hyk⟩
    rw [e] at this; simp at this
   obtain ⟨p0,hp0,hmin⟩:=min_ex (fun p : Cst=>(dotF n p.1 x - p.2) / (- dotF n p.1 y)) hne
   obtain ⟨hp0C,hp0n⟩:=List.mem_filter.1 hp0
   have hp0n : dotF n p0.1 y < 0:=by simpa using hp0n
   obtain ⟨t,ht⟩ : ∃ t,t = (dotF n p0.1 x - p0.2) / (- dotF n p0.1 y):=⟨_,rfl⟩
   simp only [<- ht] at hmin
   have hd : ∀ a : Nat -> _root_.Rat,dotF n a (fun k=>x k + t * y k) = dotF n a x + t * dotF n a y:=fun a=>by rw [dotF_add,dotF_smul]
   have hdiv : ∀ a b : _root_.Rat,0 < b -> 0 <= a -> 0 <= a / b:=fun a b hb ha=>by
    rw [Rat.div_def]; exact Rat.mul_nonneg ha (Rat.le_of_lt (Rat.inv_pos.2 hb))
   have ht0 : 0 <= t:=by
    rw [ht]
    exact hdiv _ _ (by grind) (by have:=hx p0 hp0C; grind)
   have htp : t * (- dotF n p0.1 y) = dotF n p0.1 x - p0.2:=by
    rw [ht]
    have : (- dotF n p0.1 y) ≠ 0:=by grind
    grind
   have hx' : feasF n C (fun k=>x k + t * y k):=fun p hp=>by
    rw [hd]
    have h1:=hx p hp
    by_cases e : dotF n p.1 y < 0
    ·have h2:=hmin p (List.mem_filter.2 ⟨hp,by simpa using e⟩)
     have h3:=Rat.mul_le_mul_of_nonneg_right h2 (c:=- dotF n p.1 y) (by grind)
     have h4 : (dotF n p.1 x - p.2) / (- dotF n p.1 y) * (- dotF n p.1 y) = dotF n p.1 x - p.2:=by
      have : (- dotF n p.1 y) ≠ 0:=by grind
      grind
     rw [h4] at h3
     grind
    ·have:=Rat.mul_nonneg ht0 (show 0 <= dotF n p.1 y by grind)
     grind
   have hlt : (C.filter fun p=>!tgt n (fun k=>x k + t * y k) p).length < (C.filter fun p=>!tgt n x p).length:=by
    refine filter_lt (fun p hp hq=>?_) ⟨p0,hp0C,?_,?_⟩
    ·cases e : tgt n x p with
     | false=>rfl
     | true =>
       have h1:=hy p hp e
       simp only [tgt,hd,h1,Bool.not_eq_true',decide_eq_false_iff_not,decide_eq_true_eq] at hq e
       grind
    ·cases e : tgt n x p0 with
     | false=>rfl
     | true=>have:=hy p0 hp0C e; grind
    ·simp only [tgt,hd,Bool.not_eq_false',decide_eq_true_eq]
     grind
   cases m with
   | zero=>omega
   | succ m =>
     obtain ⟨v,h1,h2,h3⟩:=vert_ex hc hu m _ hx' (by omega)
     refine ⟨v,h1,?_,h3⟩
     rw [hd] at h2
     have h4:=Rat.mul_nonneg ht0 (show 0 <= - dotF n c y by grind)
     grind
def fnL (r : List _root_.Rat) : Nat -> _root_.Rat:=fun k=>r.getD k 0
def rowQ (m : List (List _root_.Rat)) (i : Nat) : Nat -> _root_.Rat:=fnL (m.getD i [])
def elimR (p : Nat) (piv row : List _root_.Rat) : List _root_.Rat:=row.mapIdx fun k x=>if k < p then x else x - fnL row p / fnL piv p * fnL piv k
def pivAt (m : List (List _root_.Rat)) (p : Nat) : Nat:=p + (m.drop p).findIdx fun r=>decide (fnL r p ≠ 0)
def swapM (m : List (List _root_.Rat)) (p k : Nat) : List (List _root_.Rat):=(m.set p (m.getD k [])).set k (m.getD p [])
def stepM (p : Nat) (m : List (List _root_.Rat)) : List (List _root_.Rat):=m.mapIdx fun i r=>if i = p then r else elimR p (m.getD p []) r
def gjStep (p : Nat) (m : List (List _root_.Rat)) : Option (List (List _root_.Rat)):=if pivAt m p < m.length then some (stepM p (swapM m p (pivAt m p))) else none
def gj (m0 : List (List _root_.Rat)) : Nat -> Option (List (List _root_.Rat))
 | 0=>some m0
 | p + 1=>(gj m0 p).bind (gjStep p)
def outM (n : Nat) (m : List (List _root_.Rat)) : List _root_.Rat:=(List.range n).map fun p=>rowQ m p n / rowQ m p p
def solQ (n : Nat) (m0 : List (List _root_.Rat)) : Option (List _root_.Rat):=(gj m0 n).map (outM n)
structure GJ (n p : Nat) (m0 m : List (List _root_.Rat)) : Prop where
 len : m.length = n
 row : ∀ r ∈ m,r.length = n + 1
 dia : ∀ i j,i < n -> j < p -> i ≠ j -> rowQ m i j = 0
 piv : ∀ i,i < p -> rowQ m i i ≠ 0
 sol : ∀ y,(∀ r ∈ m,dotF (n + 1) (fnL r) y = 0) ↔ (∀ r ∈ m0,dotF (n + 1) (fnL r) y = 0)
def bbQ : Nat -> Nat
 | 0=>1
 | p + 1=>2 * (bbQ p * bbQ p)
def cbQ : Nat -> Nat
 | 0=>1
 | p + 1=>cbQ p * bbQ p
theorem bbQ_pos : ∀ p,1 <= bbQ p
 | 0=>Nat.le_refl _
 | p + 1 => by
   have:=bbQ_pos p
   have:=Nat.mul_le_mul this this
   simp only [bbQ]; omega
theorem bbQ_mono (p : Nat) : bbQ p <= bbQ (p + 1):=by
 have:=bbQ_pos p
 have:=Nat.mul_le_mul_left (bbQ p) this
 simp only [bbQ]; omega
theorem cbQ_mono (p : Nat) : cbQ p <= cbQ (p + 1):=by
 have:=bbQ_pos p
 have:=Nat.mul_le_mul_left (cbQ p) this
 simp only [cbQ]; omega
structure RowB (n : Nat) (c b : Nat) (r : Nat -> _root_.Rat) (s : Int) (M : Nat -> Int) : Prop where
 ne : s ≠ 0
 sc : s.natAbs <= c
 eq : ∀ k,k <= n -> r k * (s : _root_.Rat) = (M k : _root_.Rat)
 bd : ∀ k,k <= n -> (M k).natAbs <= b
def Bd (n p : Nat) (m : List (List _root_.Rat)) : Prop:=
 ∃ D : Int,D ≠ 0 /\ D.natAbs <= cbQ p /\ ∀ i,i < n -> ∃ (s : Int) (M : Nat -> Int),RowB n (cbQ p) (bbQ p) (rowQ m i) s M /\ (i < p -> ∃ e : Int,D = M i * e)
theorem el_num {x a d q s sp X A P Y : _root_.Rat} (hd : d ≠ 0) (h1 : x * s = X) (h2 : a * s = A) (h3 : d * sp = P) (h4 : q * sp = Y) : (x - a / d * q) * (s * P) = P * X - A * Y:=by grind
theorem el_f {a d s sp A P : _root_.Rat} (hd : d ≠ 0) (h2 : a * s = A) (h3 : d * sp = P) : a / d * (s * P) = A * sp:=by grind
theorem el_q {a d q s sp A P Y : _root_.Rat} (hd : d ≠ 0) (h2 : a * s = A) (h3 : d * sp = P) (h4 : q * sp = Y) : a / d * q * (s * P) = A * Y:=by grind
theorem getD_mem' {α : Type} {l : List α} {i : Nat} {d : α} (h : i < l.length) : l.getD i d ∈ l:=by rw [gd h]; exact List.getElem_mem h
theorem getD_set' {α : Type} {l : List α} {i j : Nat} {a d : α} (h : i < l.length) : (l.set i a).getD j d = if i = j then a else l.getD j d:=by
 simp only [List.getD,List.getElem?_set]
 split
 ·rfl
 ·rfl
theorem swap_get {m : List (List _root_.Rat)} {p k : Nat} (hp : p < m.length) (hk : k < m.length) (i : Nat) : (swapM m p k).getD i [] = m.getD (if i = k then p else if i = p then k else i) []:=by
 rw [swapM,getD_set' (by simpa using hk)]
 by_cases e : k = i
 ·subst e; simp
 ·rw [if_neg e,getD_set' hp]
  have e' : ¬ i = k:=fun h=>e h.symm
  by_cases e2 : p = i
  ·subst e2; simp [e']
  ·have e2' : ¬ i = p:=fun h=>e2 h.symm
   simp [e2,e',e2']
theorem swap_mem {m : List (List _root_.Rat)} {p k : Nat} (hp : p < m.length) (hk : k < m.length) (r : List _root_.Rat) : r ∈ swapM m p k ↔ r ∈ m:=by
 have hl : (swapM m p k).length = m.length:=by simp [swapM]
 constructor
 ·intro h
  obtain ⟨i,hi,rfl⟩:=List.mem_iff_getElem.1 h
  rw [<- gd hi (d:=[]),swap_get hp hk]
  exact getD_mem' (by split; · exact hp
                      split; · exact hk
                      omega)
 ·intro h
  obtain ⟨i,hi,rfl⟩:=List.mem_iff_getElem.1 h
  have e : m[i] = (swapM m p k).getD (if i = k then p else if i = p then k else i) []:=by
   rw [swap_get hp hk,<- gd hi (d:=[])]
   congr 1
   by_cases h1 : i = k
   ·subst h1
    simp only [if_true]
    split <;> simp_all
   ·by_cases h2 : i = p
    ·subst h2; simp [h1]
    ·simp [h1,h2]
  rw [e]
  exact getD_mem' (by rw [hl]; split; · exact hp
                      split; · exact hk
                      exact hi)
theorem step_get {m : List (List _root_.Rat)} {p i : Nat} (hi : i < m.length) : (stepM p m).getD i [] = if i = p then m.getD p [] else elimR p (m.getD p []) (m.getD i []):=by
 rw [stepM,gd (by simpa using hi),List.getElem_mapIdx]
 split
 ·rename_i h; subst h; exact (gd hi).symm
 ·rw [gd hi]
theorem elim_fn {p n : Nat} {piv row : List _root_.Rat} (hr : row.length = n + 1) (hz : ∀ j,j < p -> fnL piv j = 0) {k : Nat} (hk : k <= n) : fnL (elimR p piv row) k = fnL row k - fnL row p / fnL piv p * fnL piv k:=by
 rw [fnL,elimR,gd (by simp; omega),List.getElem_mapIdx]
 have : fnL row k = row[k]'(by omega):=by rw [fnL,gd (by omega)]
 rw [this]
 split
 ·rename_i h; rw [hz k h]; grind
 ·rfl
theorem elim_len {p : Nat} {piv row : List _root_.Rat} : (elimR p piv row).length = row.length:=by simp [elimR]
theorem piv_lt {m : List (List _root_.Rat)} {p : Nat} (h : pivAt m p < m.length) : p <= pivAt m p /\ rowQ m (pivAt m p) p ≠ 0:=by
 have h1 : (m.drop p).findIdx (fun r=>decide (fnL r p ≠ 0)) < (m.drop p).length:=by
  rw [List.length_drop]; unfold pivAt at h; omega
 have h2:=List.findIdx_getElem (w:=h1)
 refine ⟨by unfold pivAt; omega,?_⟩
 simp only [List.getElem_drop,decide_eq_true_eq] at h2
 rw [rowQ,gd h]
 exact h2
theorem piv_none {m : List (List _root_.Rat)} {p : Nat} (h : ¬ pivAt m p < m.length) : ∀ k,p <= k -> k < m.length -> rowQ m k p = 0:=fun k h1 h2=>by
 have h3 : ¬ (m.drop p).findIdx (fun r=>decide (fnL r p ≠ 0)) < (m.drop p).length:=by
  rw [List.length_drop]; unfold pivAt at h; omega
 rw [List.findIdx_lt_length] at h3
 refine Classical.byContradiction fun hn=>h3 ⟨m[k],?_,?_⟩
 ·rw [List.mem_iff_getElem]
  exact ⟨k - p,by rw [List.length_drop]; omega,by simp only [List.getElem_drop]; congr 1; omega⟩
 ·rw [rowQ,gd h2] at hn
  simpa using hn
theorem GJ.swap {n p k : Nat} {m0 m : List (List _root_.Rat)} (h : GJ n p m0 m) (hp : p <= k) (hk : k < n) : GJ n p m0 (swapM m p k):=by
 have hl:=h.len
 have hg:=swap_get (m:=m) (p:=p) (k:=k) (by omega) (by omega)
 have hm:=swap_mem (m:=m) (p:=p) (k:=k) (by omega) (by omega)
 refine ⟨by simp [swapM,hl],fun r hr=>h.row r ((hm r).1 hr),fun i j hi hj hij=>?_,fun i hi=>?_,fun y=>?_⟩
 ·rw [rowQ,hg]
  split
  ·exact h.dia p j (by omega) hj (by omega)
  ·split
   ·exact h.dia k j hk hj (by omega)
   ·exact h.dia i j hi hj hij
 ·rw [rowQ,hg,if_neg (by omega),if_neg (by omega)]
  exact h.piv i hi
 ·rw [<- h.sol y]
  exact ⟨fun hy r hr=>hy r ((hm r).2 hr),fun hy r hr=>hy r ((hm r).1 hr)⟩
theorem Bd.swap {n p k : Nat} {m0 m : List (List _root_.Rat)} (h : GJ n p m0 m) (hp : p <= k) (hk : k < n) (hb : Bd n p m) : Bd n p (swapM m p k):=by
 have hl:=h.len
 have hg:=swap_get (m:=m) (p:=p) (k:=k) (by omega) (by omega)
 obtain ⟨D,h1,h2,h3⟩:=hb
 refine ⟨D,h1,h2,fun i hi=>?_⟩
 obtain ⟨s, M, hs, hD⟩ := h3 (if i = k then p else if i = p then k else i) (by split; · omega
                                                                               split; · omega
                                                                               exact hi)
 refine ⟨s,M,?_,fun hip=>?_⟩
 ·have : rowQ (swapM m p k) i = rowQ m (if i = k then p else if i = p then k else i):=by rw [rowQ,hg]; rfl
  rw [this]; exact hs
 ·rw [if_neg (by omega),if_neg (by omega)] at hD
  exact hD hip
theorem GJ.step {n p : Nat} {m0 m : List (List _root_.Rat)} (h : GJ n p m0 m) (hp : p < n) (hne : rowQ m p p ≠ 0) : GJ n (p + 1) m0 (stepM p m):=by
 have hl:=h.len
 have hz : ∀ j,j < p -> fnL (m.getD p []) j = 0:=fun j hj=>h.dia p j hp hj (by omega)
 have hr : ∀ i,i < n -> (m.getD i []).length = n + 1:=fun i hi=>h.row _ (getD_mem' (by omega))
 have hrow : ∀ i,i < n -> i ≠ p -> ∀ k,k <= n -> rowQ (stepM p m) i k = rowQ m i k - rowQ m i p / rowQ m p p * rowQ m p k:=fun i hi hip k hk=>by
  rw [rowQ,step_get (by omega),if_neg hip]
  exact elim_fn (hr i hi) hz hk
 have hrp : rowQ (stepM p m) p = rowQ m p:=by rw [rowQ,step_get (by omega),if_pos rfl]; rfl
 have hdot : ∀ i,i < n -> i ≠ p -> ∀ y,dotF (n + 1) (rowQ (stepM p m) i) y = dotF (n + 1) (rowQ m i) y - rowQ m i p / rowQ m p p * dotF (n + 1) (rowQ m p) y:=fun i hi hip y=>by
  rw [dotF_comm,dotF_comm (rowQ m i),dotF_comm (rowQ m p),dotF_congr (a:=y) (a':=y) (x':=fun k=>rowQ m i k + (-(rowQ m i p / rowQ m p p)) * rowQ m p k) (fun _ _=>rfl) (fun k hk=>by rw [hrow i hi hip k (by omega)]; grind),dotF_add,dotF_smul]
  grind
 have hsl : (stepM p m).length = n:=by simp [stepM,hl]
 refine ⟨hsl,fun r hr'=>?_,fun i j hi hj hij=>?_,fun i hi=>?_,fun y=>?_⟩
 ·obtain ⟨i,hi,rfl⟩:=List.mem_iff_getElem.1 hr'
  rw [<- gd hi (d:=[]),step_get (by omega)]
  split
  ·exact hr p hp
  ·rw [elim_len]; exact hr i (by omega)
 ·by_cases e : i = p
  ·subst e; rw [hrp]; exact h.dia i j hi (by omega) hij
  ·rw [hrow i hi e j (by omega)]
   by_cases e2 : j = p
   ·subst e2; grind
   ·have:=h.dia i j hi (by omega) hij
    have:=h.dia p j hp (by omega) (by omega)
    grind
 ·by_cases e : i = p
  ·subst e; rw [hrp]; exact hne
  ·rw [hrow i (by omega) e i (by omega)]
   have:=h.piv i (by omega)
   have:=h.dia p i hp (by omega) (by omega)
   grind
 ·rw [<- h.sol y]
  have hm : ∀ i,i < n -> rowQ m i = fnL (m.getD i []):=fun _ _=>rfl
  constructor
  ·intro hy r hr'
   obtain ⟨i,hi,rfl⟩:=List.mem_iff_getElem.1 hr'
   rw [<- gd hi (d:=[])]
   have hpz : dotF (n + 1) (rowQ m p) y = 0:=by
    rw [<- hrp]; exact hy _ (getD_mem' (by omega))
   by_cases e : i = p
   ·subst e; exact hpz
   ·have h1:=hy _ (getD_mem' (l:=stepM p m) (i:=i) (d:=[]) (by omega))
    have h2:=hdot i (by omega) e y
    rw [hpz] at h2
    show dotF (n + 1) (rowQ m i) y = 0
    have h3 : dotF (n + 1) (rowQ (stepM p m) i) y = 0:=h1
    grind
  ·intro hy r hr'
   obtain ⟨i,hi,rfl⟩:=List.mem_iff_getElem.1 hr'
   rw [<- gd hi (d:=[])]
   show dotF (n + 1) (rowQ (stepM p m) i) y = 0
   have hpz : dotF (n + 1) (rowQ m p) y = 0:=hy _ (getD_mem' (by omega))
   by_cases e : i = p
   ·subst e; rw [hrp]; exact hpz
   ·rw [hdot i (by omega) e y,hpz]
    have : dotF (n + 1) (rowQ m i) y = 0:=hy _ (getD_mem' (by omega))
    grind
theorem natAbs_mul_le {a b : Int} {x y : Nat} (h1 : a.natAbs <= x) (h2 : b.natAbs <= y) : (a * b).natAbs <= x * y:=by rw [Int.natAbs_mul]; exact Nat.mul_le_mul h1 h2
theorem natAbs_sub_le' (a b : Int) : (a - b).natAbs <= a.natAbs + b.natAbs:=by omega
theorem Bd.step {n p : Nat} {m0 m : List (List _root_.Rat)} (h : GJ n p m0 m) (hp : p < n) (hne : rowQ m p p ≠ 0) (hb : Bd n p m) : Bd n (p + 1) (stepM p m):=by
 have hl:=h.len
 have hz : ∀ j,j < p -> fnL (m.getD p []) j = 0:=fun j hj=>h.dia p j hp hj (by omega)
 have hr : ∀ i,i < n -> (m.getD i []).length = n + 1:=fun i hi=>h.row _ (getD_mem' (by omega))
 have hrow : ∀ i,i < n -> i ≠ p -> ∀ k,k <= n -> rowQ (stepM p m) i k = rowQ m i k - rowQ m i p / rowQ m p p * rowQ m p k:=fun i hi hip k hk=>by
  rw [rowQ,step_get (by omega),if_neg hip]
  exact elim_fn (hr i hi) hz hk
 have hrp : rowQ (stepM p m) p = rowQ m p:=by rw [rowQ,step_get (by omega),if_pos rfl]; rfl
 obtain ⟨D,h1,h2,h3⟩:=hb
 obtain ⟨sp,P,rp,_⟩:=h3 p hp
 have hP : P p ≠ 0:=fun e=>by
  have:=rp.eq p (by omega)
  rw [e] at this
  have hs : (sp : _root_.Rat) ≠ 0:=fun e=>rp.ne (Rat.intCast_inj.1 (by simpa using e))
  have : rowQ m p p * (sp : _root_.Rat) = 0:=by simpa using this
  grind
 refine ⟨D * P p,Int.mul_ne_zero h1 hP,natAbs_mul_le h2 (rp.bd p (by omega)),fun i hi=>?_⟩
 by_cases e : i = p
 ·subst e
  refine ⟨sp,P,⟨rp.ne,Nat.le_trans rp.sc (cbQ_mono _),fun k hk=>by rw [hrp]; exact rp.eq k hk,fun k hk=>Nat.le_trans (rp.bd k hk) (bbQ_mono _)⟩,fun _=>⟨D,Int.mul_comm _ _⟩⟩
 ·obtain ⟨s,M,ri,hD⟩:=h3 i hi
  refine ⟨s * P p,fun k=>P p * M k - M p * P k,⟨Int.mul_ne_zero ri.ne hP,natAbs_mul_le ri.sc (rp.bd p (by omega)),fun k hk=>?_,fun k hk=>?_⟩,fun hip=>?_⟩
  ·rw [hrow i hi e k hk]
   have:=el_num hne (ri.eq k hk) (ri.eq p (by omega)) (rp.eq p (by omega)) (rp.eq k hk)
   rw [Rat.intCast_mul,Rat.intCast_sub,Rat.intCast_mul,Rat.intCast_mul]
   exact this
  ·have a1:=natAbs_mul_le (rp.bd p (by omega)) (ri.bd k hk)
   have a2:=natAbs_mul_le (ri.bd p (by omega)) (rp.bd k hk)
   have a3:=natAbs_sub_le' (P p * M k) (M p * P k)
   simp only [bbQ]; omega
  ·obtain ⟨x,hx⟩:=hD (by omega)
   have : P i = 0:=by
    have h4:=rp.eq i (by omega)
    have h5 : rowQ m p i = 0:=hz i (by omega)
    rw [h5] at h4
    have : ((P i : Int) : _root_.Rat) = ((0 : Int) : _root_.Rat):=by rw [<- h4]; simp
    exact Rat.intCast_inj.1 this
   refine ⟨x,?_⟩
   simp only [this,hx,Int.mul_zero,Int.sub_zero]
   rw [Int.mul_comm (P p),Int.mul_assoc,Int.mul_assoc,Int.mul_comm x]
end Go.Vs
