/-
  A part of a proof of this seat: a value-level semantics of Go code without maps, walks, plain lemmas. It holds of all that its hypotheses name.
-/
import Derived.Test.YtgjfmjiildjelaaGreatDoorDJ1A1
import Derived.OrdersHeld
import Derived.KernelRfl
set_option linter.unusedSimpArgs false
set_option linter.unusedVariables false
set_option linter.unnecessarySimpa false
namespace Go.Vs
section
open Go.RowKit
mutual
theorem pW {g : Nat} : ∀ (x y : D),reD (kphi (some g)) x = some y -> g ∉ y.ids
 | .bool b,y,h=>by simp only [reD,Jx] at h; subst h; simp [D.ids]
 | .int k n,y,h=>by simp only [reD,Jx] at h; subst h; simp [D.ids]
 | .str s,y,h=>by simp only [reD,Jx] at h; subst h; simp [D.ids]
 | .pl es, y, h => by
   simp only [reD] at h
   split at h
   ·cases h; simp [D.ids]
   ·cases h
 | .sl none T es, y, h => by
   simp only [reD] at h
   cases hr : reLL (kphi (some g)) es with
   | none=>simp [hr] at h
   | some ys =>
     simp only [hr,Jg,Jx] at h
     subst h
     simpa [D.ids] using kL es ys hr
 | .sl (some g') T es, y, h => by
   simp only [reD] at h
   by_cases hg : g = g'
   ·subst hg
    simp [kphi,badD] at h
   ·have hk : kphi (some g) g' = none:=by simp [kphi,hg]
    rw [hk] at h
    cases hr : reLL (kphi (some g)) es with
    | none=>simp [hr] at h
    | some ys =>
      simp only [hr,Jg,Jx] at h
      subst h
      simpa [D.ids,hg] using kL es ys hr
theorem uP {g : Nat} : ∀ (x y : List D),reL (kphi (some g)) x = some y -> g ∉ idsL y
 | [],y,h=>by simp only [reL,Jx] at h; subst h; simp [idsL]
 | x :: r, y, h => by
   simp only [reL] at h
   cases hx : reD (kphi (some g)) x with
   | none=>simp [hx] at h
   | some z =>
     cases hr : reL (kphi (some g)) r with
     | none=>simp [hx,hr] at h
     | some l =>
       simp only [hx,hr,Jx] at h
       subst h
       simp only [idsL,Qq,not_or]
       exact ⟨pW x z hx,uP r l hr⟩
theorem kL {g : Nat} : ∀ (x y : List (List D)),reLL (kphi (some g)) x = some y -> g ∉ idsLL y
 | [],y,h=>by simp only [reLL,Jx] at h; subst h; simp [idsLL]
 | x :: r, y, h => by
   simp only [reLL] at h
   cases hx : reL (kphi (some g)) x with
   | none=>simp [hx] at h
   | some z =>
     cases hr : reLL (kphi (some g)) r with
     | none=>simp [hx,hr] at h
     | some l =>
       simp only [hx,hr,Jx] at h
       subst h
       simp only [idsLL,Qq,not_or]
       exact ⟨uP x z hx,kL r l hr⟩
end
theorem zH (g : Nat) : nowr (kphi (some g)) = false:=by
 simp only [nowr,decide_eq_false_iff_not]
 intro h
 have:=h g
 simp [kphi] at this
theorem jX {g : Nat} {x y : D} (h : reD (kphi (some g)) x = some y) : y.hp = false:=by
 cases hy : y.hp with
 | false=>rfl
 | true =>
   have hx:=CG h hy
   cases x with
   | pl es=>simp only [reD,zH] at h; simp at h
   | _=>cases hx
theorem sH {g : Nat} {l l' : List (List D)} (h : reLL (kphi (some g)) l = some l') {i : Nat} {e : List D} (he : l'[i]? = some e) {j : Nat} {u : D} (hu : e[j]? = some u) : u.hp = false:=by
 obtain ⟨e0,_,h4⟩:=(gQ h).2 i e he
 obtain ⟨u0,_,h6⟩:=(fZ h4).2 j u hu
 exact jX h6
mutual
theorem nW {g : Nat} : ∀ (v : V),(reV (kphi (some g)) v).hp = false
 | .d x => by
   simp only [reV]
   cases hx : reD (kphi (some g)) x with
   | none=>simp [V.hp]
   | some y=>simpa [V.hp] using jX hx
 | .fptr x i o => by
   simp only [reV]
   cases hx : reD (kphi (some g)) x with
   | none=>simp [V.hp]
   | some y=>simpa [V.hp] using jX hx
 | .own _ _ _=>by simp [reV,V.hp]
 | .ptr _ _ _=>by simp [reV,V.hp]
 | .bad=>by simp [reV,V.hp]
 | .agg cs=>by simpa [reV,V.hp] using eU cs
 | .tup cs=>by simpa [reV,V.hp] using eU cs
 | .fn ff cs=>by simpa [reV,V.hp] using eU cs
theorem eU {g : Nat} : ∀ (l : List V),hpVL (reVL (kphi (some g)) l) = false
 | []=>by simp [reVL,hpVL]
 | v :: r=>by simp only [reVL,hpVL,Bool.or_eq_false_iff]; exact ⟨nW v,eU r⟩
end
mutual
theorem uQ {g : Nat} : ∀ (v : V),g ∉ (reV (kphi (some g)) v).ids
 | .d x => by
   simp only [reV]
   cases hx : reD (kphi (some g)) x with
   | none=>simp [V.ids]
   | some y=>simpa [V.ids] using pW x y hx
 | .fptr x i o => by
   simp only [reV]
   cases hx : reD (kphi (some g)) x with
   | none=>simp [V.ids]
   | some y=>simpa [V.ids] using pW x y hx
 | .own _ _ _=>by simp [reV,V.ids]
 | .ptr _ _ _=>by simp [reV,V.ids]
 | .bad=>by simp [reV,V.ids]
 | .agg cs=>by simpa [reV,V.ids] using iW cs
 | .tup cs=>by simpa [reV,V.ids] using iW cs
 | .fn ff cs=>by simpa [reV,V.ids] using iW cs
theorem iW {g : Nat} : ∀ (l : List V),g ∉ idsVL (reVL (kphi (some g)) l)
 | []=>by simp [reVL,idsVL]
 | v :: r=>by simp only [reVL,idsVL,Qq,not_or]; exact ⟨uQ v,iW r⟩
end
section
variable {ρ ρ' : Nat -> Option (Nat × Nat)} {m m' : Nat -> Option Blk} {S S' : Nat -> Prop} {w w' : World}
theorem DR.weak {x : D} {v : Value} (h : DR S w x v) (hh : x.hp = false) (hS : ∀ g ∈ x.ids,S g -> S' g) : DR S' w x v:=
 (h.strong hh).mono (fun g hg=>hS g hg.2 hg.1) (fun _ _=>rfl)
mutual
theorem VR.weak : ∀ (v : V) (val : Value),v.hp = false -> (∀ g ∈ v.ids,S g -> S' g) -> VR ρ m S w v val -> VR ρ m S' w v val
 | .d x,val,hh,hS,h=>by simp only [VR,V.ids,V.hp] at *; exact h.weak hh hS
 | .own k lo n,val,_,hS,h=>ly (KC.refl k) h
 | .ptr k i off,val,_,hS,h=>lz (KC.refl k) h
 | .fptr x i off, val, hh, hS, h => by
   simp only [VR,V.ids,V.hp] at *
   obtain ⟨a,n,c,sz,h1,h2⟩:=h
   exact ⟨a,n,c,sz,h1.weak hh hS,h2⟩
 | .bad,val,_,hS,h=>by simp [VR]
 | .agg cs, val, hh, hS, h => by
   simp only [VR,V.ids,V.hp] at *
   obtain ⟨l,h1,h2⟩:=h
   exact ⟨l,h1,LR.weak cs l hh hS h2⟩
 | .tup cs, val, hh, hS, h => by
   simp only [VR,V.ids,V.hp] at *
   obtain ⟨l,h1,h2⟩:=h
   exact ⟨l,h1,LR.weak cs l hh hS h2⟩
 | .fn ff cs, val, hh, hS, h => by
   simp only [VR,V.ids,V.hp] at *
   obtain ⟨l,h1,h2⟩:=h
   exact ⟨l,h1,LR.weak cs l hh hS h2⟩
theorem LR.weak : ∀ (l : List V) (vals : List Value),hpVL l = false -> (∀ g ∈ idsVL l,S g -> S' g) -> LR ρ m S w l vals -> LR ρ m S' w l vals
 | [],[],_,_,_=>by simp [LR]
 | [],_ :: _,_,_,h=>by simp [LR] at h
 | _ :: _,[],_,_,h=>by simp [LR] at h
 | c :: cs, v :: l, hh, hS, h => by
   simp only [LR,idsVL,Qq,hpVL,Bool.or_eq_false_iff] at *
   exact ⟨VR.weak c v hh.1 (fun g hg=>hS g (.inl hg)) h.1,LR.weak cs l hh.2 (fun g hg=>hS g (.inr hg)) h.2⟩
end
mutual
theorem nH (k : Nat) : ∀ v : V,wipe k (wipe k v) = wipe k v
 | .d x=>rfl
 | .own j lo n => by
   simp only [wipe]
   split
   ·rfl
   ·rename_i h; simp only [wipe,if_neg h]
 | .ptr j i o => by
   simp only [wipe]
   split
   ·rfl
   ·rename_i h; simp only [wipe,if_neg h]
 | .fptr _ _ _=>rfl
 | .bad=>rfl
 | .agg cs=>by simp only [wipe]; rw [jy k cs]
 | .tup cs=>by simp only [wipe]; rw [jy k cs]
 | .fn ff cs=>by simp only [wipe]; rw [jy k cs]
theorem jy (k : Nat) : ∀ l : List V,wipeL k (wipeL k l) = wipeL k l
 | []=>rfl
 | v :: r=>by simp only [wipeL]; rw [nH k v,jy k r]
end
theorem rP (k : Nat) (b : Blk) : (b.map (wipe k)).map (wipe k) = b.map (wipe k):=by
 cases b with
 | box cs=>simp [Blk.map,Function.comp_def,nH]
 | row T sz es=>rfl
theorem EF (σ : St) (k : Nat) (b b' : Blk) : (σ.lay k b).lay k b' = σ.lay k b':=by
 simp only [St.lay,St.mk.injEq,true_and]
 refine ⟨?_,?_⟩
 ·funext i; simp [mapV,nH]
 ·funext i
  simp only [upd,mapM]
  split
  ·rfl
  ·simp [Option.map_map,Function.comp_def,rP]
end
section
variable {P : Program} {E : Md} {A0 : Env} {N : Nat} {w0 : World} {ρ : Nat -> Option (Nat × Nat)} {σ : St} {a : Act} {w : World}
theorem Rel.kill (h : Rel A0 N w0 ρ σ a w) {g : Nat} (hS : Sof A0 σ.B ρ σ.m w g) : Rel A0 N w0 ρ (σ.kill (some g)) a w:=by
 have:=h.re (kphi (some g)) (w':=w) (hs':=σ.hs) h.below (Jv _) h.hs (Jv _) (fun _ _ _=>rfl) (fun g cur T f hc=>⟨cur,hc,rfl⟩)
  (fun g' hg' k b hk p hp=>?_) (fun g' T es hg'=>?_)
 ·exact this
 ·have : g = g':=by
   simp only [kphi] at hg'
   split at hg'
   ·rename_i he; cases he; rfl
   ·simp at hg'
  subst this
  exact hS.2.2 k b hk p hp
 ·simp only [kphi] at hg'
  split at hg' <;> simp [badD] at hg'
theorem su {g k : Nat} {b : Blk} (h : (σ.kill (some g)).m k = some b) : ∃ b0,σ.m k = some b0 /\ Blk.re (kphi (some g)) b0 = some b:=gA h
theorem Rel.thaw (h : Rel A0 N w0 ρ σ a w) {k : Nat} (hk : k < N) {g T sz : Nat} {es : List (List D)} {val : Value} (hd : DR (Sof A0 σ.B ρ σ.m w) w (.sl (some g) (some (T,sz)) es) val) (hB : σ.B <= g) (hes : g ∉ idsLL es) :
  ∃ cap,val = .slice (some ⟨g,0,none⟩) es.length cap /\ Rel A0 N w0 (upd ρ k (some (g,cap))) ((σ.kill (some g)).lay k (.row T sz es)) a w:=by
 have hk0 : ¬ Hk k:=mf (by have:=h.hN.1; omega)
 cases hd with
 | sl _ _ _ ad cap sz' vs hSg hab hcap hm hsz hc hdd hw hh =>
   obtain ⟨rfl,⟨hpos,hsz'⟩,cur,hcur,hcs⟩:=hw _ rfl
   simp only at hsz' hcur
   subst hsz'
   refine ⟨cap,rfl,?_⟩
   have h1:=h.kill hSg
   let S1 : Nat -> Prop:=fun j=>Sof A0 σ.B ρ (σ.kill (some g)).m w j /\ j ≠ g
   have hS1 : ∀ j,S1 j -> Sof A0 σ.B (upd ρ k (some (g,cap))) ((σ.kill (some g)).lay k (.row T sz' es)).m w j:=by
    intro j hj
    refine ⟨hj.1.1,hj.1.2.1,fun i b hi p hp=>?_⟩
    by_cases hik : i = k
    ·subst hik
     have : p = (g,cap):=by simpa [upd] using hp.symm
     subst this
     exact Ne.symm hj.2
    ·rw [cy _ _ _ _ hik] at hi
     have hp' : ρ i = some p:=by simpa [upd,hik] using hp
     cases hmi : (σ.kill (some g)).m i with
     | none=>simp [hmi] at hi
     | some b0=>exact hj.1.2.2 i b0 hmi p hp'
   have hkc : ∀ j,j ≠ k -> KC ρ (σ.kill (some g)).m (upd ρ k (some (g,cap))) ((σ.kill (some g)).lay k (.row T sz' es)).m j:=fun j hj=>rR _ k j _ hj
   have tm : ∀ i,g ∉ ((σ.kill (some g)).t i).ids:=fun i=>uQ (σ.t i)
   have hgown : ∀ i b p,σ.m i = some b -> ρ i = some p -> p.1 ≠ g:=fun i b p hi hp=>hSg.2.2 i b hi p hp
   have kp : kphi (some g) g = some badD:=by simp [kphi]
   refine ⟨h.below,h.hN,fun j hj=>by simpa [upd,hj.ne hk0] using h.key j hj,fun kk hkH=>?_,h.hG,h.hB,h.hs,h.hs0,h.defers,h.size,fun i=>?_,fun i b hi=>?_,fun i i' b b' p p' hi hi' hp hp' heq=>?_⟩
   ·rw [cy _ _ _ _ (hkH.ne hk0)]
    have:=h1.norow kk hkH
    cases hmm : (σ.kill (some g)).m kk with
    | none=>rfl
    | some b =>
      rw [hmm] at this
      cases b with
      | box cs=>rfl
      | row _ _ _=>cases this
   ·exact VR.wipe k hS1 (fun _ _=>rfl) hkc _ _ (VR.weak (S':=S1) _ _ (nW (σ.t i)) (fun j hj hS=>⟨hS,fun e=>tm i (e ▸ hj)⟩) (h1.tmps i))
   ·by_cases hik : i = k
    ·subst hik
     rw [bC] at hi
     cases hi
     have : upd ρ i (some (g,cap)) i = some (g,cap):=by simp [upd]
     rw [this]
     refine ⟨hpos,.inl hB,hm,hcap,cur,hcur,hcs,fun n e he=>⟨hsz n e he,fun j u hu=>?_⟩⟩
     have hcell:=hc n e he j u hu
     rw [bS,db hcur,Nat.zero_add] at hcell
     have hne : g ∉ u.ids:=fun hin=>hes (dE (Qk he) (fE (Qk hu) hin))
     refine ⟨_,hcell,(hdd n e he j u hu).weak (il hh he hu) fun q hq hS=>hS1 q ⟨⟨hS.1,hS.2.1,fun i' b' hi' p hp=>?_⟩,fun e=>hne (e ▸ hq)⟩⟩
     obtain ⟨b0,hb0,_⟩:=su hi'
     exact hS.2.2 i' b0 hb0 p hp
    ·rw [cy _ _ _ _ hik] at hi
     have hρ : upd ρ k (some (g,cap)) i = ρ i:=by simp [upd,hik]
     rw [hρ]
     cases hmi : (σ.kill (some g)).m i with
     | none=>simp [hmi] at hi
     | some b0 =>
       simp only [hmi,Jg,Jx] at hi
       subst hi
       have hmem:=h1.mem i b0 hmi
       obtain ⟨b1,hb1,hre⟩:=su hmi
       cases b1 with
       | box cs1 =>
         simp only [Blk.re,Jx] at hre
         subst hre
         obtain ⟨g',cap',hr',hB',cur',T',hc',hl'⟩:=hmem
         refine ⟨g',cap',hr',hB',cur',T',hc',?_⟩
         rw [<- gD]
         exact LR.wipe k hS1 (fun _ _=>rfl) hkc _ _ (LR.weak (S':=S1) _ _ (eU cs1) (fun j hj hS=>⟨hS,fun e=>iW cs1 (e ▸ hj)⟩) hl')
       | row T1 sz1 es1 =>
         simp only [Blk.re] at hre
         cases hr1 : reLL (kphi (some g)) es1 with
         | none=>simp [hr1] at hre
         | some ys =>
           simp only [hr1,Jg,Jx] at hre
           subst hre
           refine ⟨hmem.1,?_⟩
           have h3:=hmem.2
           cases hr' : ρ i with
           | none=>rw [hr'] at h3; exact h3
           | some p =>
             obtain ⟨g',cap'⟩:=p
             rw [hr'] at h3
             obtain ⟨hB',hc1,hc2,cur',hc',hcs',hall⟩:=h3
             refine ⟨hB',hc1,hc2,cur',hc',hcs',fun n e he=>⟨(hall n e he).1,fun j u hu=>?_⟩⟩
             obtain ⟨v,hv,hdv⟩:=(hall n e he).2 j u hu
             refine ⟨v,hv,hdv.weak (sH hr1 he hu) fun q hq hS=>hS1 q ⟨hS,fun e'=>?_⟩⟩
             exact kL es1 ys hr1 (dE (Qk he) (fE (Qk hu) (e' ▸ hq)))
   ·have key : ∀ i b p,((σ.kill (some g)).lay k (.row T sz' es)).m i = some b -> upd ρ k (some (g,cap)) i = some p -> i ≠ k -> ∃ b0,σ.m i = some b0 /\ ρ i = some p:=by
     intro i b p hi hp hik
     rw [cy _ _ _ _ hik] at hi
     cases hmi : (σ.kill (some g)).m i with
     | none=>simp [hmi] at hi
     | some b0 =>
       obtain ⟨b1,hb1,_⟩:=su hmi
       exact ⟨b1,hb1,by simpa [upd,hik] using hp⟩
    by_cases hik : i = k
    ·by_cases hik' : i' = k
     ·rw [hik,hik']
     ·subst hik
      have hpe : p = (g,cap):=by simpa [upd] using hp.symm
      obtain ⟨b0,hb0,hp0⟩:=key i' b' p' hi' hp' hik'
      exact absurd (heq.symm.trans (by rw [hpe])) (hgown i' b0 p' hb0 hp0)
    ·by_cases hik' : i' = k
     ·subst hik'
      have hpe : p' = (g,cap):=by simpa [upd] using hp'.symm
      obtain ⟨b0,hb0,hp0⟩:=key i b p hi hp hik
      exact absurd (heq.trans (by rw [hpe])) (hgown i b0 p hb0 hp0)
     ·obtain ⟨b0,hb0,hp0⟩:=key i b p hi hp hik
      obtain ⟨b0',hb0',hp0'⟩:=key i' b' p' hi' hp' hik'
      exact h.inj i i' b0 b0' p p' hb0 hb0' hp0 hp0' heq
variable {dst : Option Tmp} {ty : TypeId} {pos : String} {af : Array Edge} {gd : Option (Nat × Bool)}
theorem pg (h : Rel A0 N w0 ρ σ a w) (s x : Operand) (t dk : Nat) (hdk : dk < N) (ht : (tslice P t).isSome = true) (he : elOk σ.m (σ.ev x)) (hl : ∀ l ∈ elV σ.m (σ.ev x),l.length = (slT P t).2.1)
  {g : Nat} {es : List (List D)} (hs : σ.ev s = .d (.sl (some g) (some ((slT P t).1,(slT P t).2.1)) es)) (hB : σ.B <= g) (hgx : g ∉ (σ.ev x).ids) (hgn : g ∉ idsLL (elV σ.m (σ.ev x))) (hges : g ∉ idsLL es)
  (hroom : LenOk (slT P t).2.2 (es.length + (elV σ.m (σ.ev x)).length)) (hxh : hpLL (elV σ.m (σ.ev x)) = false) :
  EfsK P E A0 N w0 a w ⟨some dk,.call ⟨.builtin .append,#[s,x],#[t,t]⟩,ty,pos,af,gd⟩
   (((σ.kill (some g)).lay dk (.row (slT P t).1 (slT P t).2.1 (es ++ elV σ.m (σ.ev x)))).put (some dk) (.own dk 0 (es ++ elV σ.m (σ.ev x)).length)) (fun q=>g ≠ q):=by
 obtain ⟨e,inf,z,hu,hi,hz,hzs,hpos,hsl⟩:=dh ht
 simp only [hsl] at hl hs hroom ⊢
 obtain ⟨ad,cap,news,hxv,hflat,hne,hnews⟩:=qb h (h.ev x) he hpos hl
 generalize hxs : elV σ.m (σ.ev x) = xs at *
 obtain ⟨hby,hmax⟩:=hroom
 have hk1 : ¬ Hk dk:=mf (by have:=h.hN.1; omega)
 have hvs:=h.ev s
 rw [hs] at hvs
 simp only [VR] at hvs
 obtain ⟨cap0,hval,h2⟩:=h.thaw hdk hvs hB hges
 have hbk:=h2.mem dk _ (bC _ _ _)
 have hr2 : upd ρ dk (some (g,cap0)) dk = some (g,cap0):=by simp [upd]
 rw [hr2] at hbk
 simp only [Blk.map] at hbk
 obtain ⟨cur,hg,hcs,hf⟩:=Flat.of_blk hbk
 have hflat2 : Flat (Sof A0 σ.B (upd ρ dk (some (g,cap0))) ((σ.kill (some g)).lay dk (.row e inf.size es)).m w) w inf.size xs news:=by
  refine ⟨hflat.1,fun i e' he'=>⟨(hflat.2 i e' he').1,fun j u hu'=>?_⟩⟩
  obtain ⟨v,hv,hdv⟩:=(hflat.2 i e' he').2 j u hu'
  refine ⟨v,hv,hdv.weak (il hxh he' hu') fun q hq hS=>⟨hS.1,hS.2.1,fun i' b' hi' p hp=>?_⟩⟩
  have hqg : q ≠ g:=fun e0=>hgn (dE (Qk he') (fE (Qk hu') (e0 ▸ hq)))
  by_cases hik : i' = dk
  ·subst hik
   rw [hr2] at hp
   cases hp
   exact Ne.symm hqg
  ·rw [cy _ _ _ _ hik] at hi'
   have hp' : ρ i' = some p:=by simpa [upd,hik] using hp
   cases hmi : (σ.kill (some g)).m i' with
   | none=>simp [hmi] at hi'
   | some b0 =>
     obtain ⟨b1,hb1,_⟩:=su hmi
     exact hS.2.2 i' b1 hb1 p hp'
 have:=nL (P:=P) (E:=E) (ty:=ty) (pos:=pos) (af:=af) (gd:=gd) h2 s x t dk hdk hu hi hz hzs hpos hk1 hxv hflat2 hne hnews
  (.inr (.inr ⟨g,cap0,cur,bC _ _ _,hr2,hval,hbk.2.1,hbk.2.2.1,hbk.2.2.2.1,hg,hcs,hf⟩)) hby hmax
 rw [EF] at this
 obtain ⟨val,w',ρ',k1,k2,k3,k4⟩:=this
 exact ⟨val,w',ρ',k1,k2,k3,fun q hq hG=>k4 q hq fun b0 p _ hp=>by rw [hr2] at hp; cases hp; exact hG⟩
end
end
section
open Go.RowKit
theorem ue {l : List V} (h : hpVL l = false) {v : V} (hv : v ∈ l) : v.hp = false:=by
 induction l with
 | nil=>cases hv
 | cons x r ih =>
   simp only [hpVL,Bool.or_eq_false_iff] at h
   rcases Zz.1 hv with rfl | hv
   ·exact h.1
   ·exact ih h.2 hv
theorem BN {es : List (List D)} (h : hpLL es = false) (i : Nat) {e : List D} (he : ∀ u ∈ e,u.hp = false) : hpLL (es.set i e) = false:=by
 simp only [hpLL,hpL,List.any_eq_false,Bool.not_eq_true] at *
 intro e' he' u hu
 rcases List.mem_or_eq_of_mem_set he' with h1 | h1
 ·exact h e' h1 u hu
 ·exact he u (h1 ▸ hu)
section
variable {P : Program} {E : Md} {A0 : Env} {N : Nat} {w0 : World} {ρ : Nat -> Option (Nat × Nat)} {σ : St} {a : Act} {w : World}
variable {S : Nat -> Prop} {dst : Option Tmp} {ty : TypeId} {pos : String} {af : Array Edge} {gd : Option (Nat × Bool)}
theorem yl (h : Rel A0 N w0 ρ σ a w) (k : Nat) (hk : k < N) {T sz n : Nat} {es : List (List D)} {cs : Array Value} (hpos : 0 < sz) (hlen : es.length = n) (hn : n <= maxLen) (hcs : cs.size = n * sz)
  (hf : Flat (Sof A0 σ.B ρ σ.m w) w sz es cs.toList) :
  Rel A0 N w0 (upd ρ k (some (w.heap.size,n))) ((σ.lay k (.row T sz es)).put (some k) (.own k 0 n)) (a.put (some k) (.slice (some ⟨w.heap.size,0,none⟩) n n)) (w.alloc (.cells cs T)):=by
 have hBsz : σ.B <= w.heap.size:=by rw [h.hB]; exact h.below.size
 refine h.new k hk _ n ((Below.refl _ _).alloc (Jv _) _) _ _ (fun hS hw=>?_) (fun S=>?_)
 ·refine Flat.blk hpos (.inl hBsz) hn (by omega) (heap_alloc_new w _) hcs ?_
  have : cs.toList.take (es.length * sz) = cs.toList:=Jj (by simp [hcs,hlen])
  rw [this]
  exact hf.mono hS hw
 ·simp only [VR,bC,Blk.map]
  refine ⟨by omega,?_⟩
  have : upd ρ k (some (w.heap.size,n)) k = some (w.heap.size,n):=by simp [upd]
  rw [this]
  exact ⟨_,_,rfl,rfl,Jv _,hn,fun _=>⟨rfl,rfl⟩,fun _=>by simp⟩
theorem tQ (h : Rel A0 N w0 ρ σ a w) (T : TypeId) (l c : Operand) (k : Nat) (hk : k < N) (h1 : (tslice P T).isSome = true) (h2 : (tzero P (slT P T).1).isSome = true) (h3 : kOf (σ.ev l) = some .i64) (h4 : kOf (σ.ev c) = some .i64)
  (h5 : getZ (σ.ev c) = getZ (σ.ev l)) (h6 : 0 <= getZ (σ.ev l)) (h7 : LenOk (slT P T).2.2 (getZ (σ.ev l)).toNat) :
  Efs P E A0 N w0 a w ⟨some k,.makeSlice T l c,ty,pos,af,gd⟩ ((σ.lay k (.row (slT P T).1 (slT P T).2.1 (List.replicate (getZ (σ.ev l)).toNat (zrT P (slT P T).1)))).put (some k) (.own k 0 (getZ (σ.ev l)).toNat)):=by
 obtain ⟨e,inf,z,hu,hi,hz,hzs,hpos,hsl⟩:=dh h1
 simp only [hsl] at h2 h7 ⊢
 have hl:=iJ (h.ev l) h3
 have hc:=iJ (h.ev c) h4
 rw [h5] at hc
 obtain ⟨n,hn⟩:=Int.eq_ofNat_of_zero_le h6
 rw [hn] at hl hc h7 ⊢
 simp only [Int.toNat_natCast] at h7 ⊢
 obtain ⟨hby,hmax⟩:=h7
 obtain ⟨inf',z',hi',hz',hzc⟩:=qv h2
 rw [hi] at hi'; cases hi'
 rw [hz] at hz'; cases hz'
 have hr := run_make (P := P) w T e inf z hu hi hz .i64 .i64 n n (by omega) (Int.le_refl _) (by rw [Int.mul_comm]; have : ((n * inf.bytes : Nat) : Int) ≤ 140737488355328 := by omega
                                                                                                rw [Int.natCast_mul] at this; omega) (by simp [maxLen] at hmax; omega)
 simp only [Int.toNat_natCast] at hr
 have hzl : (zrT P e).length = inf.size:=by
  have:=(ey (ρ:=ρ) (S:=fun _=>True) (w:=w) (m:=σ.m) _ _ hzc).length
  simp at this; omega
 refine ⟨_,_,_,.inl ?_,fun _=>Ext.alloc _ _,yl h k hk hpos (by simp) hmax (size_madeCells z.cells _) ⟨by simp [size_madeCells],fun i e' he=>?_⟩⟩
 ·simp [execOp,hl,hc,hr,Jh,Qj,Result.andThen]
 ·rw [List.getElem?_replicate] at he
  split at he
  case isFalse=>cases he
  rename_i hlt
  cases he
  refine ⟨hzl,fun j u hu'=>?_⟩
  have hj : j < inf.size:=by rw [<- hzl]; exact (Qx.1 hu').1
  have hzz:=ey (ρ:=ρ) (S:=Sof A0 σ.B ρ σ.m w) (w:=w) (m:=σ.m) _ _ hzc
  obtain ⟨v,hv,hd⟩:=hzz.get j (.d u) (by simp [hu'])
  simp only [VR] at hd
  refine ⟨v,?_,hd⟩
  have hidx:=sq hlt hj
  have hmod : (i * inf.size + j) % z.cells.size = j:=by
   rw [hzs,Nat.add_comm,Nat.add_mul_mod_self_right,Nat.mod_eq_of_lt hj]
  have hj' : j < z.cells.size:=by omega
  have hvj : z.cells[j] = v:=by simpa [hj'] using hv
  simp [madeCells,hidx,hmod,hj',hvj]
theorem Rel.setBlk (h : Rel A0 N w0 ρ σ a w) {k : Nat} {b b' : Blk} (hm : σ.m k = some b) {w' : World} (hrow : bF (some b') = bF (some b)) (hbel : Bel A0.G w0.heap.size w0 w') (hsz : w.heap.size <= w'.heap.size)
  (hsame : ∀ g,(∀ p,ρ k = some p -> p.1 ≠ g) -> w'.heap[g]? = w.heap[g]?)
  (hk : ∀ j,KC ρ σ.m ρ (upd σ.m k (some b')) j)
  (hb : (∀ g,Sof A0 σ.B ρ σ.m w g -> Sof A0 σ.B ρ (upd σ.m k (some b')) w' g) -> (∀ g,Sof A0 σ.B ρ σ.m w g -> w'.heap[g]? = w.heap[g]?) ->
   BlkR (Gk A0.G k) (Ak A0.A k) ρ (upd σ.m k (some b')) (Sof A0 σ.B ρ (upd σ.m k (some b')) w') σ.B w' (ρ k) b') :
  Rel A0 N w0 ρ { σ with m:=upd σ.m k (some b') } a w':=by
 have hback : ∀ j c,upd σ.m k (some b') j = some c -> ∃ c0,σ.m j = some c0:=by
  intro j c hj
  by_cases hjk : j = k
  ·subst hjk; exact ⟨b,hm⟩
  ·simp only [upd,hjk,if_false] at hj; exact ⟨c,hj⟩
 have hS : ∀ g,Sof A0 σ.B ρ σ.m w g -> Sof A0 σ.B ρ (upd σ.m k (some b')) w' g:=by
  intro g hg
  refine ⟨hg.1,by have:=hg.2.1; omega,fun j c hj p hp=>?_⟩
  obtain ⟨c0,hc0⟩:=hback j c hj
  exact hg.2.2 j c0 hc0 p hp
 have hw : ∀ g,Sof A0 σ.B ρ σ.m w g -> w'.heap[g]? = w.heap[g]?:=fun g hg=>hsame g fun p hp=>hg.2.2 k b hm p hp
 have hold : ∀ j c p,j ≠ k -> σ.m j = some c -> ρ j = some p -> w'.heap[p.1]? = w.heap[p.1]?:=by
  intro j c p hjk hj hp
  exact hsame p.1 fun q hq heq=>hjk (h.inj j k c b p q hj hm hp hq heq.symm)
 refine ⟨hbel,h.hN,h.key,fun kk hkH=>?_,h.hG,h.hB,Zy h.hs hsz,h.hs0,h.defers,h.size,fun i=>VR.mono hS hw hk _ _ (h.tmps i),fun j c hj=>?_,fun j j' c c' p p' hj hj' hp hp' heq=>?_⟩
 ·show bF (upd σ.m k (some b') kk) = false
  have:=h.norow kk hkH
  simp only [upd]
  split
  ·rename_i h0; rw [h0,hm] at this; rw [hrow]; exact this
  ·exact this
 ·by_cases hjk : j = k
  ·subst hjk
   simp only [upd,if_true] at hj
   cases hj
   exact hb hS hw
  ·have hj' : σ.m j = some c:=by simpa [upd,hjk] using hj
   have:=h.mem j c hj'
   cases c with
   | box cs =>
     obtain ⟨g,cap,hr',hB,cur,T,hc,hl⟩:=this
     exact ⟨g,cap,hr',hB,cur,T,(hold j _ (g,cap) hjk hj' hr').trans hc,LR.mono hS hw hk _ _ hl⟩
   | row T sz es =>
     refine ⟨this.1,?_⟩
     have h3:=this.2
     cases hr' : ρ j with
     | none=>rw [hr'] at h3; exact h3
     | some p =>
       obtain ⟨g,cap⟩:=p
       rw [hr'] at h3
       obtain ⟨hB,hc1,hc2,cur,hc,hcs,hall⟩:=h3
       refine ⟨hB,hc1,hc2,cur,(hold j _ (g,cap) hjk hj' hr').trans hc,hcs,fun i e he=>⟨(hall i e he).1,fun n u hu=>?_⟩⟩
       obtain ⟨v,hv,hd⟩:=(hall i e he).2 n u hu
       exact ⟨v,hv,hd.mono hS hw⟩
 ·obtain ⟨c0,hc0⟩:=hback j c hj
  obtain ⟨c0',hc0'⟩:=hback j' c' hj'
  exact h.inj j j' c0 c0' p p' hc0 hc0' hp hp' heq
theorem oI {l : List V} (h : l.all isD = true) (i : Nat) (c : V) (hc : l[i]? = some c) : c = .d (dD c):=by
 have:=Jk.1 h c (Qk hc)
 cases c <;> simp_all [isD,dD]
theorem LR.one {l : List V} {vs : List Value} {m : Nat -> Option Blk} (h : LR ρ m S w l vs) (hl : l.all (live m) = true) : ∀ v ∈ vs,v.oneCell' = true:=by
 intro v hv
 obtain ⟨n,hn⟩:=List.mem_iff_getElem?.1 hv
 have hlt : n < l.length:=by rw [h.length]; exact (Qx.1 hn).1
 obtain ⟨u,hu,hd⟩:=h.get n _ (Jw hlt)
 rw [hn] at hu; cases hu
 exact (lL hd (Jk.1 hl _ (Jy hlt))).2.2
theorem qG {l : List V} {m : Nat -> Option Blk} (h : l.all isD = true) : l.all (live m) = true:=by
 rw [Jk] at h ⊢
 intro c hc
 have:=h c hc
 cases c <;> simp_all [isD,live]
theorem jg {v : V} {m : Nat -> Option Blk} (h : v.cells.all isD = true) : dZ m v:=by
 cases v <;> simp_all [V.cells,isD,dZ]
theorem dS {α : Type} (l : List α) (off : Nat) (news : List α) (h : off + news.length <= l.length) : (splice l off news).length = l.length:=by
 simp [splice]; omega
theorem jk {α : Type} (l : List α) (off : Nat) (news : List α) (h : off + news.length <= l.length) (i : Nat) :
  (splice l off news)[i]? = if off <= i /\ i < off + news.length then news[i - off]? else l[i]?:=by
 simp only [splice,List.getElem?_append,Qw,Zq,List.getElem?_take,List.getElem?_drop]
 grind
theorem rf {c : V} : ∀ {l : List V},c ∈ l -> ∀ {i : Nat},i ∈ c.ids -> i ∈ idsVL l
 | [],h,_,_=>by cases h
 | b :: r, h, i, hi => by
   simp only [idsVL,Qq]
   rcases Zz.1 h with rfl | h
   ·exact .inl hi
   ·exact .inr (rf h hi)
theorem Shp.setRow {g : Nat} {cur new : Array Value} {T : TypeId} {f : Nat × Nat} (hg : w.heap[g]? = some (.cells cur T f)) (hn : new.size = cur.size) : Shp w (w.setRow g new):=by
 intro j c T' f' hc
 by_cases hjg : j = g
 ·subst hjg
  rw [hg] at hc
  cases hc
  exact ⟨new,setRow_heap w j cur _ T _ hg,hn⟩
 ·exact ⟨c,(setRow_other w g j _ hjg).trans hc,rfl⟩
theorem Ei (h : Rel A0 N w0 ρ σ a w) (T : TypeId) (x y : Operand) (hd : ∀ t,dst = some t -> t < N) (hp : vpre P ⟨dst,.store T x y,ty,pos,af,gd⟩ σ) :
  Efs P E A0 N w0 a w ⟨dst,.store T x y,ty,pos,af,gd⟩ (veff P ⟨dst,.store T x y,ty,pos,af,gd⟩ σ):=by
 simp only [vpre,stOk] at hp
 obtain ⟨h1,hp⟩:=hp
 obtain ⟨sz,hsz⟩:=Zx.1 h1
 have hszT : szT P T = sz:=by simp [szT,hsz]
 rw [hszT] at hp
 cases hx : σ.ev x with
 | ptr k i off =>
   simp only [hx] at hp
   obtain ⟨hcl,hp⟩:=hp
   have hvx:=h.ev x
   rw [hx] at hvx
   simp only [VR] at hvx
   have hvy:=h.ev y
   cases hm : σ.m k with
   | none=>simp [hm] at hp
   | some b =>
     have hb:=h.mem k b hm
     have fin : ∀ (g o : Nat) (cur : Array Value) (Tb : TypeId) (b' : Blk),a.eval x = .pointer (some ⟨g,o,none⟩) -> bF (some b') = bF (some b) -> (∃ cap,ρ k = some (g,cap)) -> w.heap[g]? = some (.cells cur Tb (0,0)) -> (σ.B <= g \/ A0.G g) ->
       dZ σ.m (σ.ev y) -> (σ.ev y).cells.all (live σ.m) = true -> o + (σ.ev y).cells.length <= cur.size -> (∀ j,KC ρ σ.m ρ (upd σ.m k (some b')) j) ->
       (∀ (vs : List Value) (w' : World),LR ρ σ.m (Sof A0 σ.B ρ σ.m w) w (σ.ev y).cells vs -> vs.length = (σ.ev y).cells.length -> w'.heap[g]? = some (.cells (splice cur.toList o vs).toArray Tb (0,0)) ->
        (∀ g,Sof A0 σ.B ρ σ.m w g -> Sof A0 σ.B ρ (upd σ.m k (some b')) w' g) -> (∀ g,Sof A0 σ.B ρ σ.m w g -> w'.heap[g]? = w.heap[g]?) ->
        BlkR (Gk A0.G k) (Ak A0.A k) ρ (upd σ.m k (some b')) (Sof A0 σ.B ρ (upd σ.m k (some b')) w') σ.B w' (ρ k) b') ->
       Efs P E A0 N w0 a w ⟨dst,.store T x y,ty,pos,af,gd⟩ ({ σ with m:=upd σ.m k (some b') }.put dst (.tup [])):=by
      intro g o cur Tb b' hax hrw ⟨cap,hρ⟩ hg hB hok hlv hfit hkc hblk
      have hLR:=jJ hvy hok
      have hvl : (a.eval y).cells.toList.length = (σ.ev y).cells.length:=hLR.length.symm
      have hst:=run_storeCells_at P g o Tb (a.eval y).cells.toList 0 cur w hg (by simp only [Nat.add_zero]; omega) (LR.one hLR hlv)
      simp only [Nat.add_zero] at hst
      have hcsz : (a.eval y).cells.size = sz:=by have:=hvl; simp at this; omega
      have hbel : Bel A0.G w0.heap.size w (w.setRow g (cur.toList.take o ++ (a.eval y).cells.toList ++ cur.toList.drop (o + (a.eval y).cells.toList.length)).toArray):=
       Bel.setRow hg (by simp at hvl ⊢; omega) (by rw [<- h.hB]; exact hB)
      refine ⟨undef,_,ρ,.inr ⟨?_,rfl⟩,fun hE=>(by simp [effOp] at hE),(h.setBlk hm hrw (h.below.trans hbel) (by simp [World.setRow]) (fun g' hno=>setRow_other w g g' _ (fun heq=>hno _ hρ heq.symm)) hkc
       (fun hS hw=>hblk _ _ hLR hvl (setRow_heap w g cur _ Tb _ hg) hS hw)).put dst hd (by simp only [VR]; exact ⟨[],rfl,by simp [LR]⟩)⟩
      simp [execOp,Instr.storeAt,Instr.sureAddr,hax,storeVar,mN hsz,hcsz,hst,Jh,Qj,Result.andThen]
     cases b with
     | box cs =>
       simp only [hm] at hp hvx
       obtain ⟨rfl,hfit,hok,hlv⟩:=hp
       obtain ⟨_,g,cap,hr,hax⟩:=hvx
       obtain ⟨g',cap',hr',hB,cur,Tb,hc,hl⟩:=hb
       rw [hr] at hr'; cases hr'
       have hcur : cs.length = cur.size:=by simpa using hl.length
       have hkc : ∀ j,KC ρ σ.m ρ (upd σ.m k (some (.box (splice cs off (σ.ev y).cells)))) j:=by
        intro j
        by_cases hjk : j = k
        ·subst hjk; simp only [KC,upd,if_true]; exact ⟨trivial,cs,hm⟩
        ·have:=KC.refl (ρ:=ρ) (m:=σ.m) j
         unfold KC at this ⊢
         simpa [upd,hjk] using this
       have:=fin g off cur Tb (.box (splice cs off (σ.ev y).cells)) hax rfl ⟨cap,hr⟩ hc (hB.imp id And.right) hok hlv (by omega) hkc (fun vs w' hLR hlen hg' hS hw=>by
        refine ⟨g,cap,hr,hB,_,Tb,hg',?_⟩
        simp only
        exact (LR.mono hS hw hkc _ _ hl).splice (LR.mono hS hw hkc _ _ hLR) off)
       simpa only [veff,stSt,hx,hm] using this
     | row Te esz es =>
       simp only [hm] at hp
       obtain ⟨hi,hfit,hall⟩:=hp
       simp only [hm] at hvx
       obtain ⟨g,cap,hr,hax⟩:=hvx
       obtain ⟨hpos,hrow⟩:=hb
       rw [hr] at hrow
       obtain ⟨hB,hc1,hc2,cur,hc,hcs,hrows⟩:=hrow
       have he : es[i]? = some (es.getD i []):=by simp [List.getD,Jw hi]
       have hel:=(hrows i _ he).1
       have hkc : ∀ j,KC ρ σ.m ρ (upd σ.m k (some (.row Te esz (es.set i (splice (es.getD i []) off ((σ.ev y).cells.map dD)))))) j:=by
        intro j
        by_cases hjk : j = k
        ·subst hjk; simp only [KC,upd,if_true]; exact ⟨trivial,Te,es,hm,by simp⟩
        ·have:=KC.refl (ρ:=ρ) (m:=σ.m) j
         unfold KC at this ⊢
         simpa [upd,hjk] using this
       have hidx : i * esz + off + (σ.ev y).cells.length <= cur.size:=by
        have h1 : (i + 1) * esz <= cap * esz:=Zk _ (by omega)
        rw [Nat.add_mul] at h1
        omega
       have:=fin g (i * esz + off) cur Te (.row Te esz (es.set i (splice (es.getD i []) off ((σ.ev y).cells.map dD)))) hax rfl ⟨cap,hr⟩ hc (hB.imp id fun h=>h.1.2) (jg hall) (qG hall) hidx hkc (fun vs w' hLR hlen hg' hS hw=>by
        rw [hr]
        refine ⟨hpos,hB,hc1,by simpa using hc2,_,hg',by simp only [List.size_toArray]; rw [dS _ _ _ (by simp; omega)]; simpa using hcs,fun i' e' he'=>?_⟩
        rw [List.getElem?_set] at he'
        have hget : ∀ n,(splice cur.toList (i * esz + off) vs).toArray[n]? = if i * esz + off <= n /\ n < i * esz + off + vs.length then vs[n - (i * esz + off)]? else cur[n]?:=by
         intro n
         have:=jk cur.toList (i * esz + off) vs (by simp; omega) n
         simpa using this
        split at he'
        ·rename_i heq
         subst heq
         cases he'
         refine ⟨by rw [dS _ _ _ (by rw [List.length_map]; omega)]; exact hel,fun j u hu=>?_⟩
         rw [jk _ _ _ (by rw [List.length_map]; omega)] at hu
         rw [hget]
         simp only [List.length_map] at hu
         split at hu
         ·rename_i hj
          rw [if_pos (by omega)]
          rw [List.getElem?_map] at hu
          cases hcj : (σ.ev y).cells[j - off]? with
          | none=>simp [hcj] at hu
          | some c =>
            simp only [hcj,Jg,Jx] at hu
            obtain ⟨v,hv,hdv⟩:=hLR.get _ c hcj
            rw [oI hall _ _ hcj] at hdv
            simp only [VR] at hdv
            rw [hu] at hdv
            refine ⟨v,?_,hdv.mono hS hw⟩
            rw [<- hv]; congr 1; omega
         ·rename_i hj
          have hjl : j < esz:=by rw [<- hel]; exact (Qx.1 hu).1
          rw [if_neg (by omega)]
          obtain ⟨v,hv,hdv⟩:=(hrows i _ he).2 j u hu
          exact ⟨v,hv,hdv.mono hS hw⟩
        ·rename_i hne
         refine ⟨(hrows i' e' he').1,fun j u hu=>?_⟩
         obtain ⟨v,hv,hdv⟩:=(hrows i' e' he').2 j u hu
         refine ⟨v,?_,hdv.mono hS hw⟩
         rw [hget]
         have hjl : j < esz:=by rw [<- (hrows i' e' he').1]; exact (Qx.1 hu).1
         rw [if_neg,hv]
         rintro ⟨h1,h2⟩
         have h3 : off + vs.length <= esz:=by omega
         rcases Nat.lt_or_gt_of_ne hne with hlt | hgt
         ·have : (i + 1) * esz <= i' * esz:=Zk _ hlt
          rw [Nat.add_mul] at this
          omega
         ·have : (i' + 1) * esz <= i * esz:=Zk _ hgt
          rw [Nat.add_mul] at this
          omega)
       simpa only [veff,stSt,hx,hm] using this
 | fptr xd i off =>
   cases xd with
   | sl id wh es =>
     cases id with
     | none=>simp [hx] at hp
     | some g =>
       cases wh with
       | none=>simp [hx] at hp
       | some Te =>
         simp only [hx] at hp
         obtain ⟨hcl,hi,hfit,hall,hwr,hgy,hges,hyh⟩:=hp
         have hvx:=h.ev x
         rw [hx] at hvx
         simp only [VR] at hvx
         obtain ⟨ad,n,c,sz0,hD,hsz0,_,hax⟩:=hvx
         have hvy:=h.ev y
         cases hD with
         | sl _ _ _ _ _ sz' vs hSg hab hcap hm hszs hc hdd hw hh =>
           obtain ⟨rfl,⟨hpos,hsz'⟩,cur,hcur,hcs⟩:=hw _ rfl
           have he : es[i]? = some (es.getD i []):=by simp [List.getD,Jw hi]
           have hel:=hszs i _ he
           have hez : sz0 = sz':=by rw [<- hel]; exact (hsz0 _ (Qk he)).symm
           subst hez
           rw [bS,Nat.zero_add] at hax
           have hok:=jg (m:=σ.m) hall
           have hlv:=qG (m:=σ.m) hall
           have hLR:=jJ hvy hok
           have hvl : (a.eval y).cells.toList.length = (σ.ev y).cells.length:=hLR.length.symm
           have hfit2 : i * sz0 + off + (σ.ev y).cells.length <= cur.size:=by
            have h1 : (i + 1) * sz0 <= c * sz0:=Zk _ (by omega)
            rw [Nat.add_mul] at h1
            omega
           have hst:=run_storeCells_at P g (i * sz0 + off) Te.1 (a.eval y).cells.toList 0 cur w hcur (by simp only [Nat.add_zero]; omega) (LR.one hLR hlv)
           simp only [Nat.add_zero] at hst
           have hcsz : (a.eval y).cells.size = sz:=by have:=hvl; simp at this; omega
           generalize hnew : (cur.toList.take (i * sz0 + off) ++ (a.eval y).cells.toList ++ cur.toList.drop (i * sz0 + off + (a.eval y).cells.toList.length)).toArray = new at hst
           have hnsz : new.size = cur.size:=by rw [<- hnew]; simp at hvl ⊢; omega
           have hget : ∀ n,new[n]? = if i * sz0 + off <= n /\ n < i * sz0 + off + (a.eval y).cells.toList.length then (a.eval y).cells.toList[n - (i * sz0 + off)]? else cur[n]?:=by
            intro n
            have:=jk cur.toList (i * sz0 + off) (a.eval y).cells.toList (by have:=hvl; simp only [Array.length_toList] at this ⊢; omega) n
            rw [<- hnew]
            simpa [splice] using this
           have hGg : A0.G g \/ σ.B <= g:=by
            rcases hwr with h1 | h1
            ·exact .inr h1
            ·exact .inl (h.hG g h1)
           have hbel : Bel A0.G w0.heap.size w (w.setRow g new):=Bel.setRow hcur hnsz (by rw [<- h.hB]; exact hGg.symm)
           have hcur' : (w.setRow g new).heap[g]? = some (.cells new Te.1 (0,0)):=setRow_heap w g cur _ _ _ hcur
           have hother : ∀ j,j ≠ g -> (w.setRow g new).heap[j]? = w.heap[j]?:=fun j hj=>setRow_other w g j _ hj
           have hre:=h.re (one g (.sl (some g) (some Te) (es.set i (splice (es.getD i []) off ((σ.ev y).cells.map dD))))) (w':=w.setRow g new) (hs':=σ.hs) (h.below.trans hbel) (by simp [World.setRow]) (by have:=h.hs; simpa [World.setRow] using this) (Jv _)
            (fun j hj hn=>hother j (by rintro rfl; simp [one] at hn)) (Shp.setRow hcur hnsz)
            (fun j hj k b hk p hp=>by
             have : j = g:=by
              simp only [one] at hj
              split at hj
              ·assumption
              ·simp at hj
             subst this
             exact hSg.2.2 k b hk p hp)
            (fun j T' es' hj=>by
             have hjg : j = g:=by
              simp only [one] at hj
              split at hj
              ·assumption
              ·cases hj
             subst hjg
             simp only [one,if_true,Jx,D.sl.injEq,true_and] at hj
             obtain ⟨rfl,rfl⟩:=hj
             have hSnew : ∀ q,Sof A0 σ.B ρ σ.m w q -> Sof A0 σ.B ρ (σ.re (one j (.sl (some j) (some Te) (es.set i (splice (es.getD i []) off ((σ.ev y).cells.map dD)))))).m (w.setRow j new) q:=fun q hq=>
              ⟨hq.1,by have:=hq.2.1; simpa [World.setRow] using this,fun k b hk p hp=>by obtain ⟨b0,hb0,_⟩:=gA hk; exact hq.2.2 k b0 hb0 p hp⟩
             have mv : ∀ {u : D} {v : Value},j ∉ u.ids -> DR (Sof A0 σ.B ρ σ.m w) w u v -> u.hp = false -> DR (Sof A0 σ.B ρ (σ.re (one j (.sl (some j) (some Te) (es.set i (splice (es.getD i []) off ((σ.ev y).cells.map dD)))))).m (w.setRow j new)) (w.setRow j new) u v:=by
              intro u v hju hdu huh
              exact (hdu.strong huh).mono (fun q hq=>hSnew q hq.1) (fun q hq=>hother q fun e=>hju (e ▸ hq.2))
             refine ⟨.slice (some ⟨j,0,none⟩) (es.set i (splice (es.getD i []) off ((σ.ev y).cells.map dD))).length c,?_⟩
             have hspl : (splice (es.getD i []) off ((σ.ev y).cells.map dD)).length = sz0:=by rw [dS _ _ _ (by rw [List.length_map]; omega)]; exact hel
             have cells_of : ∀ (i' : Nat) (e : List D),(es.set i (splice (es.getD i []) off ((σ.ev y).cells.map dD)))[i']? = some e -> e.length = sz0 /\ ∀ (n : Nat) (u : D),e[n]? = some u ->
               ∃ v,new[i' * sz0 + n]? = some v /\ DR (Sof A0 σ.B ρ (σ.re (one j (.sl (some j) (some Te) (es.set i (splice (es.getD i []) off ((σ.ev y).cells.map dD)))))).m (w.setRow j new)) (w.setRow j new) u v:=by
              intro i' e he'
              rw [List.getElem?_set] at he'
              split at he'
              ·rename_i heq
               subst heq
               cases he'
               refine ⟨hspl,fun n u hu=>?_⟩
               rw [jk _ _ _ (by rw [List.length_map]; omega)] at hu
               rw [hget]
               simp only [List.length_map] at hu
               split at hu
               ·rename_i hj
                rw [if_pos (by omega)]
                rw [List.getElem?_map] at hu
                cases hcj : (σ.ev y).cells[n - off]? with
                | none=>simp [hcj] at hu
                | some cc =>
                  simp only [hcj,Jg,Jx] at hu
                  obtain ⟨v,hv,hdv⟩:=hLR.get _ cc hcj
                  have hcd:=oI hall _ _ hcj
                  have hids : j ∉ cc.ids:=fun hin=>hgy (rf (Qk hcj) hin)
                  rw [hcd] at hdv hids
                  simp only [VR,V.ids] at hdv hids
                  have hch:=ue hyh (Qk hcj)
                  rw [hcd] at hch
                  simp only [V.hp] at hch
                  rw [hu] at hdv hids hch
                  refine ⟨v,?_,mv hids hdv hch⟩
                  rw [<- hv]; congr 1; omega
               ·rename_i hj
                have hjl : n < sz0:=by rw [<- hel]; exact (Qx.1 hu).1
                rw [if_neg (by omega)]
                have h1:=hc i _ he n u hu
                rw [bS,db hcur,Nat.zero_add] at h1
                exact ⟨_,h1,mv (fun hin=>hges (dE (Qk he) (fE (Qk hu) hin))) (hdd i _ he n u hu) (il hh he hu)⟩
              ·rename_i hne
               refine ⟨hszs i' e he',fun n u hu=>?_⟩
               have h1:=hc i' e he' n u hu
               rw [bS,db hcur,Nat.zero_add] at h1
               refine ⟨_,?_,mv (fun hin=>hges (dE (Qk he') (fE (Qk hu) hin))) (hdd i' e he' n u hu) (il hh he' hu)⟩
               rw [hget]
               have hjl : n < sz0:=by rw [<- hszs i' e he']; exact (Qx.1 hu).1
               rw [if_neg,h1]
               rintro ⟨h1,h2⟩
               have h3 : off + (a.eval y).cells.toList.length <= sz0:=by omega
               rcases Nat.lt_or_gt_of_ne hne with hlt | hgt
               ·have : (i + 1) * sz0 <= i' * sz0:=Zk _ hlt
                rw [Nat.add_mul] at this
                omega
               ·have : (i' + 1) * sz0 <= i * sz0:=Zk _ hgt
                rw [Nat.add_mul] at this
                omega
             have hpick : ∀ n : Nat,∃ v,∀ (i' : Nat) (e : List D),(es.set i (splice (es.getD i []) off ((σ.ev y).cells.map dD)))[i']? = some e -> ∀ (q : Nat) (u : D),e[q]? = some u -> i' * sz0 + q = n -> new[n]? = some v:=by
              intro n
              cases hn : new[n]? with
              | some v=>exact ⟨v,fun _ _ _ _ _ _ _=>rfl⟩
              | none =>
                refine ⟨undef,fun i' e he' q u hu hq=>?_⟩
                obtain ⟨v,hv,_⟩:=(cells_of i' e he').2 q u hu
                rw [hq,hn] at hv
                cases hv
             obtain ⟨vs',hvs'⟩:=Classical.axiomOfChoice hpick
             exact DR.sl j (some Te) _ ⟨j,0,none⟩ c sz0 vs' (hSnew j hSg) (fun _=>rfl) (by simpa using hcap) hm (fun i' e he'=>(cells_of i' e he').1)
              (fun i' e he' q u hu=>by rw [bS,db hcur',Nat.zero_add]; exact hvs' _ i' e he' q u hu rfl)
              (fun i' e he' q u hu=>by
               obtain ⟨v,hv,hdv⟩:=(cells_of i' e he').2 q u hu
               have:=hvs' _ i' e he' q u hu rfl
               rw [this] at hv
               cases hv
               exact hdv)
              (fun t' ht'=>by cases ht'; exact ⟨rfl,⟨hpos,hsz'⟩,new,hcur',by rw [hnsz]; exact hcs⟩) (BN hh i (fun u hu=>by
               rcases Qq.1 hu with h1 | h1
               ·rcases Qq.1 h1 with h2 | h2
                ·obtain ⟨n,hn⟩:=List.mem_iff_getElem?.1 (List.mem_of_mem_take h2); exact il hh he hn
                ·obtain ⟨cc,hcc,rfl⟩:=Xz.1 h2
                 have:=ue hyh hcc
                 cases cc <;> first | exact this | rfl
               ·obtain ⟨n,hn⟩:=List.mem_iff_getElem?.1 (List.mem_of_mem_drop h1); exact il hh he hn)))
           refine ⟨undef,w.setRow g new,ρ,.inr ⟨?_,rfl⟩,fun hE=>(by simp [effOp] at hE),?_⟩
           ·simp [execOp,Instr.storeAt,Instr.sureAddr,hax,storeVar,mN hsz,hcsz,hst,Jh,Qj,Result.andThen]
           ·have:=hre.put dst hd (v:=.tup []) (val:=undef) (by simp only [VR]; exact ⟨[],rfl,by simp [LR]⟩)
            simp only [veff,stSt,hx]
            exact this
   | _=>simp [hx] at hp
 | _=>simp [hx] at hp
end
end
section
open Go.RowKit
section
variable {P : Program} {E : Md} {A0 : Env} {N : Nat} {w0 : World} {ρ : Nat -> Option (Nat × Nat)} {σ : St} {a : Act} {w : World}
variable {S : Nat -> Prop} {dst : Option Tmp} {ty : TypeId} {pos : String} {af : Array Edge} {gd : Option (Nat × Bool)}
theorem Gm {sz : Nat} (hsz : 0 < sz) : ∀ (parts : List (Nat × Operand)) (i : Nat) (pre : List V) (arr : Array Value),
  (∀ x : Operand,VR ρ σ.m S w (σ.ev x) (a.eval x)) -> fu σ sz i parts -> (∀ p ∈ parts,dZ σ.m (σ.ev p.2)) -> arr.size = (i + parts.length) * sz -> LR ρ σ.m S w pre (arr.toList.take (i * sz)) ->
  ∃ cells,Instr.fill (fun i=>some (i * sz,sz)) arr (parts.map fun p=>(p.1,a.eval p.2)) = some cells /\ cells.size = arr.size /\ LR ρ σ.m S w (pre ++ allC (parts.map fun p=>σ.ev p.2)) cells.toList
 | [], i, pre, arr, _, _, _, hs, hl => by
   refine ⟨arr,rfl,rfl,?_⟩
   have : arr.toList.take (i * sz) = arr.toList:=Jj (by simp [hs])
   rw [this] at hl
   simpa [allC] using hl
 | (i', x) :: r, i, pre, arr, hev, hp, hc, hs, hl => by
   obtain ⟨rfl,hlen,hp⟩:=hp
   have hcx:=jJ (hev x) (hc (i',x) (by simp))
   have hvs : (a.eval x).cells.size = sz:=by have:=hcx.length; simp at this; omega
   have hle : i' * sz + sz <= arr.size:=by
    rw [hs]
    have : (i' + 1) * sz <= (i' + ((i',x) :: r).length) * sz:=Zk _ (by simp)
    rw [Nat.add_mul] at this
    omega
   have hsp:=me (i' * sz) (a.eval x).cells.toList 0 arr (by simp; omega)
   have hpl : pre.length = i' * sz:=by have:=hl.length; simp at this; omega
   have hnew : ((a.eval x).cells.zipIdx.foldl (fun (cs : Array Value) (y : Value × Nat)=>cs.setIfInBounds (i' * sz + y.2) y.1) arr).toList = splice arr.toList (i' * sz) (a.eval x).cells.toList:=by
    rw [<- Array.foldl_toList,Array.toList_zipIdx,hsp]
    simp
   obtain ⟨cells,hf,hcs,hL⟩:=Gm hsz r (i' + 1) (pre ++ (σ.ev x).cells) ((a.eval x).cells.zipIdx.foldl (fun (cs : Array Value) (y : Value × Nat)=>cs.setIfInBounds (i' * sz + y.2) y.1) arr) hev hp
    (fun p hp'=>hc p (by simp [hp'])) (by
     have h1:=congrArg List.length hnew
     rw [dS _ _ _ (by simp; omega)] at h1
     simp only [Array.length_toList] at h1
     rw [h1,hs]
     simp only [Qv]
     congr 1; omega) (by
     rw [hnew]
     have h2 : (splice arr.toList (i' * sz) (a.eval x).cells.toList).take ((i' + 1) * sz) = arr.toList.take (i' * sz) ++ (a.eval x).cells.toList:=by
      simp only [splice]
      have h3 : (i' + 1) * sz = (arr.toList.take (i' * sz) ++ (a.eval x).cells.toList).length:=by
       simp only [Qw,Zq,Array.length_toList,hvs,Nat.add_mul]
       omega
      rw [h3]
      exact List.take_left
     rw [h2]
     exact hl.append hcx)
   refine ⟨cells,?_,?_,by simpa [allC,List.append_assoc] using hL⟩
   ·simp only [Qz,Instr.fill]
    rw [if_neg (by simp; omega)]
    exact hf
   ·rw [hcs]
    have h1:=congrArg List.length hnew
    rw [dS _ _ _ (by simp; omega)] at h1
    simpa using h1
theorem nR {sz : Nat} : ∀ (parts : List (Nat × Operand)) (i : Nat),fu σ sz i parts -> (allC (parts.map fun p=>σ.ev p.2)).length = parts.length * sz
 | [],_,_=>by simp [allC]
 | (i', x) :: r, i, h => by
   obtain ⟨_,h1,h2⟩:=h
   simp only [Qz,allC,Qw,h1,nR r (i + 1) h2,Qv,Nat.add_mul]
   omega
theorem fY (sz : Nat) : ∀ (n : Nat) (l : List D),(iM sz n l).length = n
 | 0,_=>rfl
 | n + 1,l=>by simp [iM,fY sz n]
theorem q7 (sz : Nat) : ∀ (n : Nat) (l : List D) (i : Nat),i < n -> (iM sz n l)[i]? = some ((l.drop (i * sz)).take sz)
 | 0,_,i,h=>by omega
 | n + 1,l,0,_=>by simp [iM]
 | n + 1, l, i + 1, h => by
   simp only [iM,List.getElem?_cons_succ]
   rw [q7 sz n _ i (by omega),List.drop_drop,Nat.add_mul,Nat.one_mul,Nat.add_comm sz]
theorem Au {l : List V} {v : V} (hv : v ∈ l) (h : (allC l).all isD = true) : v.cells.all isD = true:=by
 induction l with
 | nil=>cases hv
 | cons x r ih =>
   simp only [allC,List.all_append,Jq] at h
   rcases Zz.1 hv with rfl | hv
   ·exact h.1
   ·exact ih hv h.2
theorem si (h : Rel A0 N w0 ρ σ a w) (T n : Nat) (parts : Array (Nat × Operand)) (k : Nat) (hk : k < N) (h1 : (tslice P T).isSome = true) (h2 : n * (slT P T).2.1 <= 16777216) (h3 : parts.size = n)
  (h4 : fu σ (slT P T).2.1 0 parts.toList) (h5 : (allC (parts.toList.map fun p=>σ.ev p.2)).all isD = true) :
  Efs P E A0 N w0 a w ⟨some k,.buildSlice T n parts,ty,pos,af,gd⟩
   ((σ.lay k (.row (slT P T).1 (slT P T).2.1 (iM (slT P T).2.1 n ((allC (parts.toList.map fun p=>σ.ev p.2)).map dD)))).put (some k) (.own k 0 n)):=by
 obtain ⟨e,inf,z,hu,hi,hz,hzs,hpos,hsl⟩:=dh h1
 simp only [hsl] at h2 h4 ⊢
 let z0 : Array Value:=if n * inf.size = 0 then #[] else z.cells
 obtain ⟨cells,hf,hcs,hL⟩:=Gm (σ:=σ) (a:=a) (ρ:=ρ) (S:=Sof A0 σ.B ρ σ.m w) (w:=w) hpos parts.toList 0 [] ((Array.range (n * inf.size)).map (z0[· % z0.size]!)) (fun x=>h.ev x) h4
  (fun p hp=>jg (Au (Xz.2 ⟨p,hp,rfl⟩) h5)) (by simp [h3]) (by simp [LR])
 have hcsz : cells.size = n * inf.size:=by rw [hcs]; simp
 simp only [List.nil_append] at hL
 have hlen:=nR (σ:=σ) parts.toList 0 h4
 simp only [Array.length_toList,h3] at hlen
 refine ⟨_,_,_,.inl ?_,fun _=>Ext.alloc _ _,yl h k hk hpos (fY _ _ _) ?_ hcsz ⟨by simp [hcsz,fY],fun i e' he=>?_⟩⟩
 ·have hn : ¬ (n * inf.size > 2 ^ 24):=by omega
  have hf' : Instr.fill (fun i=>some (i * inf.size,inf.size)) ((Array.range (n * inf.size)).map (z0[· % z0.size]!)) (parts.map fun p=>(p.1,a.eval p.2)).toList = some cells:=by simpa using hf
  have hrun : (Instr.buildSlice T n (parts.map fun p=>(p.1,a.eval p.2))).run P w = .ok (.slice (some ⟨w.heap.size,0,none⟩) n n) (w.alloc (.cells cells e)):=by
   have hn' : ¬ (16777216 < n * inf.size):=by omega
   by_cases h0 : n * inf.size = 0
   ·have hn0 : n = 0:=(Nat.mul_eq_zero.1 h0).resolve_right (by omega)
    have hpl : parts.toList = []:=List.eq_nil_of_length_eq_zero (by simp [h3,hn0])
    have hpa : parts = #[]:=by simpa using hpl
    have hce : cells = #[]:=by apply Array.eq_empty_of_size_eq_zero; rw [hcsz,h0]
    subst hpa hce hn0
    simp [Instr.buildSlice,run_underlying hu,sizeOf,typeInfo,hi,newRow,Instr.fill,Jh,Qj,Result.andThen]
    have e0 : ∀ f : Nat -> Value,Array.map f (Array.range 0) = #[]:=fun f=>by apply Array.eq_empty_of_size_eq_zero; simp
    rw [e0]
   ·have hz0 : z0 = z.cells:=by simp only [z0,h0,if_false]
    rw [hz0] at hf'
    have hf2 : Instr.fill (fun i=>some (i * inf.size,inf.size)) ((Array.range (n * inf.size)).map (z.cells[· % z.cells.size]!)) (List.map (fun p=>(p.fst,a.eval p.snd)) parts.toList) = some cells:=by simpa using hf'
    simp [Instr.buildSlice,run_underlying hu,sizeOf,typeInfo,zeroValue,hi,hz,newRow,hn',h0,hf2,Jh,Qj,Result.andThen]
  simp only [execOp]
  rw [Jh,hrun]
  rfl
 ·have : n <= n * inf.size:=Nat.le_mul_of_pos_right n hpos
  simp [maxLen]; omega
 ·have hin : i < n:=by have:=(Qx.1 he).1; rwa [fY] at this
  rw [q7 _ _ _ _ hin] at he
  cases he
  have hle : i * inf.size + inf.size <= n * inf.size:=by
   have : (i + 1) * inf.size <= n * inf.size:=Zk _ hin
   rw [Nat.add_mul] at this; omega
  refine ⟨by simp [hlen]; omega,fun j u hu'=>?_⟩
  rw [List.getElem?_take] at hu'
  split at hu'
  ·rename_i hj
   rw [List.getElem?_drop,List.getElem?_map] at hu'
   cases hc : (allC (parts.toList.map fun p=>σ.ev p.2))[i * inf.size + j]? with
   | none=>simp [hc] at hu'
   | some c =>
     simp only [hc,Jg,Jx] at hu'
     obtain ⟨v,hv,hd⟩:=hL.get _ c hc
     rw [oI h5 _ _ hc] at hd
     simp only [VR] at hd
     rw [hu'] at hd
     exact ⟨v,hv,hd⟩
  ·cases hu'
end
end
section
open Go.RowKit
section
variable {P : Program} {E : Md} {A0 : Env} {N : Nat} {w0 : World} {ρ : Nat -> Option (Nat × Nat)} {σ : St} {a : Act} {w : World}
variable {S : Nat -> Prop} {dst : Option Tmp} {ty : TypeId} {pos : String} {af : Array Edge} {gd : Option (Nat × Bool)}
theorem Flat.dr {S : Nat -> Prop} {w : World} {T sz : Nat} {es : List (List D)} {g cap : Nat} {cur : Array Value} (hsz : 0 < sz) (hS : S g) (hc : cap <= maxLen) (hl : es.length <= cap) (hg : w.heap[g]? = some (.cells cur T (0,0)))
  (hcs : cur.size = cap * sz) (hf : Flat S w sz es (cur.toList.take (es.length * sz))) (hh : hpLL es = false) : DR S w (.sl (some g) (some (T,sz)) es) (.slice (some ⟨g,0,none⟩) es.length cap):=by
 have key : ∀ (i : Nat) (e : List D),es[i]? = some e -> ∀ (j : Nat) (u : D),e[j]? = some u -> ∃ v,cur[i * sz + j]? = some v /\ DR S w u v:=fun i e he j u hu=>by
  obtain ⟨v,h1,h2⟩:=(hf.2 i e he).2 j u hu
  refine ⟨v,?_,h2⟩
  rw [List.getElem?_take] at h1
  split at h1
  ·simpa using h1
  ·cases h1
 refine DR.sl g _ es ⟨g,0,none⟩ cap sz (fun n=>(cur[n]?).getD undef) hS (fun _=>rfl) hl hc (fun i e he=>(hf.2 i e he).1) (fun i e he j u hu=>?_) (fun i e he j u hu=>?_) (fun t ht=>by cases ht; exact ⟨rfl,⟨hsz,rfl⟩,cur,hg,hcs⟩) hh
 ·obtain ⟨v,h1,_⟩:=key i e he j u hu
  rw [bS,db hg,Nat.zero_add,h1]; rfl
 ·obtain ⟨v,h1,h2⟩:=key i e he j u hu
  rw [h1]; exact h2
theorem BL (l l' : List (List D)) : hpLL (l ++ l') = (hpLL l || hpLL l'):=by simp [hpLL]
theorem ph (h : Rel A0 N w0 ρ σ a w) (s x : Operand) (t dk : Nat) (hdk : dk < N) (ht : (tslice P t).isSome = true) (he : elOk σ.m (σ.ev x)) (hl : ∀ l ∈ elV σ.m (σ.ev x),l.length = (slT P t).2.1)
  {g : Nat} {es : List (List D)} (hs : σ.ev s = .d (.sl (some g) (some ((slT P t).1,(slT P t).2.1)) es)) (hB : σ.B <= g) (hgn : g ∉ idsLL (elV σ.m (σ.ev x))) (hges : g ∉ idsLL es)
  (hroom : LenOk (slT P t).2.2 (es.length + (elV σ.m (σ.ev x)).length)) (hxh : hpLL (elV σ.m (σ.ev x)) = false) (hm0 : 0 < (elV σ.m (σ.ev x)).length) :
  ∃ g' hs', σ.hs ≤ hs' ∧ (g' = g ∨ σ.hs ≤ g') ∧ g' < hs' ∧ EfsK P E A0 N w0 a w ⟨some dk, .call ⟨.builtin .append, #[s, x], #[t, t]⟩, ty, pos, af, gd⟩
    ({ σ.re (one g (.sl (some g) (some ((slT P t).1,(slT P t).2.1)) es)) with hs:=hs' }.put (some dk) (.d (.sl (some g') (some ((slT P t).1,(slT P t).2.1)) (es ++ elV σ.m (σ.ev x))))) (fun q=>g ≠ q):=by
 obtain ⟨e,inf,z,hu,hi,hz,hzs,hpos,hsl⟩:=dh ht
 simp only [hsl] at hl hs hroom ⊢
 obtain ⟨ad,cap,news,hxv,hflat,hne,hnews⟩:=qb h (h.ev x) he hpos hl
 generalize hxs : elV σ.m (σ.ev x) = xs at *
 obtain ⟨hby,hmax⟩:=hroom
 have hlenX : news.length = xs.length * inf.size:=hflat.1
 have h63 : es.length + xs.length <= 9223372036854775807:=by simpa [maxLen] using hmax
 have hBsz : σ.B <= w.heap.size:=by rw [h.hB]; exact h.below.size
 have run_of : ∀ {v' : Value} {w' : World},(Builtin.append_ #[t,t] ty #[a.eval s,a.eval x]).run P w = .ok v' w' ->
   (execOp a.eval ⟨some dk,.call ⟨.builtin .append,#[s,x],#[t,t]⟩,ty,pos,af,gd⟩).run P w = .ok (.value v') w':=by
  intro v' w' hr
  simp [execOp,resolve,invoke,builtin,hr,Jh,Qj,Result.andThen]
 have hvs:=h.ev s
 rw [hs] at hvs
 simp only [VR] at hvs
 generalize hva : a.eval s = va at hvs
 cases hvs with
 | sl _ _ _ a0 cap0 sz0 vs hS ha hcap hm hsz hc hd hw hh=>
 obtain ⟨rfl,⟨hp0,rfl⟩,cur,hcur,hcs⟩:=hw _ rfl
 simp only at hp0 hcs hc hd hsz hcur
 have hgsz : g < w.heap.size:=hS.2.1
 have hfe : Flat (Sof A0 σ.B ρ σ.m w) w inf.size es (cur.toList.take (es.length * inf.size)):=by
  refine ⟨?_,fun i e1 he1=>⟨hsz i e1 he1,fun j u hu1=>⟨_,?_,hd i e1 he1 j u hu1⟩⟩⟩
  ·have : es.length * inf.size <= cap0 * inf.size:=Zk _ hcap
   simp; omega
  ·have h1:=hc i e1 he1 j u hu1
   rw [bS,db hcur,Nat.zero_add] at h1
   have hi1:=(Qx.1 he1).1
   have hj1:=(Qx.1 hu1).1
   rw [hsz i e1 he1] at hj1
   rw [List.getElem?_take,if_pos (sq hi1 hj1)]
   simpa using h1
 obtain ⟨φ,hφ⟩ : ∃ φ,φ = one g (.sl (some g) (some (e,inf.size)) es):=⟨_,rfl⟩
 rw [<- hφ]
 have φg : ∀ j,φ j ≠ none -> j = g:=fun j hj=>by
  rw [hφ] at hj
  simp only [one] at hj
  split at hj
  ·assumption
  ·simp at hj
 have mvS : ∀ w' : World,w.heap.size <= w'.heap.size -> ∀ q,Sof A0 σ.B ρ σ.m w q -> Sof A0 σ.B ρ (σ.re φ).m w' q:=fun w' hsz' q hq=>
  ⟨hq.1,Xq hq.2.1 hsz',fun k b hk p hp=>by obtain ⟨b0,hb0,_⟩:=gA hk; exact hq.2.2 k b0 hb0 p hp⟩
 have mvF : ∀ (w' : World),w.heap.size <= w'.heap.size -> (∀ q,q < w.heap.size -> q ≠ g -> w'.heap[q]? = w.heap[q]?) -> ∀ (L : List (List D)) (cs : List Value),g ∉ idsLL L -> hpLL L = false -> Flat (Sof A0 σ.B ρ σ.m w) w inf.size L cs -> Flat (Sof A0 σ.B ρ (σ.re φ).m w') w' inf.size L cs:=by
  intro w' hsz' hoth L cs hgL hhL hF
  refine ⟨hF.1,fun i e1 he1=>⟨(hF.2 i e1 he1).1,fun j u hu1=>?_⟩⟩
  obtain ⟨v,h1,h2⟩:=(hF.2 i e1 he1).2 j u hu1
  refine ⟨v,h1,(h2.strong (il hhL he1 hu1)).mono (fun q hq=>mvS w' hsz' q hq.1) fun q hq=>hoth q hq.1.2.1 fun e0=>?_⟩
  exact hgL (dE (Qk he1) (fE (Qk hu1) (e0 ▸ hq.2)))
 have hown : ∀ q,φ q ≠ none -> ∀ k b,σ.m k = some b -> ∀ p,ρ k = some p -> p.1 ≠ q:=fun q hq k b hk p hp=>by
  rw [φg q hq]; exact hS.2.2 k b hk p hp
 have hhx : hpLL (es ++ xs) = false:=by rw [BL,hh,hxh]; rfl
 have hadne:=hne hm0
 cases ad with
 | none=>exact absurd rfl hadne
 | some p=>
 obtain ⟨hp,hnw⟩:=hnews p rfl
 by_cases hroom : es.length + xs.length <= cap0
 ·have hfit : es.length * inf.size + news.length <= cur.size:=by rw [hlenX,hcs,<- Nat.add_mul]; exact Zk _ hroom
  have hr:=run_append_room (P:=P) w t ty e inf hu hi g es.length cap0 cur hcur p xs.length cap news hlenX hnw (hflat.oneCell hpos) hroom hfit
  generalize hnew : (cur.toList.take (es.length * inf.size) ++ news ++ cur.toList.drop (es.length * inf.size + news.length)).toArray = new at hr
  have hns : new.size = cur.size:=by
   rw [<- hnew]
   simp only [List.size_toArray,Qw,Zq,List.length_drop,Array.length_toList]; omega
  have hbel : Bel A0.G w0.heap.size w (w.setRow g new):=Bel.setRow hcur hns (.inl (by rw [<- h.hB]; exact hB))
  have hcur' : (w.setRow g new).heap[g]? = some (.cells new e (0,0)):=setRow_heap w g cur _ _ _ hcur
  have hoth : ∀ q,q < w.heap.size -> q ≠ g -> (w.setRow g new).heap[q]? = w.heap[q]?:=fun q _ hq=>setRow_other w g q _ hq
  have hsz1 : w.heap.size <= (w.setRow g new).heap.size:=by simp [World.setRow]
  have htake : new.toList.take (es.length * inf.size) = cur.toList.take (es.length * inf.size):=by
   have hl1 : (cur.toList.take (es.length * inf.size)).length = es.length * inf.size:=hfe.1
   rw [<- hnew]
   simp only [List.append_assoc]
   rw [List.take_append_of_le_length (by omega),Jj (by omega)]
  have htake2 : new.toList.take ((es ++ xs).length * inf.size) = cur.toList.take (es.length * inf.size) ++ news:=by
   have hl2 : (es ++ xs).length * inf.size = (cur.toList.take (es.length * inf.size) ++ news).length:=by
    have hl1 : (cur.toList.take (es.length * inf.size)).length = es.length * inf.size:=hfe.1
    simp only [Qw,hl1,hlenX,Nat.add_mul]
   rw [hl2,<- hnew]
   simp only
   rw [List.take_left]
  have F1:=mvF _ hsz1 hoth es _ hges hh hfe
  have F2:=mvF _ hsz1 hoth xs _ hgn hxh hflat
  have hre:=h.re φ (w':=w.setRow g new) (hs':=(w.setRow g new).heap.size) (h.below.trans hbel) hsz1 (Jv _) (Zy h.hs hsz1)
   (fun q hq hn=>hoth q hq (by rintro rfl; rw [hφ] at hn; simp [one] at hn)) (Shp.setRow hcur hns) hown
   (fun q T' es' hq=>by
    have hqg:=φg q (by rw [hq]; simp)
    subst hqg
    rw [hφ] at hq
    simp only [one,if_true,Jx,D.sl.injEq,true_and] at hq
    obtain ⟨rfl,rfl⟩:=hq
    exact ⟨_,Flat.dr hpos (mvS _ hsz1 q hS) hm hcap hcur' (by rw [hns,hcs]) (by rw [htake]; exact F1) hh⟩)
  refine ⟨g,(w.setRow g new).heap.size,Zy h.hs hsz1,.inl rfl,Xq hgsz hsz1,.slice (some ⟨g,0,none⟩) (es.length + xs.length) cap0,w.setRow g new,ρ,.inl (run_of (by rw [hva,hxv]; exact hr)),fun hE=>(by simp [effOp] at hE),?_,fun q hq hne=>hoth q hq (Ne.symm hne)⟩
  refine hre.put (some dk) (fun t' ht'=>by cases ht'; exact hdk) ?_
  simp only [VR]
  have:=Flat.dr (T:=e) hpos (mvS _ hsz1 g hS) hm (es:=es ++ xs) (by simpa using hroom) hcur' (by rw [hns,hcs]) (by rw [htake2]; exact F1.append F2) hhx
  rw [Qw] at this
  exact this
 ·have holds : ∀ (j : Nat) (u : Value),(cur.toList.take (es.length * inf.size))[j]? = some u -> w.cell? ((⟨g,0,none⟩ : Addr).add j) = some u:=by
   intro j u hj
   rw [List.getElem?_take] at hj
   split at hj
   ·rw [bS,db hcur]; simpa using hj
   ·cases hj
  have hr:=run_append_grow (P:=P) w t ty e inf z hu hi hz ⟨g,0,none⟩ es.length cap0 (cur.toList.take (es.length * inf.size)) hfe.1 holds p xs.length cap news hlenX hnw (by omega) (by omega) (growslice_fits (by omega) hby)
  obtain ⟨C,hC⟩ : ∃ C,C = grownCap w (es.length + xs.length) cap0 e:=⟨_,rfl⟩
  have hge : es.length + xs.length <= C:=by rw [hC]; exact grownCap_ge w _ _ _
  have hcm : C <= maxLen:=by rw [hC]; exact grownCap_le_maxLen w _ _ _ hmax
  obtain ⟨olds,hold⟩ : ∃ l,l = cur.toList.take (es.length * inf.size):=⟨_,rfl⟩
  rw [<- hC,<- hold] at hr
  rw [<- hold] at hfe
  have hlo : olds.length = es.length * inf.size:=hfe.1
  obtain ⟨new,hnew⟩ : ∃ n : Array Value,n = olds.toArray ++ news.toArray ++ Builtin.zeroCells z.cells (C - (es.length + xs.length)):=⟨_,rfl⟩
  rw [<- hnew] at hr
  have hbel : Below w.heap.size w (w.drew.alloc (.cells new e)):=((Below.refl _ _).drew).alloc (Jv _) _
  have hns : new.size = C * inf.size:=by
   rw [hnew]
   simp only [Array.size_append,List.size_toArray,size_zeroCells,hzs,hlo,hlenX,<- Nat.add_mul]
   congr 1; omega
  have htake2 : new.toList.take ((es ++ xs).length * inf.size) = olds ++ news:=by
   rw [hnew]
   simp only [Array.toList_append,List.append_assoc]
   rw [<- List.append_assoc]
   have hl2 : (es ++ xs).length * inf.size = (olds ++ news).length:=by simp [hlo,hlenX,Nat.add_mul]
   rw [hl2]
   exact List.take_left
  have hnh : (w.drew.alloc (.cells new e)).heap[w.heap.size]? = some (.cells new e (0,0)):=heap_alloc_new w.drew _
  have hsz2 : w.heap.size < (w.drew.alloc (.cells new e)).heap.size:=(Qh.1 hnh).1
  have hoth : ∀ q,q < w.heap.size -> (w.drew.alloc (.cells new e)).heap[q]? = w.heap[q]?:=fun q hq=>hbel.block q hq
  have F1:=mvF _ hbel.size (fun q hq _=>hoth q hq) es _ hges hh hfe
  have F2:=mvF _ hbel.size (fun q hq _=>hoth q hq) xs _ hgn hxh hflat
  have hre:=h.re φ (w':=w.drew.alloc (.cells new e)) (hs':=(w.drew.alloc (.cells new e)).heap.size) (h.below.trans (.of (hbel.mono h.below.size))) hbel.size (Jv _) (Zy h.hs hbel.size)
   (fun q hq _=>hoth q hq) (fun j c T' f' hc=>⟨c,(hoth j (Qh.1 hc).1).trans hc,rfl⟩) hown
   (fun q T' es' hq=>by
    have hqg:=φg q (by rw [hq]; simp)
    subst hqg
    rw [hφ] at hq
    simp only [one,if_true,Jx,D.sl.injEq,true_and] at hq
    obtain ⟨rfl,rfl⟩:=hq
    exact ⟨_,Flat.dr hpos (mvS _ hbel.size q hS) hm hcap ((hoth q hgsz).trans hcur) hcs (by rw [<- hold]; exact F1) hh⟩)
  have hSn : Sof A0 σ.B ρ (σ.re φ).m (w.drew.alloc (.cells new e)) w.heap.size:=⟨.inr hBsz,hsz2,fun k b hk p hp=>by
   obtain ⟨b0,hb0,_⟩:=gA hk
   have hbk:=h.mem k b0 hb0
   rw [hp] at hbk
   have : p.1 < w.heap.size:=by
    cases b0 with
    | box cs =>
      obtain ⟨g1,cap1,h1,_,cur1,T1,h2,_⟩:=hbk
      cases h1
      exact (Qh.1 h2).1
    | row T1 sz1 es1 =>
      obtain ⟨_,_,_,_,cur1,h2,_⟩:=hbk
      exact (Qh.1 h2).1
   omega⟩
  refine ⟨w.heap.size,(w.drew.alloc (.cells new e)).heap.size,Zy h.hs hbel.size,.inr h.hs,hsz2,.slice (some ⟨w.heap.size,0,none⟩) (es.length + xs.length) C,w.drew.alloc (.cells new e),ρ,.inl (run_of (by rw [hva,hxv]; exact hr)),fun hE=>(by simp [effOp] at hE),?_,fun q hq _=>hoth q hq⟩
  refine hre.put (some dk) (fun t' ht'=>by cases ht'; exact hdk) ?_
  simp only [VR]
  have:=Flat.dr (T:=e) hpos hSn hcm (es:=es ++ xs) (by simpa using hge) hnh hns (by rw [htake2]; exact F1.append F2) hhx
  rw [Qw] at this
  exact this
end
end
section
open Go.RowKit
section
variable {P : Program} {E : Md} {A0 : Env} [GlobC A0 P] {N : Nat} {w0 : World} {ρ : Nat -> Option (Nat × Nat)} {σ : St} {a : Act} {w : World}
variable {S : Nat -> Prop}
theorem pO (h : Rel A0 N w0 ρ σ a w) (o : Oper) (hp : aJ o = true) (hv : vpre P o σ) : Yld P ρ σ (Sof A0 σ.B ρ σ.m w) a w o (vval P o σ):=by
 obtain ⟨dst,op,ty,pos,af,gd⟩:=o
 cases op with
 | move x=>exact IY h x
 | assign x=>exact DT h x
 | pick c x y=>exact IZ h c x y hv
 | nilCheck x=>exact xa h x hv
 | binOp op T x y T'=>exact F8 h op T T' x y hv.1 hv.2
 | unOp op T x=>exact I0 h op T x hv
 | fieldAddr s x f=>exact vE h s f x hv.1 hv.2
 | indexAddr T x i=>exact vF h T x i hv.1 hv.2.1 hv.2.2
 | load T x =>
   cases x with
   | global g=>exact Gc h T g hv.1 hv.2.1 hv.2.2.1 hv.2.2.2
   | tmp t=>exact w8 h T _ hv.1 hv.2.1 hv.2.2.1 hv.2.2.2
   | const v=>exact w8 h T _ hv.1 hv.2.1 hv.2.2.1 hv.2.2.2
   | func f=>exact w8 h T _ hv.1 hv.2.1 hv.2.2.1 hv.2.2.2
 | index T x i=>exact Ge h T x i hv.1 hv.2.1 hv.2.2.1 hv.2.2.2.1 hv.2.2.2.2
 | build T parts=>exact F9 h T parts hv.1 hv.2.1 hv.2.2
 | extract x i =>
   simp only [vpre,yH] at hv
   simp only [vval,yG]
   cases hx : σ.ev x with
   | tup vs=>simp only [hx] at hv ⊢; exact Ao h x i hx hv
   | _=>simp [hx] at hv
 | field T x f=>exact Gb h T f x hv
 | makeFunc fn first caps =>
   cases fn with
   | func f=>exact w9 h f first caps hv.2
   | _=>exact absurd hv.1 (by simp)
 | convert s t x =>
   simp only [vpre,sd] at hv
   simp only [vval,xm]
   cases hu : P.underlying t with
   | none=>simp [hu] at hv
   | some d =>
     cases d with
     | int k=>simp only [hu] at hv; exact te h s t x k hu hv.1 hv.2
     | string=>simp only [hu] at hv; exact qu h s t x hu hv.1 hv.2.1 hv.2.2.1 hv.2.2.2
     | _=>simp [hu] at hv
 | slice T x lo hi mx =>
   simp only [vpre] at hv
   obtain ⟨h1,h2,h3,h4,h5,h6,h7,h8⟩:=hv
   have hm : mx = none:=by simpa using h1
   subst hm
   simp only [vval]
   refine Gf h T x lo hi _ _ h2 h3 ?_ ?_ h6 h7 h8
   ·cases lo with
    | none=>rfl
    | some y=>exact ⟨h4.1,by have:=h4.2; simp only [loB]; omega⟩
   ·cases hi with
    | none=>rfl
    | some y=>exact ⟨h5.1,by have:=h5.2; simp only [hiB]; omega⟩
 | call c =>
   obtain ⟨cal,args,tys⟩:=c
   cases cal with
   | builtin b =>
     cases b with
     | len =>
       simp only [vpre] at hv
       obtain ⟨h1,h2,h3,h4,h5⟩:=hv
       obtain ⟨args⟩:=args
       obtain ⟨tys⟩:=tys
       match args,h1 with
       | [x], _ => match tys, h2 with
         | [t],_=>exact KU h x t h3 h5 h4
     | max =>
       simp only [vpre] at hv
       obtain ⟨h1,h2,h3⟩:=hv
       obtain ⟨args⟩:=args
       match args,h1 with
       | [x,y],_=>exact KV h x y tys h2 h3
     | min =>
       simp only [vpre] at hv
       obtain ⟨h1,h2,h3⟩:=hv
       obtain ⟨args⟩:=args
       match args,h1 with
       | [x,y],_=>exact KW h x y tys h2 h3
     | _=>simp [aJ] at hp
   | value f=>cases f <;> simp [aJ] at hp
   | invoke r m=>simp [aJ] at hp
 | _=>simp [aJ] at hp
def mkOp (o : Oper) : Bool:=
 match o.op with
 | .alloc _ | .box .. | .buildSlice .. | .makeSlice .. | .call ⟨.builtin .append,_,_⟩=>true
 | _=>false
omit [GlobC A0 P] in
theorem y9 (h : Rel A0 N w0 ρ σ a w) (o : Oper) (hd : ∀ t,o.dst = some t -> t < N) (hmk : mkOp o = true -> o.dst.isSome = true) (hp : aJ o = false) (hv : vpre P o σ) : Efs P E A0 N w0 a w o (veff P o σ):=by
 obtain ⟨dst,op,ty,pos,af,gd⟩:=o
 cases op with
 | alloc T =>
   cases dst with
   | none=>simp [mkOp] at hmk
   | some k=>exact Eh h T k (hd k rfl) hv
 | box T x =>
   cases dst with
   | none=>simp [mkOp] at hmk
   | some k=>exact JC h T x k (hd k rfl) hv
 | buildSlice T n parts =>
   cases dst with
   | none=>simp [mkOp] at hmk
   | some k=>exact si h T n parts k (hd k rfl) hv.1 hv.2.1 hv.2.2.1 hv.2.2.2.1 hv.2.2.2.2
 | makeSlice T l c =>
   cases dst with
   | none=>simp [mkOp] at hmk
   | some k=>exact tQ h T l c k (hd k rfl) hv.1 hv.2.1 hv.2.2.1 hv.2.2.2.1 hv.2.2.2.2.1 hv.2.2.2.2.2.1 hv.2.2.2.2.2.2
 | store T x y=>exact Ei h T x y hd hv
 | call c =>
   obtain ⟨cal,args,tys⟩:=c
   cases cal with
   | builtin b =>
     cases b with
     | append =>
       simp only [vpre] at hv
       obtain ⟨h1,h2,h3,h4,h5,h6,h7⟩:=hv
       obtain ⟨args⟩:=args
       obtain ⟨tys⟩:=tys
       match args,h1 with
       | [s, x], _ => match tys, h2 with
         | [t, t'], _ =>
           have ht : t' = t:=h3
           subst ht
           cases dst with
           | none=>simp [mkOp] at hmk
           | some dk =>
             have e0 : σ.ev (#[s,x].getD 0 default) = σ.ev s:=rfl
             have e1 : σ.ev (#[s,x].getD 1 default) = σ.ev x:=rfl
             have e2 : #[t',t'].getD 0 0 = t':=rfl
             change _ at h4
             simp only [e0,e1,e2] at h4 h5 h6 h7
             simp only [veff,qI,e0,e1,e2]
             cases hs : σ.ev s with
             | d y =>
               rw [hs] at h7
               cases y with
               | sl id Tw es =>
                 cases id with
                 | some g =>
                   simp only at h7
                   obtain ⟨rfl,hB,hgx,hgn,hges,_,hroom,hxh⟩:=h7
                   have:=(pg (P:=P) (E:=E) (pos:=pos) (af:=af) (gd:=gd) (ty:=ty) h s x t' dk (hd dk rfl) h4 h5 h6 hs hB hgx hgn hges hroom hxh).efs
                   simpa using this
                 | none =>
                   cases Tw with
                   | some T0 =>
                     cases es with
                     | cons _ _=>simp at h7
                     | nil =>
                       simp only at h7
                       have:=iP (E:=E) (pos:=pos) (af:=af) (gd:=gd) (ty:=ty) h s x t' dk (hd dk rfl) h4 h5 h6 (key:=dk) (es:=[]) (.inr (.inl ⟨rfl,rfl,⟨T0,hs⟩,h7.1⟩)) (by simpa using h7.2)
                       simpa using this.efs
                   | none=>
                   cases es with
                   | cons _ _=>simp at h7
                   | nil =>
                     simp only at h7
                     have:=iP (E:=E) (pos:=pos) (af:=af) (gd:=gd) (ty:=ty) h s x t' dk (hd dk rfl) h4 h5 h6 (key:=dk) (es:=[]) (.inl ⟨rfl,rfl,hs⟩) (by simpa using h7)
                     simpa using this.efs
               | _=>simp at h7
             | own k lo n =>
               rw [hs] at h7
               simp only at h7
               obtain ⟨rfl,hr,hn,hT,hsz,hroom⟩:=h7
               cases hm : σ.m k with
               | none=>simp [hm,bF] at hr
               | some b =>
                 cases b with
                 | box cs=>simp [hm,bF] at hr
                 | row T sz es =>
                   simp only [hm,getL,tyOf,szOf] at hn hT hsz
                   subst hn
                   have:=iP (E:=E) (pos:=pos) (af:=af) (gd:=gd) (ty:=ty) h s x t' dk (hd dk rfl) h4 h5 h6 (key:=k) (es:=es) (.inr (.inr ⟨hs,by rw [hm,hT,hsz]⟩)) hroom
                   have hg : getL (σ.m k) = es:=by rw [hm]; rfl
                   simp only [hg]
                   simpa using this.efs
             | _=>rw [hs] at h7; simp at h7
     | _=>first | (simp [aJ] at hp; done) | (simp [vpre] at hv; done)
   | value f=>simp [vpre] at hv
   | invoke r m=>simp [vpre] at hv
 | _=>first | (simp [aJ] at hp; done) | simp [vpre] at hv
omit [GlobC A0 P] in
theorem vL (h : Rel A0 N w0 ρ σ a w) (o : Oper) (hd : ∀ t,o.dst = some t -> t < N) (hmk : mkOp o = true -> o.dst.isSome = true) {key : Nat} (hkey : fh σ o = some key) (hv : vpre P o σ) :
  EfsK P E A0 N w0 a w o (veff P o σ) (fun g=>∀ b0 p,σ.m key = some b0 -> ρ key = some p -> p.1 ≠ g):=by
 obtain ⟨dst,op,ty,pos,af,gd⟩:=o
 cases op with
 | call c =>
   obtain ⟨cal,args,tys⟩:=c
   cases cal with
   | builtin b =>
     cases b with
     | append =>
       simp only [vpre] at hv
       obtain ⟨h1,h2,h3,h4,h5,h6,h7⟩:=hv
       obtain ⟨args⟩:=args
       obtain ⟨tys⟩:=tys
       match args,h1 with
       | [s, x], _ => match tys, h2 with
         | [t, t'], _ =>
           have ht : t' = t:=h3
           subst ht
           cases dst with
           | none=>simp [mkOp] at hmk
           | some dk =>
             have e0 : σ.ev (#[s,x].getD 0 default) = σ.ev s:=rfl
             have e1 : σ.ev (#[s,x].getD 1 default) = σ.ev x:=rfl
             have e2 : #[t',t'].getD 0 0 = t':=rfl
             change _ at h4
             simp only [e0,e1,e2] at h4 h5 h6 h7
             simp only [fh,e0] at hkey
             simp only [veff,qI,e0,e1,e2]
             cases hs : σ.ev s with
             | d y =>
               rw [hs] at h7 hkey
               cases y with
               | sl id Tw es =>
                 cases id with
                 | some g=>simp at hkey
                 | none =>
                   cases Tw with
                   | some T0 =>
                     cases es with
                     | cons _ _=>simp at h7
                     | nil =>
                       simp only at h7
                       simp only [Jx] at hkey
                       subst hkey
                       have:=iP (E:=E) (pos:=pos) (af:=af) (gd:=gd) (ty:=ty) h s x t' dk (hd dk rfl) h4 h5 h6 (key:=dk) (es:=[]) (.inr (.inl ⟨rfl,rfl,⟨T0,hs⟩,h7.1⟩)) (by simpa using h7.2)
                       simpa using this
                   | none=>
                   cases es with
                   | cons _ _=>simp at h7
                   | nil =>
                     simp only at h7
                     simp only [Jx] at hkey
                     subst hkey
                     have:=iP (E:=E) (pos:=pos) (af:=af) (gd:=gd) (ty:=ty) h s x t' dk (hd dk rfl) h4 h5 h6 (key:=dk) (es:=[]) (.inl ⟨rfl,rfl,hs⟩) (by simpa using h7)
                     simpa using this
               | _=>simp at h7
             | own k lo n =>
               rw [hs] at h7 hkey
               simp only at h7
               simp only [Jx] at hkey
               subst hkey
               obtain ⟨rfl,hr,hn,hT,hsz,hroom⟩:=h7
               cases hm : σ.m k with
               | none=>simp [hm,bF] at hr
               | some b =>
                 cases b with
                 | box cs=>simp [hm,bF] at hr
                 | row T sz es =>
                   simp only [hm,getL,tyOf,szOf] at hn hT hsz
                   subst hn
                   have:=iP (E:=E) (pos:=pos) (af:=af) (gd:=gd) (ty:=ty) h s x t' dk (hd dk rfl) h4 h5 h6 (key:=k) (es:=es) (.inr (.inr ⟨hs,by rw [hm,hT,hsz]⟩)) hroom
                   have hg : getL (σ.m k) = es:=by rw [hm]; rfl
                   simp only [hg]
                   simpa [hm] using this
             | _=>rw [hs] at h7; simp at h7
     | _=>simp [fh] at hkey
   | value f=>simp [fh] at hkey
   | invoke r m=>simp [fh] at hkey
 | _=>simp [fh] at hkey
omit [GlobC A0 P] in
theorem vK (h : Rel A0 N w0 ρ σ a w) (o : Oper) (hd : ∀ t,o.dst = some t -> t < N) (hmk : mkOp o = true -> o.dst.isSome = true) (hap : (match o.op with | .call ⟨.builtin .append,_,_⟩=>true | _=>false) = true) (hkey : fh σ o = none) (hv : vpre P o σ) :
  ∃ g,Sof A0 σ.B ρ σ.m w g /\ EfsK P E A0 N w0 a w o (veff P o σ) (fun q=>g ≠ q):=by
 obtain ⟨dst,op,ty,pos,af,gd⟩:=o
 cases op with
 | call c =>
   obtain ⟨cal,args,tys⟩:=c
   cases cal with
   | builtin b =>
     cases b with
     | append =>
       simp only [vpre] at hv
       obtain ⟨h1,h2,h3,h4,h5,h6,h7⟩:=hv
       obtain ⟨args⟩:=args
       obtain ⟨tys⟩:=tys
       match args,h1 with
       | [s, x], _ => match tys, h2 with
         | [t, t'], _ =>
           have ht : t' = t:=h3
           subst ht
           cases dst with
           | none=>simp [mkOp] at hmk
           | some dk =>
             have e0 : σ.ev (#[s,x].getD 0 default) = σ.ev s:=rfl
             have e1 : σ.ev (#[s,x].getD 1 default) = σ.ev x:=rfl
             have e2 : #[t',t'].getD 0 0 = t':=rfl
             change _ at h4
             simp only [e0,e1,e2] at h4 h5 h6 h7
             simp only [fh,e0] at hkey
             simp only [veff,qI,e0,e1,e2]
             cases hs : σ.ev s with
             | d y =>
               rw [hs] at h7 hkey
               cases y with
               | sl id Tw es =>
                 cases id with
                 | some g =>
                   simp only at h7
                   obtain ⟨rfl,hB,hgx,hgn,hges,_,hroom,hxh⟩:=h7
                   have hvs:=h.ev s
                   rw [hs] at hvs
                   simp only [VR] at hvs
                   have hS : Sof A0 σ.B ρ σ.m w g:=by
                    generalize a.eval s = vv at hvs
                    cases hvs
                    assumption
                   refine ⟨g,hS,?_⟩
                   have:=pg (P:=P) (E:=E) (pos:=pos) (af:=af) (gd:=gd) (ty:=ty) h s x t' dk (hd dk rfl) h4 h5 h6 hs hB hgx hgn hges hroom hxh
                   simpa using this
                 | none =>
                   cases Tw <;> cases es <;> simp at h7 hkey
               | _=>simp at h7
             | own k lo n=>rw [hs] at hkey; simp at hkey
             | _=>rw [hs] at h7; simp at h7
     | _=>simp at hap
   | value f=>simp at hap
   | invoke r m=>simp at hap
 | _=>simp at hap
theorem yt (h : Rel A0 N w0 ρ σ a w) {g : Nat} {v : V} {ad : Addr} (hs : sepD σ v) (hv : VR ρ σ.m (Sof A0 σ.B ρ σ.m w) w v (.pointer (some ad))) (hg : Sof A0 σ.B ρ σ.m w g) : g ≠ ad.block:=by
 cases v with
 | ptr k i off =>
   have h2 : (σ.m k).isSome = true:=hs
   cases hk : σ.m k with
   | none=>rw [hk] at h2; cases h2
   | some b =>
     have : ∃ cap,ρ k = some (ad.block,cap):=by
      simp only [VR,hk] at hv
      cases b with
      | box cs =>
        obtain ⟨_,g,cap,hr,he⟩:=hv
        simp only [Value.pointer.injEq,Jx] at he
        subst he
        exact ⟨cap,hr⟩
      | row T sz es =>
        obtain ⟨g,cap,hr,he⟩:=hv
        simp only [Value.pointer.injEq,Jx] at he
        subst he
        exact ⟨cap,hr⟩
     obtain ⟨cap,hr⟩:=this
     exact Ne.symm (hg.2.2 k b hk _ hr)
 | tup vs =>
   simp only [VR] at hv
   obtain ⟨l,he,_⟩:=hv
   cases he
 | _=>exact hs.elim
theorem Fb (h : Rel A0 N w0 ρ σ a w) {key : Nat} {v : V} {ad : Addr} (hs : sepV σ key v) (hv : VR ρ σ.m (Sof A0 σ.B ρ σ.m w) w v (.pointer (some ad))) (hlt : ad.block < w.heap.size \/ True) :
  ∀ b0 p,σ.m key = some b0 -> ρ key = some p -> p.1 ≠ ad.block:=by
 intro b0 p hm hp
 cases v with
 | ptr k i off =>
   obtain ⟨h1,h2⟩:=hs
   cases hk : σ.m k with
   | none=>rw [hk] at h2; cases h2
   | some b =>
     have : ∃ cap,ρ k = some (ad.block,cap):=by
      simp only [VR,hk] at hv
      cases b with
      | box cs =>
        obtain ⟨_,g,cap,hr,he⟩:=hv
        simp only [Value.pointer.injEq,Jx] at he
        subst he
        exact ⟨cap,hr⟩
      | row T sz es =>
        obtain ⟨g,cap,hr,he⟩:=hv
        simp only [Value.pointer.injEq,Jx] at he
        subst he
        exact ⟨cap,hr⟩
     obtain ⟨cap,hr⟩:=this
     intro heq
     exact h1 (h.inj k key b b0 _ p hk hm hr hp heq.symm)
 | fptr x i off =>
   simp only [VR] at hv
   obtain ⟨a',n,c,sz,hD,hsz,hi,he⟩:=hv
   simp only [Value.pointer.injEq,Jx] at he
   subst he
   rw [ct]
   have : Sof A0 σ.B ρ σ.m w a'.block:=by
    cases x with
    | sl id T es =>
      simp only [lstD] at hi
      cases hD with
      | emp=>simp at hi
      | sl g _ _ _ _ sz' vs hS ha hcap=>rw [ha (by omega)]; exact hS
    | pl es =>
      simp only [lstD] at hi
      generalize hl : Value.slice (some a') n c = vv at hD
      cases hD with
      | pl _ aa cap sz' vs hS hn hcap=>cases hl; exact hS a' rfl (by omega)
    | _=>simp [lstD] at hi
   exact this.2.2 key b0 hm p hp
 | tup vs =>
   simp only [VR] at hv
   obtain ⟨l,he,_⟩:=hv
   cases he
 | _=>exact hs.elim
theorem gU (h : Rel A0 N w0 ρ σ a w) (o : Oper) (hd : ∀ t,o.dst = some t -> t < N) (hmk : mkOp o = true -> o.dst.isSome = true) (hv : vpre P o σ) : Efs P E A0 N w0 a w o (vnext P o σ):=by
 unfold vnext
 cases hp : aJ o with
 | true =>
   obtain ⟨val,hr,hV⟩:=pO h o hp hv
   exact ⟨val,w,ρ,.inl (hr w fun _=>Ext.refl),fun _=>Ext.refl,h.put _ hd hV⟩
 | false=>exact y9 h o hd hmk hp hv
omit [GlobC A0 P] in
theorem nf {o : Oper} {σ' : St} {K : St -> Prop} {Q : Exit -> Act -> World -> Prop} (h : Efs P E A0 N w0 a w o σ') (hK : K σ') {next : Act -> World -> Prop}
  (hn : ∀ σ' ρ' a' w',Rel A0 N w0 ρ' σ' a' w' -> (effOp E o = false -> Ext w w') -> K σ' -> next a' w') : o.wp P a w next Q:=by
 obtain ⟨val,w',ρ',hr | ⟨hr,rfl⟩,hE,hR⟩:=h
 ·unfold Oper.wp
  rw [hr]
  exact hn _ _ _ _ hR hE hK
 ·unfold Oper.wp
  rw [hr]
  exact hn _ _ _ _ hR hE hK
def qF (ρ : Nat -> Option (Nat × Nat)) (m : Nat -> Option Blk) (g : Nat) : Prop:=∀ k cs p,m k = some (.box cs) -> ρ k = some p -> p.1 ≠ g
mutual
theorem CE (h : Rel A0 N w0 ρ σ a w) : ∀ (v : V) (val : Value) (r : V),VR ρ σ.m (Sof A0 σ.B ρ σ.m w) w v val -> rd (fun k=>(ρ k).map (·.1)) σ.m v = some r ->
  VR (fun _=>none) (fun _=>none) (fun g=>(A0.A g \/ σ.B <= g) /\ g < w.heap.size /\ qF ρ σ.m g) w r val
 | .d x, val, r, hv, hr => by
   simp only [rd,Jx] at hr
   subst hr
   simp only [VR,V.ids] at hv ⊢
   exact hv.mono (fun g hg=>⟨hg.1,hg.lt,fun k cs p hk hp=>hg.2.2 k _ hk p hp⟩) (fun _ _=>rfl)
 | .own k lo n, val, r, hv, hr => by
   simp only [rd] at hr
   cases hm : σ.m k with
   | none=>simp [hm] at hr
   | some b =>
     cases b with
     | box cs=>simp [hm] at hr
     | row T sz es =>
       simp only [hm] at hr
       split at hr
       ·cases hr
       rename_i hh
       split at hr
       ·rename_i hl
        cases hr
        simp only [VR,hm] at hv
        have hb:=h.mem k _ hm
        simp only [VR,V.ids]
        have:=Cm (S':=fun g=>(A0.A g \/ σ.B <= g) /\ g < w.heap.size /\ qF ρ σ.m g) hb hl hv.2 (fun g hg=>⟨hg.1,hg.lt,fun k cs p hk hp=>hg.2.2 k _ hk p hp⟩) (fun p hp=>⟨(hb.lo p hp).elim .inr (fun h=>.inl h.2.2),(hb.lt p hp).2,fun k' cs p' hk' hp' heq=>by
         have:=h.inj k' k _ _ p' p hk' hm hp' hp heq
         subst this
         rw [hm] at hk'
         cases hk'⟩) (by simpa using hh)
        exact this
       ·cases hr
 | .ptr _ _ _,_,_,_,hr=>by simp [rd] at hr
 | .fptr _ _ _,_,_,_,hr=>by simp [rd] at hr
 | .bad,_,_,_,hr=>by simp [rd] at hr
 | .agg cs, val, r, hv, hr => by
   simp only [rd] at hr
   cases hl : rdL (fun k=>(ρ k).map (·.1)) σ.m cs with
   | none=>simp [hl] at hr
   | some rs =>
     simp only [hl,Jg,Jx] at hr
     subst hr
     simp only [VR] at hv ⊢
     obtain ⟨l,h1,h2⟩:=hv
     exact ⟨l,h1,pU h cs l rs h2 hl⟩
 | .tup cs, val, r, hv, hr => by
   simp only [rd] at hr
   cases hl : rdL (fun k=>(ρ k).map (·.1)) σ.m cs with
   | none=>simp [hl] at hr
   | some rs =>
     simp only [hl,Jg,Jx] at hr
     subst hr
     simp only [VR] at hv ⊢
     obtain ⟨l,h1,h2⟩:=hv
     exact ⟨l,h1,pU h cs l rs h2 hl⟩
 | .fn _ _,val,r,hv,hr=>by simp [rd] at hr
theorem pU (h : Rel A0 N w0 ρ σ a w) : ∀ (l : List V) (vals : List Value) (rs : List V),LR ρ σ.m (Sof A0 σ.B ρ σ.m w) w l vals -> rdL (fun k=>(ρ k).map (·.1)) σ.m l = some rs ->
  LR (fun _=>none) (fun _=>none) (fun g=>(A0.A g \/ σ.B <= g) /\ g < w.heap.size /\ qF ρ σ.m g) w rs vals
 | [],[],rs,_,hr=>by simp [rdL] at hr; subst hr; simp [LR]
 | [],_ :: _,_,hl,_=>by simp [LR] at hl
 | _ :: _,[],_,hl,_=>by simp [LR] at hl
 | c :: cs, v :: l, rs, hl, hr => by
   simp only [LR] at hl
   simp only [rdL] at hr
   cases h1 : rd (fun k=>(ρ k).map (·.1)) σ.m c with
   | none=>simp [h1] at hr
   | some x =>
     cases h2 : rdL (fun k=>(ρ k).map (·.1)) σ.m cs with
     | none=>simp [h1,h2] at hr
     | some r =>
       simp only [h1,h2,Jx] at hr
       subst hr
       simp only [LR]
       exact ⟨CE h c v x hl.1 h1,pU h cs l r hl.2 h2⟩
end
mutual
theorem CF {γ : Nat -> Option Nat} {m : Nat -> Option Blk} : ∀ (v r : V),rd γ m v = some r -> rd (fun _=>none) (fun _=>none) r = some r
 | .d x,r,h=>by simp only [rd,Jx] at h; subst h; rfl
 | .own k lo n, r, h => by
   simp only [rd] at h
   split at h
   ·split at h
    ·cases h
    ·split at h
     ·cases h; rfl
     ·cases h
   ·cases h
 | .ptr _ _ _,r,h=>by simp [rd] at h
 | .fptr _ _ _,r,h=>by simp [rd] at h
 | .bad,r,h=>by simp [rd] at h
 | .agg cs, r, h => by
   simp only [rd] at h
   cases hl : rdL γ m cs with
   | none=>simp [hl] at h
   | some rs =>
     simp only [hl,Jg,Jx] at h
     subst h
     simp [rd,jW cs rs hl]
 | .tup cs, r, h => by
   simp only [rd] at h
   cases hl : rdL γ m cs with
   | none=>simp [hl] at h
   | some rs =>
     simp only [hl,Jg,Jx] at h
     subst h
     simp [rd,jW cs rs hl]
 | .fn _ _,r,h=>by simp [rd] at h
theorem jW {γ : Nat -> Option Nat} {m : Nat -> Option Blk} : ∀ (l rs : List V),rdL γ m l = some rs -> rdL (fun _=>none) (fun _=>none) rs = some rs
 | [],rs,h=>by simp [rdL] at h; subst h; rfl
 | c :: cs, rs, h => by
   simp only [rdL] at h
   cases h1 : rd γ m c with
   | none=>simp [h1] at h
   | some x =>
     cases h2 : rdL γ m cs with
     | none=>simp [h1,h2] at h
     | some r =>
       simp only [h1,h2,Jx] at h
       subst h
       simp [rdL,CF c x h1,jW cs r h2]
end
mutual
theorem VR.fz {m : Nat -> Option Blk} {S S' : Nat -> Prop} {w : World} : ∀ (v : V) (val : Value),rd (fun _=>none) (fun _=>none) v = some v -> VR (fun _=>none) (fun _=>none) S w v val -> (∀ g,S g -> (g ∈ v.ids \/ v.hp = true) -> S' g) -> VR ρ m S' w v val
 | .d x, val, _, hv, hS => by
   simp only [VR,V.ids,V.hp] at hv hS ⊢
   exact hv.strong'.mono (fun g hg=>hS g hg.1 hg.2) (fun _ _=>rfl)
 | .own _ _ _,_,hr,_,_=>by simp [rd] at hr
 | .ptr _ _ _,_,hr,_,_=>by simp [rd] at hr
 | .fptr _ _ _,_,hr,_,_=>by simp [rd] at hr
 | .bad,_,hr,_,_=>by simp [rd] at hr
 | .agg cs, val, hr, hv, hS => by
   simp only [rd] at hr
   cases hl : rdL (fun _=>none) (fun _=>none) cs with
   | none=>simp [hl] at hr
   | some rs =>
     simp only [hl,Jg,Jx,V.agg.injEq] at hr
     rw [hr] at hl
     simp only [VR,V.ids,V.hp] at hv hS ⊢
     obtain ⟨l,h1,h2⟩:=hv
     exact ⟨l,h1,LR.fz cs l hl h2 hS⟩
 | .tup cs, val, hr, hv, hS => by
   simp only [rd] at hr
   cases hl : rdL (fun _=>none) (fun _=>none) cs with
   | none=>simp [hl] at hr
   | some rs =>
     simp only [hl,Jg,Jx,V.tup.injEq] at hr
     rw [hr] at hl
     simp only [VR,V.ids,V.hp] at hv hS ⊢
     obtain ⟨l,h1,h2⟩:=hv
     exact ⟨l,h1,LR.fz cs l hl h2 hS⟩
 | .fn _ _,val,hr,hv,hS=>by simp [rd] at hr
theorem LR.fz {m : Nat -> Option Blk} {S S' : Nat -> Prop} {w : World} : ∀ (l : List V) (vals : List Value),rdL (fun _=>none) (fun _=>none) l = some l -> LR (fun _=>none) (fun _=>none) S w l vals -> (∀ g,S g -> (g ∈ idsVL l \/ hpVL l = true) -> S' g) -> LR ρ m S' w l vals
 | [],[],_,_,_=>by simp [LR]
 | [],_ :: _,_,h,_=>by simp [LR] at h
 | _ :: _,[],_,h,_=>by simp [LR] at h
 | c :: cs, v :: l, hr, h, hS => by
   simp only [LR] at h ⊢
   simp only [rdL] at hr
   cases h1 : rd (fun _=>none) (fun _=>none) c with
   | none=>simp [h1] at hr
   | some x =>
     cases h2 : rdL (fun _=>none) (fun _=>none) cs with
     | none=>simp [h1,h2] at hr
     | some r =>
       simp only [h1,h2,Jx,List.cons.injEq] at hr
       rw [hr.1] at h1
       rw [hr.2] at h2
       exact ⟨VR.fz c v h1 h.1 (fun g hg hi=>hS g hg (by rcases hi with hi | hi <;> simp [idsVL,hpVL,hi])),LR.fz cs l h2 h.2 (fun g hg hi=>hS g hg (by rcases hi with hi | hi <;> simp [idsVL,hpVL,hi]))⟩
end
def SofK (A0 : Env) (ρ : Nat -> Option (Nat × Nat)) (σ : St) (w : World) (ks : List Nat) (g : Nat) : Prop:=
 Sof A0 σ.B ρ σ.m w g \/ ∃ k ∈ ks,∃ b,σ.m k = some b /\ bF (some b) = true /\ ∃ p,ρ k = some p /\ p.1 = g
theorem SofK.sub {ks ks' : List Nat} {g : Nat} (h : SofK A0 ρ σ w ks g) (hk : ∀ k ∈ ks,k ∈ ks') : SofK A0 ρ σ w ks' g:=by
 rcases h with h | ⟨k,h1,h2⟩
 ·exact .inl h
 ·exact .inr ⟨k,hk k h1,h2⟩
theorem SofK.noBox (h : Rel A0 N w0 ρ σ a w) {ks : List Nat} {g : Nat} (hg : SofK A0 ρ σ w ks g) : (A0.A g \/ σ.B <= g) /\ g < w.heap.size /\ qF ρ σ.m g:=by
 rcases hg with hg | ⟨k,_,b,hm,hr,p,hp,rfl⟩
 ·exact ⟨hg.1,hg.lt,fun k cs p hk hp=>hg.2.2 k _ hk p hp⟩
 ·have hb:=h.mem k b hm
  cases b with
  | box cs=>cases hr
  | row T sz es =>
    exact ⟨(hb.lo p hp).elim .inr (fun h=>.inl h.2.2),(hb.lt p hp).2,fun k' cs p' hk' hp' heq=>by
     have:=h.inj k' k _ _ p' p hk' hm hp' hp heq
     subst this
     rw [hm] at hk'
     cases hk'⟩
theorem sk : ∀ (ks : List Nat) (σ : St) (j : Nat) (b : Blk),(σ.frps ks).m j = some b -> (∃ b0,σ.m j = some b0) /\ (bF (σ.m j) = true -> j ∉ ks) /\ bF (some b) = bF (σ.m j)
 | [],σ,j,b,h=>⟨⟨b,h⟩,fun _=>by simp,by simp only [St.frps] at h; rw [h]⟩
 | k :: r, σ, j, b, h => by
   simp only [St.frps] at h
   split at h
   ·rename_i T sz es hm
    obtain ⟨⟨b0,h1⟩,h2,h3⟩:=sk r _ j b h
    have hjk : j ≠ k:=by rintro rfl; simp [St.frp,upd] at h1
    have hmj : (σ.frp k es).m j = (σ.m j).map (Blk.map (Vs.frp k es)):=by simp [St.frp,upd,hjk,mapM]
    rw [hmj] at h1 h2 h3
    cases hc : σ.m j with
    | none=>simp [hc] at h1
    | some b1 =>
      rw [hc] at h2 h3
      have hir : bF ((some b1).map (Blk.map (Vs.frp k es))) = bF (some b1):=by cases b1 <;> rfl
      rw [hir] at h2 h3
      exact ⟨⟨b1,rfl⟩,fun hr=>by simp [hjk,h2 hr],h3⟩
   ·rename_i hm
    obtain ⟨h1,h2,h3⟩:=sk r _ j b h
    refine ⟨h1,fun hr=>?_,h3⟩
    have hjk : j ≠ k:=by
     rintro rfl
     cases hc : σ.m j with
     | none=>rw [hc] at hr; cases hr
     | some b1 => cases b1 with
       | box cs=>rw [hc] at hr; cases hr
       | row T sz es=>exact hm T sz es hc
    simp [hjk,h2 hr]
theorem pA : ∀ (ks : List Nat) (σ : St),(σ.frps ks).B = σ.B /\ (σ.frps ks).W = σ.W /\ (σ.frps ks).hs = σ.hs
 | [],_=>⟨rfl,rfl,rfl⟩
 | k :: r, σ => by
   simp only [St.frps]
   split
   ·exact pA r _
   ·exact pA r σ
theorem SofK.frps (h : Rel A0 N w0 ρ σ a w) {ks : List Nat} {g : Nat} (hg : SofK A0 ρ σ w ks g) : Sof A0 σ.B ρ (σ.frps ks).m w g:=by
 rcases hg with hg | ⟨k,hk,b,hm,hr,p,hp,rfl⟩
 ·refine ⟨hg.1,hg.2.1,fun j b hj q hq=>?_⟩
  obtain ⟨⟨b0,h0⟩,_⟩:=sk ks σ j b hj
  exact hg.2.2 j b0 h0 q hq
 ·have hb:=h.mem k b hm
  cases b with
  | box cs=>cases hr
  | row T sz es =>
    refine ⟨(hb.lo p hp).elim .inr (fun h=>.inl h.2.2),(hb.lt p hp).2,fun j b' hj q hq heq=>?_⟩
    obtain ⟨⟨b0,h0⟩,h1,_⟩:=sk ks σ j b' hj
    have hjk:=h.inj j k b0 _ q p h0 hm hq hp heq
    subst hjk
    exact h1 (by rw [hm]; rfl) hk
mutual
theorem VR.flat {ρ ρ' : Nat -> Option (Nat × Nat)} {m m' : Nat -> Option Blk} {S S' : Nat -> Prop} {w w' : World} : ∀ (v : V) (val : Value),v.flat = true -> VR ρ m S w v val -> VR ρ' m' S' w' v val
 | .d x, val, hf, hv => by
   simp only [VR] at hv ⊢
   cases x with
   | sl=>simp [V.flat] at hf
   | pl=>simp [V.flat] at hf
   | bool=>cases hv; exact .bool _
   | int=>cases hv; exact .int _ _
   | str=>cases hv; exact .str _
 | .own _ _ _,_,hf,_=>by simp [V.flat] at hf
 | .ptr _ _ _,_,hf,_=>by simp [V.flat] at hf
 | .fptr _ _ _,_,hf,_=>by simp [V.flat] at hf
 | .bad,_,hf,_=>by simp [V.flat] at hf
 | .agg cs, val, hf, hv => by
   simp only [VR,V.flat] at hv hf ⊢
   obtain ⟨l,h1,h2⟩:=hv
   exact ⟨l,h1,LR.flat cs l hf h2⟩
 | .tup cs, val, hf, hv => by
   simp only [VR,V.flat] at hv hf ⊢
   obtain ⟨l,h1,h2⟩:=hv
   exact ⟨l,h1,LR.flat cs l hf h2⟩
 | .fn _ _,val,hf,hv=>by simp [V.flat] at hf
theorem LR.flat {ρ ρ' : Nat -> Option (Nat × Nat)} {m m' : Nat -> Option Blk} {S S' : Nat -> Prop} {w w' : World} : ∀ (l : List V) (vals : List Value),qW l = true -> LR ρ m S w l vals -> LR ρ' m' S' w' l vals
 | [],[],_,_=>by simp [LR]
 | [],_ :: _,_,h=>by simp [LR] at h
 | _ :: _,[],_,h=>by simp [LR] at h
 | c :: cs, v :: l, hf, h => by
   simp only [LR,qW,Jq] at *
   exact ⟨VR.flat c v hf.1 h.1,LR.flat cs l hf.2 h.2⟩
end
mutual
theorem CU (h : Rel A0 N w0 ρ σ a w) : ∀ (v : V) (val : Value) (r : V),VR ρ σ.m (Sof A0 σ.B ρ σ.m w) w v val -> rp σ.m v = some r ->
  VR (fun _=>none) (fun _=>none) (SofK A0 ρ σ w v.keys) w r val
 | .d x, val, r, hv, hr => by
   simp only [rp,Jx] at hr
   subst hr
   simp only [VR] at hv ⊢
   exact hv.er.mono (fun g hg=>.inl hg) (fun _ _=>rfl)
 | .own k lo n, val, r, hv, hr => by
   simp only [rp] at hr
   cases hm : σ.m k with
   | none=>simp [hm] at hr
   | some b =>
     cases b with
     | box cs=>simp [hm] at hr
     | row T sz es =>
       simp only [hm] at hr
       split at hr
       ·rename_i hl
        cases hr
        simp only [VR,hm] at hv
        have hb:=h.mem k _ hm
        simp only [VR]
        exact Cn hb hl hv.2 (fun g hg=>.inl hg) (fun p hp=>.inr ⟨k,by simp [V.keys],_,hm,rfl,p,hp,rfl⟩)
       ·cases hr
 | .ptr _ _ _,_,_,_,hr=>by simp [rp] at hr
 | .fptr _ _ _,_,_,_,hr=>by simp [rp] at hr
 | .bad,_,_,_,hr=>by simp [rp] at hr
 | .agg cs, val, r, hv, hr => by
   simp only [rp] at hr
   cases hl : rpL σ.m cs with
   | none=>simp [hl] at hr
   | some rs =>
     simp only [hl,Jg,Jx] at hr
     subst hr
     simp only [VR] at hv ⊢
     obtain ⟨l,h1,h2⟩:=hv
     refine ⟨l,h1,LR.mono (fun g hg=>by simpa [V.keys] using hg) (fun _ _=>rfl) (fun k=>KC.refl k) _ _ (iD h cs l rs h2 hl)⟩
 | .tup cs, val, r, hv, hr => by
   simp only [rp] at hr
   cases hl : rpL σ.m cs with
   | none=>simp [hl] at hr
   | some rs =>
     simp only [hl,Jg,Jx] at hr
     subst hr
     simp only [VR] at hv ⊢
     obtain ⟨l,h1,h2⟩:=hv
     refine ⟨l,h1,LR.mono (fun g hg=>by simpa [V.keys] using hg) (fun _ _=>rfl) (fun k=>KC.refl k) _ _ (iD h cs l rs h2 hl)⟩
 | .fn _ _,val,r,hv,hr=>by simp [rp] at hr
theorem iD (h : Rel A0 N w0 ρ σ a w) : ∀ (l : List V) (vals : List Value) (rs : List V),LR ρ σ.m (Sof A0 σ.B ρ σ.m w) w l vals -> rpL σ.m l = some rs ->
  LR (fun _=>none) (fun _=>none) (SofK A0 ρ σ w (keysVL l)) w rs vals
 | [],[],rs,_,hr=>by simp [rpL] at hr; subst hr; simp [LR]
 | [],_ :: _,_,hl,_=>by simp [LR] at hl
 | _ :: _,[],_,hl,_=>by simp [LR] at hl
 | c :: cs, v :: l, rs, hl, hr => by
   simp only [LR] at hl
   simp only [rpL] at hr
   cases h1 : rp σ.m c with
   | none=>simp [h1] at hr
   | some x =>
     cases h2 : rpL σ.m cs with
     | none=>simp [h1,h2] at hr
     | some r =>
       simp only [h1,h2,Jx] at hr
       subst hr
       simp only [LR]
       exact ⟨VR.mono (fun g hg=>hg.sub fun k hk=>by simp [keysVL,hk]) (fun _ _=>rfl) (fun k=>KC.refl k) _ _ (CU h c v x hl.1 h1),LR.mono (fun g hg=>hg.sub fun k hk=>by simp [keysVL,hk]) (fun _ _=>rfl) (fun k=>KC.refl k) _ _ (iD h cs l r hl.2 h2)⟩
end
end
end
section
open Go.RowKit
section
variable {P : Program} {E : Md} {A0 : Env} [GlobC A0 P] {N : Nat} {w0 : World} {ρ : Nat -> Option (Nat × Nat)} {σ : St} {a : Act} {w : World}
mutual
theorem ye (γ γ' : Nat -> Option Nat) (m : Nat -> Option Blk) : ∀ v : V,v.keys = [] -> rd γ m v = rd γ' m v
 | .d _,_=>rfl
 | .own k _ _,h=>by simp [V.keys] at h
 | .ptr _ _ _,_=>rfl
 | .fptr _ _ _,_=>rfl
 | .bad,_=>rfl
 | .agg cs,h=>by simp only [rd]; rw [pV γ γ' m cs (by simpa [V.keys] using h)]
 | .tup cs,h=>by simp only [rd]; rw [pV γ γ' m cs (by simpa [V.keys] using h)]
 | .fn _ _,h=>by simp only [rd]
theorem pV (γ γ' : Nat -> Option Nat) (m : Nat -> Option Blk) : ∀ l : List V,keysVL l = [] -> rdL γ m l = rdL γ' m l
 | [],_=>rfl
 | c :: cs, h => by
   simp only [keysVL,List.append_eq_nil_iff] at h
   simp only [rdL]
   rw [ye γ γ' m c h.1,pV γ γ' m cs h.2]
end
theorem iz (h : Rel A0 N w0 ρ σ a w) : ∀ (args : List Operand),LR ρ σ.m (Sof A0 σ.B ρ σ.m w) w (args.map σ.ev) (args.map a.eval)
 | []=>by simp [LR]
 | x :: r=>by simp only [Qz,LR]; exact ⟨h.ev x,iz h r⟩
mutual
theorem VR.zf {m : Nat -> Option Blk} {γ : Nat -> Option Nat} {S : Nat -> Prop} {w : World} : ∀ (v : V) (val : Value),rd γ m v = some v -> VR ρ m S w v val -> VR (fun _=>none) (fun _=>none) S w v val
 | .d x,val,_,hv=>by simpa only [VR] using hv
 | .own _ _ _, _, hr, _ => by
   simp only [rd] at hr
   split at hr
   ·split at hr
    ·cases hr
    ·split at hr <;> cases hr
   ·cases hr
 | .ptr _ _ _,_,hr,_=>by simp [rd] at hr
 | .fptr _ _ _,_,hr,_=>by simp [rd] at hr
 | .bad,_,hr,_=>by simp [rd] at hr
 | .agg cs, val, hr, hv => by
   simp only [rd] at hr
   cases hl : rdL γ m cs with
   | none=>simp [hl] at hr
   | some rs =>
     simp only [hl,Jg,Jx,V.agg.injEq] at hr
     rw [hr] at hl
     simp only [VR] at hv ⊢
     obtain ⟨l,h1,h2⟩:=hv
     exact ⟨l,h1,LR.zf cs l hl h2⟩
 | .tup cs, val, hr, hv => by
   simp only [rd] at hr
   cases hl : rdL γ m cs with
   | none=>simp [hl] at hr
   | some rs =>
     simp only [hl,Jg,Jx,V.tup.injEq] at hr
     rw [hr] at hl
     simp only [VR] at hv ⊢
     obtain ⟨l,h1,h2⟩:=hv
     exact ⟨l,h1,LR.zf cs l hl h2⟩
 | .fn _ _,val,hr,hv=>by simp [rd] at hr
theorem LR.zf {m : Nat -> Option Blk} {γ : Nat -> Option Nat} {S : Nat -> Prop} {w : World} : ∀ (l : List V) (vals : List Value),rdL γ m l = some l -> LR ρ m S w l vals -> LR (fun _=>none) (fun _=>none) S w l vals
 | [],[],_,_=>by simp [LR]
 | [],_ :: _,_,h=>by simp [LR] at h
 | _ :: _,[],_,h=>by simp [LR] at h
 | c :: cs, v :: l, hr, h => by
   simp only [LR] at h ⊢
   simp only [rdL] at hr
   cases h1 : rd γ m c with
   | none=>simp [h1] at hr
   | some x =>
     cases h2 : rdL γ m cs with
     | none=>simp [h1,h2] at hr
     | some r =>
       simp only [h1,h2,Jx,List.cons.injEq] at hr
       rw [hr.1] at h1
       rw [hr.2] at h2
       exact ⟨VR.zf c v h1 h.1,LR.zf cs l h2 h.2⟩
end
theorem kz (h : Rel A0 N w0 ρ σ a w) {dst : Option Tmp} (hd : ∀ t,dst = some t -> t < N) {w' : World} {v : Value} {r : V} {A : Nat -> Prop} (hb : Below w.heap.size w w')
  (hv : VR (fun _=>none) (fun _=>none) (fun g=>(A g \/ w.heap.size <= g) /\ g < w'.heap.size) w' r v) (hf : rd (fun _=>none) (fun _=>none) r = some r)
  (hA : ∀ g,A g -> g ∈ r.ids \/ r.hp = true -> Sof A0 σ.B ρ σ.m w g \/ w.heap.size <= g) :
  Rel A0 N w0 ρ ({ σ with hs:=w'.heap.size }.put dst r) (a.put dst v) w':=by
 have hBsz : σ.B <= w.heap.size:=by rw [h.hB]; exact h.below.size
 have h1 : Rel A0 N w0 ρ { σ with hs:=w'.heap.size } a w':=
  h.world (h.below.trans (.of (hb.mono h.below.size))) (fun g hg=>hb.block g hg) hb.size (Jv _) (Zy h.hs hb.size)
 refine h1.put dst hd (VR.fz _ _ hf hv fun g hg hi=>?_)
 have fresh : w.heap.size <= g -> Sof A0 σ.B ρ σ.m w' g:=fun hge=>⟨.inr (by omega),hg.2,fun k b hk p hp=>by have:=((h.mem k b hk).lt p hp).2; omega⟩
 rcases hg.1 with hin | hge
 ·rcases hA g hin hi with hS | hge
  ·exact ⟨hS.1,hg.2,hS.2.2⟩
  ·exact fresh hge
 ·exact fresh hge
theorem oV (h : Rel A0 N w0 ρ σ a w) {dst : Option Tmp} (hd : ∀ t,dst = some t -> t < N) {w' : World} {v : Value} {r : V} {S : Nat -> Prop} (hb : Below w.heap.size w w')
  (hv : VR (fun _=>none) (fun _=>none) S w' r v) (hf : r.flat = true) :
  Rel A0 N w0 ρ ({ σ with hs:=w'.heap.size }.put dst r) (a.put dst v) w':=by
 have h1 : Rel A0 N w0 ρ { σ with hs:=w'.heap.size } a w':=
  h.world (h.below.trans (.of (hb.mono h.below.size))) (fun g hg=>hb.block g hg) hb.size (Jv _) (Zy h.hs hb.size)
 exact h1.put dst hd (VR.flat _ _ hf hv)
theorem l9 {dst : Option Tmp} (f : FuncId) (args : Array Operand) {tys : Array TypeId} {ty : TypeId} {pos : String} {af : Array Edge} {gd : Option (Nat × Bool)} {As : List V} {post : Nat -> V -> Prop} (A : Nat -> Prop)
  (hLR : LR (fun _=>none) (fun _=>none) (fun g=>g < w.heap.size /\ A g) w As (args.toList.map a.eval)) (hgl : GlobIn (gdat P) (fun _=>False) w) (hVC : VC P f As post) {next : Act -> World -> Prop} {Q : Exit -> Act -> World -> Prop}
  (hn : ∀ (v : Value) (r : V) (w' : World),Below w.heap.size w w' -> VR (fun _=>none) (fun _=>none) (fun g=>(A g \/ w.heap.size <= g) /\ g < w'.heap.size) w' r v -> rd (fun _=>none) (fun _=>none) r = some r -> post w.heap.size r -> next (a.put dst v) w') :
  (⟨dst,.call ⟨.value (.func f),args,tys⟩,ty,pos,af,gd⟩ : Oper).wp P a w next Q:=by
 obtain ⟨⟨fn,hfn,hbody,hname⟩,hVC⟩:=hVC
 have hrun : (execOp a.eval ⟨dst,.call ⟨.value (.func f),args,tys⟩,ty,pos,af,gd⟩).run P w = .ok (.enter f (args.map a.eval)) w:=by
  have hbn : ¬ (fn.body = none):=fun hb=>by rw [hb] at hbody; cases hbody
  have hname' : (fn.name == "runtime.NumGoroutine") = false:=hname
  simp only [beq_eq_false_iff_ne,ne_eq] at hname'
  simp [execOp,resolve,Deferred.ofValue,Act.eval,invoke,callFunc,hfn,hname',hbn,Jh,Qj,Result.andThen]
 unfold Oper.wp
 rw [hrun]
 simp only [Oper.upon]
 have hc:=hVC w (args.toList.map a.eval) A hgl hLR
 have harr : (args.toList.map a.eval).toArray = args.map a.eval:=by rw [<- Array.toList_map]
 rw [harr] at hc
 refine hc.mono fun e w' he=>?_
 obtain ⟨v,r,rfl,hb,hvr,hfz,hpost⟩:=he
 exact hn v r w' hb hvr hfz hpost
theorem vS (h : Rel A0 N w0 ρ σ a w) {dst : Option Tmp} (hd : ∀ t,dst = some t -> t < N) (f : FuncId) (args : Array Operand) {tys : Array TypeId} {ty : TypeId} {pos : String} {af : Array Edge} {gd : Option (Nat × Bool)}
  {K : St -> Prop} (hv : mP P f (args.toList.map σ.ev) dst K σ) {next : Act -> World -> Prop} {Q : Exit -> Act -> World -> Prop}
  (hn : ∀ σ' ρ' a' w',Rel A0 N w0 ρ' σ' a' w' -> Ext w w' -> K σ' -> next a' w') :
  (⟨dst,.call ⟨.value (.func f),args,tys⟩,ty,pos,af,gd⟩ : Oper).wp P a w next Q:=by
 unfold mP at hv
 split at hv
 ·rename_i hk
  obtain ⟨hrd,post,hVC,hK⟩:=hv
  have hLR:=LR.zf _ _ hrd (iz h args.toList)
  refine l9 f args (Sof A0 σ.B ρ σ.m w) (LR.mono (fun g hg=>⟨hg.lt,hg⟩) (fun _ _=>rfl) (fun k=>KC.refl k) _ _ hLR) h.globN hVC fun v r w' hb hvr hfz hpost=>?_
  exact hn _ ρ _ w' (kz h hd hb hvr hfz fun g hg _=>.inl hg) ⟨hb.size,hb.block⟩ (hK r w.heap.size w'.heap.size h.hs hb.size hpost fun i hi=>(VR.ids_ _ _ hvr i hi).2)
 ·obtain ⟨As,post,hrd,hVC,hK⟩:=hv _ _ h.hs h.gam
  have hLR:=pU h _ _ _ (iz h args.toList) hrd
  refine l9 f args (fun g=>(A0.A g \/ σ.B <= g) /\ qF ρ σ.m g) (LR.mono (fun g hg=>⟨hg.2.1,hg.1,hg.2.2⟩) (fun _ _=>rfl) (fun k=>KC.refl k) _ _ hLR) h.globN hVC fun v r w' hb hvr hfz hpost=>?_
  obtain ⟨h1,h2,h3⟩:=hK r w'.heap.size hb.size hpost fun i hi=>(VR.ids_ _ _ hvr i hi).2
  refine hn _ ρ _ w' (kz h hd hb hvr hfz fun g _ hi=>?_) ⟨hb.size,hb.block⟩ h3
  rcases hi with hi | hi
  ·exact .inr (h1 g hi)
  ·rw [h2] at hi; cases hi
theorem tE (h : Rel A0 N w0 ρ σ a w) {dst : Option Tmp} (hd : ∀ t,dst = some t -> t < N) (f : FuncId) (args : Array Operand) {tys : Array TypeId} {ty : TypeId} {pos : String} {af : Array Edge} {gd : Option (Nat × Bool)}
  {K : St -> Prop} (hv : sY P f (args.toList.map σ.ev) dst K σ) {next : Act -> World -> Prop} {Q : Exit -> Act -> World -> Prop}
  (hn : ∀ σ' ρ' a' w',Rel A0 N w0 ρ' σ' a' w' -> Ext w w' -> K σ' -> next a' w') :
  (⟨dst,.call ⟨.value (.func f),args,tys⟩,ty,pos,af,gd⟩ : Oper).wp P a w next Q:=by
 obtain ⟨As,post,hrp,hVC,hK⟩:=hv
 have hLR:=iD h _ _ _ (iz h args.toList) hrp
 refine l9 f args (SofK A0 ρ σ w (keysVL (args.toList.map σ.ev))) (LR.mono (fun g hg=>⟨(hg.noBox h).2.1,hg⟩) (fun _ _=>rfl) (fun k=>KC.refl k) _ _ hLR) h.globN hVC fun v r w' hb hvr hfz hpost=>?_
 have hln:=VR.ln _ _ hvr
 rcases hK with hK | hK
 ·obtain ⟨h1,h2⟩:=hK r w.heap.size w'.heap.size h.hs hb.size hpost hln
  exact hn _ ρ _ w' (oV h hd hb hvr h1) ⟨hb.size,hb.block⟩ h2
 ·have h1:=h.frps (keysVL (args.toList.map σ.ev))
  have hB:=pA (keysVL (args.toList.map σ.ev)) σ
  refine hn _ ρ _ w' (kz h1 hd hb hvr hfz fun g hg _=>.inl ?_) ⟨hb.size,hb.block⟩ (hK r w.heap.size w'.heap.size h.hs hb.size hpost hln)
  rw [hB.1]
  exact hg.frps h
mutual
theorem yp {m : Nat -> Option Blk} : ∀ (v r : V),rp m v = some r -> rd (fun _=>none) (fun _=>none) r = some r
 | .d x,r,h=>by simp only [rp,Jx] at h; subst h; rfl
 | .own k lo n, r, h => by
   simp only [rp] at h
   split at h
   ·split at h
    ·cases h; rfl
    ·cases h
   ·cases h
 | .ptr _ _ _,r,h=>by simp [rp] at h
 | .fptr _ _ _,r,h=>by simp [rp] at h
 | .bad,r,h=>by simp [rp] at h
 | .agg cs, r, h => by
   simp only [rp] at h
   cases hl : rpL m cs with
   | none=>simp [hl] at h
   | some rs =>
     simp only [hl,Jg,Jx] at h
     subst h
     simp [rd,pZ cs rs hl]
 | .tup cs, r, h => by
   simp only [rp] at h
   cases hl : rpL m cs with
   | none=>simp [hl] at h
   | some rs =>
     simp only [hl,Jg,Jx] at h
     subst h
     simp [rd,pZ cs rs hl]
 | .fn _ _,r,h=>by simp [rp] at h
theorem pZ {m : Nat -> Option Blk} : ∀ (l rs : List V),rpL m l = some rs -> rdL (fun _=>none) (fun _=>none) rs = some rs
 | [],rs,h=>by simp [rpL] at h; subst h; rfl
 | c :: cs, rs, h => by
   simp only [rpL] at h
   cases h1 : rp m c with
   | none=>simp [h1] at h
   | some x =>
     cases h2 : rpL m cs with
     | none=>simp [h1,h2] at h
     | some r =>
       simp only [h1,h2,Jx] at h
       subst h
       simp [rdL,yp c x h1,pZ cs r h2]
end
theorem pB : ∀ (ks : List Nat) (σ : St) (k : Nat) (cs : List V),σ.m k = some (.box cs) -> ∃ cs',(σ.frps ks).m k = some (.box cs')
 | [],σ,k,cs,h=>⟨cs,h⟩
 | j :: r, σ, k, cs, h => by
   simp only [St.frps]
   split
   ·rename_i T sz es hm
    have hkj : k ≠ j:=by rintro rfl; rw [h] at hm; cases hm
    exact pB r _ k (cs.map (Vs.frp j es)) (by simp [St.frp,upd,hkj,mapM,h,Blk.map])
   ·exact pB r σ k cs h
mutual
theorem EI {S : Nat -> Prop} {w : World} {g : Nat} {y : D} : ∀ (x : D) (v : Value),DR S w x v -> lookD g x = some y -> ∃ v',DR S w y v'
 | .bool _,_,_,h=>by simp [lookD] at h
 | .int _ _,_,_,h=>by simp [lookD] at h
 | .str _,_,_,h=>by simp [lookD] at h
 | .sl none T es, v, hD, h => by
   simp only [lookD] at h
   cases hD with
   | nil=>simp [jT] at h
   | emp=>simp [jT] at h
 | .pl _,_,_,h=>by simp [lookD] at h
 | .sl (some g') T es, v, hD, h => by
   simp only [lookD] at h
   split at h
   ·cases h; exact ⟨v,hD⟩
   ·cases hD with
    | sl _ _ _ a cap sz vs hS hab hcap hm hsz hc hd hw hh =>
      refine q8 es (fun e he u hu=>?_) h
      obtain ⟨i,hi⟩:=List.mem_iff_getElem?.1 he
      obtain ⟨j,hj⟩:=List.mem_iff_getElem?.1 hu
      exact ⟨_,hd i e hi j u hj⟩
theorem pG {S : Nat -> Prop} {w : World} {g : Nat} {y : D} : ∀ (l : List D),(∀ u ∈ l,∃ v,DR S w u v) -> lookL g l = some y -> ∃ v',DR S w y v'
 | [],_,h=>by simp [lookL] at h
 | x :: r, hl, h => by
   simp only [lookL] at h
   cases hx : lookD g x with
   | some z =>
     simp only [hx,Jx] at h
     subst h
     obtain ⟨v,hv⟩:=hl x (by simp)
     exact EI x v hv hx
   | none=>simp only [hx] at h; exact pG r (fun u hu=>hl u (by simp [hu])) h
theorem q8 {S : Nat -> Prop} {w : World} {g : Nat} {y : D} : ∀ (l : List (List D)),(∀ e ∈ l,∀ u ∈ e,∃ v,DR S w u v) -> jT g l = some y -> ∃ v',DR S w y v'
 | [],_,h=>by simp [jT] at h
 | x :: r, hl, h => by
   simp only [jT] at h
   cases hx : lookL g x with
   | some z =>
     simp only [hx,Jx] at h
     subst h
     exact pG x (hl x (by simp)) hx
   | none=>simp only [hx] at h; exact q8 r (fun u hu=>hl u (by simp [hu])) h
end
theorem v9 (γ : Nat -> Option Nat) : ∀ (ks : List Nat) (σ : St),(σ.frzs γ ks).B = σ.B /\ (σ.frzs γ ks).W = σ.W /\ (σ.frzs γ ks).hs = σ.hs
 | [],_=>⟨rfl,rfl,rfl⟩
 | k :: r, σ => by
   simp only [St.frzs]
   split
   ·exact v9 γ r _
   ·exact v9 γ r σ
theorem ng {P : Program} (f : FuncId) {fn : Func} (hfn : P.funcs[f]? = some fn) (hbody : fn.body.isSome = true) (hname : (fn.name == "runtime.NumGoroutine") = false) (a : Act) (w : World) (dst : Option Tmp) (args : Array Operand) (tys : Array TypeId) (ty : TypeId) (pos : String) (af : Array Edge) (gd : Option (Nat × Bool)) :
  (execOp a.eval ⟨dst,.call ⟨.value (.func f),args,tys⟩,ty,pos,af,gd⟩).run P w = .ok (.enter f (args.map a.eval)) w:=by
 have hbn : ¬ (fn.body = none):=fun hb=>by rw [hb] at hbody; cases hbody
 simp only [beq_eq_false_iff_ne,ne_eq] at hname
 simp [execOp,resolve,Deferred.ofValue,Act.eval,invoke,callFunc,hfn,hname,hbn,Jh,Qj,Result.andThen]
theorem oU (h : Rel A0 N w0 ρ σ a w) {dst : Option Tmp} (hd : ∀ t,dst = some t -> t < N) {W : List Nat} (hwr : ∀ g ∈ W,σ.wr g) {kx : Option Nat} {isb : Bool} {gb : Nat} {ids : Nat -> Prop} {w' : World} {v : Value} {r : V} {cs' : List V} {ws : List D}
  (hids : ∀ g,ids g -> Sof A0 σ.B ρ σ.m w g) (hW : ∀ g ∈ W,ids g)
  (hkb : ∀ k,kx = some k -> isb = true /\ ∃ cs0 cap,σ.m k = some (.box cs0) /\ ρ k = some (gb,cap)) (hnb : kx = none -> isb = false)
  (hbX : Bel (fun g=>g ∈ W \/ (isb = true /\ g = gb)) w.heap.size w w')
  (hvr : VR (fun _=>none) (fun _=>none) (fun g=>(ids g \/ w.heap.size <= g) /\ g < w'.heap.size /\ ¬ (isb = true /\ g = gb)) w' r v) (hf : rd (fun _=>none) (fun _=>none) r = some r)
  (hbx : isb = true -> ∃ cur T,w'.heap[gb]? = some (.cells cur T (0,0)) /\ LR (fun _=>none) (fun _=>none) (fun g=>(ids g \/ w.heap.size <= g) /\ g < w'.heap.size /\ ¬ (isb = true /\ g = gb)) w' cs' cur.toList /\ rdL (fun _=>none) (fun _=>none) cs' = some cs')
  (hws : ∀ d ∈ ws,∃ v',DR (fun g=>(ids g \/ w.heap.size <= g) /\ g < w'.heap.size /\ ¬ (isb = true /\ g = gb)) w' d v')
  (m' : Nat -> Option Blk) (hm' : ∀ j,kx ≠ some j -> m' j = (σ.re (phi W ws)).m j) (hmk : ∀ k,kx = some k -> m' k = some (.box cs')) :
  Rel A0 N w0 ρ ({ (σ.re (phi W ws)) with hs:=w'.heap.size,m:=m' }.put dst r) (a.put dst v) w':=by
 have hBsz : σ.B <= w.heap.size:=by rw [h.hB]; exact h.below.size
 have wrG : ∀ g,σ.wr g -> σ.B <= g \/ A0.G g:=fun g hg=>by
  rcases hg with h1 | h1
  ·exact .inl h1
  ·exact .inr (h.hG g h1)
 have gbG : isb = true -> σ.B <= gb \/ A0.G gb:=fun hi=>by
  cases hkx : kx with
  | none=>rw [hnb hkx] at hi; cases hi
  | some k =>
    obtain ⟨_,cs0,cap,h1,h2⟩:=hkb k hkx
    exact ((h.mem k _ h1).lt _ h2).1.imp id And.right
 have hBel : Bel A0.G w0.heap.size w w':=by
  refine ⟨hbX.os,hbX.tape,hbX.output,hbX.size,fun k hk hG=>hbX.block k (Xq hk h.below.size) ?_,fun k hk=>hbX.shape k (Xq hk h.below.size)⟩
  rintro (hin | ⟨hi,rfl⟩)
  ·rcases wrG k (hwr k hin) with h1 | h1
   ·rw [h.hB] at h1; omega
   ·exact hG h1
  ·rcases gbG hi with h1 | h1
   ·rw [h.hB] at h1; omega
   ·exact hG h1
 have back : ∀ k b,m' k = some b -> ∃ b0,σ.m k = some b0:=by
  intro k b hk
  by_cases hkk : kx = some k
  ·obtain ⟨_,cs0,cap,h1,h2⟩:=hkb k hkk
   exact ⟨_,h1⟩
  ·rw [hm' k hkk] at hk
   obtain ⟨b0,h1,_⟩:=gA hk
   exact ⟨b0,h1⟩
 have hS' : ∀ g,((ids g \/ w.heap.size <= g) /\ g < w'.heap.size /\ ¬ (isb = true /\ g = gb)) -> Sof A0 σ.B ρ m' w' g:=by
  rintro g ⟨h1,h2,h3⟩
  refine ⟨?_,h2,fun k b hk p hp=>?_⟩
  ·rcases h1 with h1 | h1
   ·exact (hids g h1).1
   ·exact .inr (by omega)
  ·obtain ⟨b0,hb0⟩:=back k b hk
   rcases h1 with h1 | h1
   ·exact (hids g h1).2.2 k b0 hb0 p hp
   ·have:=((h.mem k b0 hb0).lt p hp).2; omega
 have hrel:=h.reX (phi W ws) kx m' (w':=w') (hs':=w'.heap.size) (h.below.trans hBel) hbX.size (Jv _) (Zy h.hs hbX.size) hm'
  (fun k hk=>by
   obtain ⟨hi,cs0,cap,h1,h2⟩:=hkb k hk
   obtain ⟨cur,T,h3,h4,h5⟩:=hbx hi
   refine ⟨cs0,cs',h1,hmk k hk,gb,cap,h2,((h.mem k _ h1).lt _ h2).1,cur,T,h3,?_⟩
   exact LR.fz _ _ h5 h4 fun g hg _=>hS' g hg)
  (fun g hg hn hk=>hbX.block g hg (by
   rintro (hin | ⟨hi,rfl⟩)
   ·simp [phi,hin] at hn
   ·cases hkx : kx with
    | none=>rw [hnb hkx] at hi; cases hi
    | some k =>
      obtain ⟨_,cs0,cap,h1,h2⟩:=hkb k hkx
      exact hk k _ hkx h2 rfl))
  (fun g cur T f hc=>hbX.shape g (Qh.1 hc).1 cur T f hc)
  (fun g hg k b hk p hp=>by
   have hin : g ∈ W:=by
    simp only [phi] at hg
    split at hg
    ·assumption
    ·simp at hg
   exact (hids g (hW g hin)).2.2 k b hk p hp)
  (fun g T es hg=>by
   simp only [phi] at hg
   split at hg
   ·simp only [Jx] at hg
    cases hl : lookL g ws with
    | none=>rw [hl] at hg; simp [badD] at hg
    | some y =>
      rw [hl] at hg
      simp only [Option.getD_some] at hg
      subst hg
      obtain ⟨v',hv'⟩:=pG ws hws hl
      exact ⟨v',hv'.mono hS' (fun _ _=>rfl)⟩
   ·cases hg)
 exact hrel.put dst hd (VR.fz _ _ hf hvr fun g hg _=>hS' g hg)
theorem vQ {σ1 : St} (h1 : Rel A0 N w0 ρ σ1 a w) {dst : Option Tmp} (hd : ∀ t,dst = some t -> t < N) (f : FuncId) (args : Array Operand) {tys : Array TypeId} {ty : TypeId} {pos : String} {af : Array Edge} {gd : Option (Nat × Bool)}
  {K : St -> Prop} {W : List Nat} {post : Nat -> V -> List V -> List D -> Prop} (hwr : ∀ g ∈ W,σ1.wr g) (hc : oZ P f W post w.heap.size (args.toList.map σ1.ev) dst K σ1) {next : Act -> World -> Prop} {Q : Exit -> Act -> World -> Prop}
  (hn : ∀ σ' ρ' a' w',Rel A0 N w0 ρ' σ' a' w' -> K σ' -> next a' w') :
  (⟨dst,.call ⟨.value (.func f),args,tys⟩,ty,pos,af,gd⟩ : Oper).wp P a w next Q:=by
 have hLR:=iz h1 args.toList
 have harr : (args.toList.map a.eval).toArray = args.map a.eval:=by rw [<- Array.toList_map]
 have fin : ∀ (As : List V) (bx : Option (List V)) (kx : Option Nat) (gb : Nat),
   VX P f W As bx post ->
   (bx.isSome = true -> σ1.B <= gb \/ A0.G gb) ->
   LR (fun k=>if k = 1000 then some (gb,0) else none) (fun k=>if k = 1000 then bx.map .box else none) (fun g=>g < w.heap.size /\ Sof A0 σ1.B ρ σ1.m w g /\ ¬ (bx.isSome = true /\ g = gb)) w As (args.toList.map a.eval) ->
   (∀ cs,bx = some cs -> ∃ cur T,w.heap[gb]? = some (.cells cur T (0,0)) /\ LR (fun _=>none) (fun _=>none) (fun g=>g < w.heap.size /\ Sof A0 σ1.B ρ σ1.m w g /\ ¬ (bx.isSome = true /\ g = gb)) w cs cur.toList) ->
   (∀ k,kx = some k -> bx.isSome = true /\ ∃ cs0 cap,σ1.m k = some (.box cs0) /\ ρ k = some (gb,cap)) -> (kx = none -> bx.isSome = false) ->
   (∀ r cs' ws hs',w.heap.size <= hs' -> post w.heap.size r cs' ws -> (∀ i ∈ r.ids,i < hs') -> (bx.isSome = true -> ∀ i ∈ idsVL cs',i < hs') -> (∀ d ∈ ws,∀ i ∈ d.ids,i < hs') ->
    ∃ m',(∀ j,kx ≠ some j -> m' j = (σ1.re (phi W ws)).m j) /\ (∀ k,kx = some k -> m' k = some (.box cs')) /\ K ({ (σ1.re (phi W ws)) with hs:=hs',m:=m' }.put dst r)) ->
   (⟨dst,.call ⟨.value (.func f),args,tys⟩,ty,pos,af,gd⟩ : Oper).wp P a w next Q:=by
  intro As bx kx gb hVX hgb hL hbx hkb hnb hK
  obtain ⟨⟨fn,hfn,hbody,hname⟩,hWin,hVX⟩:=hVX
  unfold Oper.wp
  rw [ng f hfn hbody hname]
  simp only [Oper.upon]
  have hcall:=hVX w _ gb (Sof A0 σ1.B ρ σ1.m w) (h1.globW fun g hg=>by
   rcases hg with hg | ⟨hg,rfl⟩
   ·exact (hwr g hg).imp id (h1.hG g)
   ·exact hgb hg) hL hbx
  rw [harr] at hcall
  have hWS : ∀ g ∈ W,Sof A0 σ1.B ρ σ1.m w g:=fun g hg=>by
   rcases hWin g hg with h2 | h2
   ·exact (LR.ids_ _ _ hL g h2).2.1
   ·cases hbx1 : bx with
    | none=>rw [hbx1] at h2; simp [idsVL] at h2
    | some cs =>
      obtain ⟨cur,T,_,h4⟩:=hbx cs hbx1
      rw [hbx1] at h2
      exact (LR.ids_ _ _ h4 g h2).2.1
  refine hcall.mono fun e w' he=>?_
  obtain ⟨v,r,cs',ws,rfl,hbel,hvr,hfz,hbx',hws,hpost⟩:=he
  obtain ⟨m',hm1,hm2,hKK⟩:=hK r cs' ws w'.heap.size hbel.size hpost (fun i hi=>(VR.ids_ _ _ hvr i hi).2.1) (fun hi i hin=>by
   obtain ⟨cur,T,_,h4,_⟩:=hbx' hi
   exact (LR.ids_ _ _ h4 i hin).2.1) (fun d hd i hi=>by obtain ⟨v',hv'⟩:=hws d hd; exact (hv'.ids i hi).2.1)
  exact hn _ ρ _ w' (oU h1 hd hwr (ids:=Sof A0 σ1.B ρ σ1.m w) (fun g hg=>hg) hWS hkb hnb hbel hvr hfz hbx' hws m' hm1 hm2) hKK
 unfold oZ at hc
 split at hc
 ·rename_i k rest heq
  obtain ⟨hk1,hr1,hbox,hk2,hr2,hVX,hK⟩:=hc
  rw [heq] at hLR
  cases hm : σ1.m k with
  | none=>rw [hm] at hbox; cases hbox
  | some b =>
    cases b with
    | row _ _ _=>rw [hm] at hbox; cases hbox
    | box cs0 =>
      rw [hm] at hVX hk2 hr2
      simp only [getC] at hVX hk2 hr2
      have hmem:=h1.mem k _ hm
      obtain ⟨gb,cap,hρ,hB,cur,T,hcur,hlcs⟩:=hmem
      generalize hvals : args.toList.map a.eval = vals at hLR fin
      cases vals with
      | nil=>simp [LR] at hLR
      | cons v0 vs =>
        simp only [LR] at hLR
        obtain ⟨hv0,hvs⟩:=hLR
        have d1:=LR.zf _ _ hr1 hvs
        have d2:=LR.zf _ _ hr2 hlcs
        have ngb : ∀ g,Sof A0 σ1.B ρ σ1.m w g -> g ≠ gb:=fun g hg e=>hg.2.2 k _ hm _ hρ e.symm
        refine fin (.ptr 1000 0 0 :: rest) (some cs0) (some k) gb hVX (fun _=>hB.imp id And.right) ?_ ?_ ?_ (fun h=>by cases h) ?_
        ·simp only [LR]
         refine ⟨?_,?_⟩
         ·simp only [VR,hm] at hv0
          obtain ⟨_,g',cap',hr',hv0⟩:=hv0
          rw [hρ] at hr'; cases hr'
          simp only [VR,if_true,Jg]
          exact ⟨trivial,gb,0,rfl,hv0⟩
         ·refine LR.fz _ _ ?_ d1 fun g hg _=>⟨hg.2.1,hg,fun hh=>ngb g hg hh.2⟩
          exact jW _ _ hr1
        ·intro cs hcs
         cases hcs
         refine ⟨cur,T,hcur,LR.mono (fun g hg=>⟨hg.2.1,hg,fun hh=>ngb g hg hh.2⟩) (fun _ _=>rfl) (fun k=>KC.refl k) _ _ d2⟩
        ·intro k' hk'
         cases hk'
         exact ⟨rfl,cs0,cap,hm,hρ⟩
        ·intro r cs' ws hs' h3 h4 h5 h6 h7
         exact ⟨_,fun j hj=>by simp [upd,Ne.symm (fun e=>hj (by rw [e]) : ¬ k = j)],fun k' hk'=>by cases hk'; simp [upd],hK r cs' ws hs' h3 h4 h5 (h6 rfl) h7⟩
 ·obtain ⟨hk1,hr1,hVX,hK⟩:=hc
  have d1:=LR.zf _ _ hr1 hLR
  refine fin _ none none w.heap.size hVX (fun h=>by cases h) ?_ (fun cs hcs=>by cases hcs) (fun k hk=>by cases hk) (fun _=>rfl) ?_
  ·exact LR.fz _ _ (jW _ _ hr1) d1 fun g hg _=>⟨hg.2.1,hg,fun hh=>by cases hh.1⟩
  ·intro r cs' ws hs' h3 h4 h5 h6 h7
   exact ⟨_,fun j _=>rfl,(fun k' hk'=>nomatch hk'),hK r cs' ws hs' h3 h4 h5 h7⟩
theorem tF (h : Rel A0 N w0 ρ σ a w) {dst : Option Tmp} (hd : ∀ t,dst = some t -> t < N) (f : FuncId) (args : Array Operand) {tys : Array TypeId} {ty : TypeId} {pos : String} {af : Array Edge} {gd : Option (Nat × Bool)}
  {K : St -> Prop} (hv : DH P E f args.toList dst K σ) {next : Act -> World -> Prop} {Q : Exit -> Act -> World -> Prop}
  (hn : ∀ σ' ρ' a' w',Rel A0 N w0 ρ' σ' a' w' -> K σ' -> next a' w') :
  (⟨dst,.call ⟨.value (.func f),args,tys⟩,ty,pos,af,gd⟩ : Oper).wp P a w next Q:=by
 obtain ⟨_,hv⟩:=hv
 obtain ⟨W,post,hwr0,hc⟩:=hv (fun k=>(ρ k).map (·.1)) w.heap.size h.hs h.gam
 have h1:=(h.hs_).frzs (keysVL (args.toList.map σ.ev ++ oP σ.m (args.toList.map σ.ev)))
 refine vQ h1 hd f args (fun g hg=>?_) hc hn
 have hBW:=v9 (fun k=>(ρ k).map (·.1)) (keysVL (args.toList.map σ.ev ++ oP σ.m (args.toList.map σ.ev))) { σ with hs:=w.heap.size }
 have:=hwr0 g hg
 unfold St.wr at this ⊢
 rw [hBW.1,hBW.2.1]
 exact this
theorem zI {φ : Nat -> Option D} (h : ∀ g,φ g = none) : nowr φ = true:=by simp [nowr,h]
mutual
theorem wE {φ : Nat -> Option D} (h : ∀ g,φ g = none) : ∀ x : D,reD φ x = some x
 | .bool _=>rfl
 | .int _ _=>rfl
 | .str _=>rfl
 | .pl es=>by simp [reD,zI h]
 | .sl none T es=>by simp only [reD]; rw [oy h es]; rfl
 | .sl (some g) T es=>by simp only [reD]; rw [h g]; simp only; rw [oy h es]; rfl
theorem CI {φ : Nat -> Option D} (h : ∀ g,φ g = none) : ∀ l : List D,reL φ l = some l
 | []=>rfl
 | x :: r=>by simp only [reL]; rw [wE h x,CI h r]
theorem oy {φ : Nat -> Option D} (h : ∀ g,φ g = none) : ∀ l : List (List D),reLL φ l = some l
 | []=>rfl
 | x :: r=>by simp only [reLL]; rw [CI h x,oy h r]
end
mutual
theorem CL {φ : Nat -> Option D} (h : ∀ g,φ g = none) : ∀ v : V,reV φ v = v
 | .d x=>by simp only [reV]; rw [wE h x]
 | .fptr x _ _=>by simp only [reV]; rw [wE h x]
 | .own _ _ _=>rfl
 | .ptr _ _ _=>rfl
 | .bad=>rfl
 | .agg cs=>by simp only [reV]; rw [mE h cs]
 | .tup cs=>by simp only [reV]; rw [mE h cs]
 | .fn ff cs=>by simp only [reV]; rw [mE h cs]
theorem mE {φ : Nat -> Option D} (h : ∀ g,φ g = none) : ∀ l : List V,reVL φ l = l
 | []=>rfl
 | v :: r=>by simp only [reVL]; rw [CL h v,mE h r]
end
theorem GM {φ : Nat -> Option D} (h : ∀ g,φ g = none) (σ : St) : σ.re φ = σ:=by
 obtain ⟨B,hs,W,t,m⟩:=σ
 simp only [St.re,St.mk.injEq,true_and]
 refine ⟨by funext i; exact CL h _,?_⟩
 funext i
 simp only [reM]
 cases m i with
 | none=>rfl
 | some b =>
   cases b with
   | box cs=>simp [Blk.re,mE h]
   | row T sz es=>simp [Blk.re,oy h]
theorem rZ (h : Rel A0 N w0 ρ σ a w) {dst : Option Tmp} (hd : ∀ t,dst = some t -> t < N) (f : FuncId) (args : Array Operand) {tys : Array TypeId} {ty : TypeId} {pos : String} {af : Array Edge} {gd : Option (Nat × Bool)}
  {K : St -> Prop} (hv : oF P E f args.toList dst K σ) {next : Act -> World -> Prop} {Q : Exit -> Act -> World -> Prop}
  (hn : ∀ σ' ρ' a' w',Rel A0 N w0 ρ' σ' a' w' -> K σ' -> next a' w') :
  (⟨dst,.call ⟨.value (.func f),args,tys⟩,ty,pos,af,gd⟩ : Oper).wp P a w next Q:=by
 obtain ⟨_,k,rest,As,Cs,post,hvs,hbox,hrA,hrC,hVX,hK⟩:=hv
 have hLR:=iz h args.toList
 rw [hvs] at hLR
 have harr : (args.toList.map a.eval).toArray = args.map a.eval:=by rw [<- Array.toList_map]
 cases hm : σ.m k with
 | none=>rw [hm] at hbox; cases hbox
 | some b =>
   cases b with
   | row _ _ _=>rw [hm] at hbox; cases hbox
   | box cs0 =>
     rw [hm] at hrC hK
     simp only [getC] at hrC hK
     obtain ⟨gb,cap,hρ,hB,cur,T,hcur,hlcs⟩:=h.mem k _ hm
     generalize hks : keysVL rest ++ keysVL cs0 = ks at hK
     have h1:=h.frps ks
     have hBW:=pA ks σ
     have toS : ∀ (g : Nat) (ks' : List Nat),(∀ j ∈ ks',j ∈ ks) -> SofK A0 ρ σ w ks' g -> Sof A0 (σ.frps ks).B ρ (σ.frps ks).m w g:=fun g ks' hsub hg=>by rw [hBW.1]; exact (hg.sub hsub).frps h
     have hmk : ∃ cs1,(σ.frps ks).m k = some (.box cs1):=pB ks σ k cs0 hm
     obtain ⟨cs1,hm1⟩:=hmk
     have ngb : ∀ g,Sof A0 (σ.frps ks).B ρ (σ.frps ks).m w g -> g ≠ gb:=fun g hg e=>hg.2.2 k _ hm1 _ hρ e.symm
     generalize hvals : args.toList.map a.eval = vals at hLR harr
     cases vals with
     | nil=>simp [LR] at hLR
     | cons v0 vs =>
       simp only [LR] at hLR
       obtain ⟨hv0,hvs'⟩:=hLR
       have d1:=LR.mono (fun g hg=>toS g _ (fun j hj=>by rw [<- hks]; simp [hj]) hg) (fun _ _=>rfl) (fun k=>KC.refl k) _ _ (iD h _ _ _ hvs' hrA)
       have d2 : LR (fun _=>none) (fun _=>none) (Sof A0 (σ.frps ks).B ρ (σ.frps ks).m w) w Cs cur.toList:=by
        rcases hrC with hrC | ⟨rfl,hrC⟩
        ·exact LR.mono (fun g hg=>toS g _ (fun j hj=>by rw [<- hks]; simp [hj]) hg) (fun _ _=>rfl) (fun k=>KC.refl k) _ _ (iD h _ _ _ hlcs hrC)
        ·exact LR.mono (fun g hg=>toS g [] (by simp) (.inl hg)) (fun _ _=>rfl) (fun k=>KC.refl k) _ _ (LR.zf _ _ hrC hlcs)
       have hrA':=pZ _ _ hrA
       obtain ⟨⟨fn,hfn,hbody,hname⟩,_,hVX⟩:=hVX
       unfold Oper.wp
       rw [ng f hfn hbody hname]
       simp only [Oper.upon]
       have hcall:=hVX w (v0 :: vs) gb (Sof A0 (σ.frps ks).B ρ (σ.frps ks).m w) (h.globW fun g hg=>by
        rcases hg with hg | ⟨_,rfl⟩
        ·cases hg
        ·exact hB.imp id And.right) (by
        simp only [LR]
        refine ⟨?_,?_⟩
        ·simp only [VR,hm] at hv0
         obtain ⟨_,g',cap',hr',hv0⟩:=hv0
         rw [hρ] at hr'; cases hr'
         simp only [VR,if_true,Jg]
         exact ⟨trivial,gb,0,rfl,hv0⟩
        ·exact LR.fz _ _ hrA' d1 fun g hg _=>⟨hg.2.1,hg,fun hh=>ngb g hg hh.2⟩) (by
        intro cs hcs
        cases hcs
        exact ⟨cur,T,hcur,LR.mono (fun g hg=>⟨hg.2.1,hg,fun hh=>ngb g hg hh.2⟩) (fun _ _=>rfl) (fun k=>KC.refl k) _ _ d2⟩)
       rw [harr] at hcall
       refine hcall.mono fun e w' he=>?_
       obtain ⟨v,r,cs',ws,rfl,hbel,hvr,hfz,hbx',hws,hpost⟩:=he
       have hno : ∀ g,phi [] ws g = none:=fun g=>by simp [phi]
       have hlc : lnVL cs':=by
        obtain ⟨_,_,_,hl,_⟩:=hbx' rfl
        exact LR.ln _ _ hl
       have hKK:=hK r cs' ws w.heap.size w'.heap.size h.hs hbel.size hpost (VR.ln _ _ hvr) hlc fun i hi=>(VR.ids_ _ _ hvr i hi).2.1
       refine hn _ ρ _ w' (oU h1 hd (W:=[]) (by simp) (kx:=some k) (isb:=true) (gb:=gb) (ids:=Sof A0 (σ.frps ks).B ρ (σ.frps ks).m w) (fun g hg=>hg) (by simp) (fun k' hk'=>by cases hk'; exact ⟨rfl,cs1,cap,hm1,hρ⟩) (fun h=>by cases h) hbel hvr hfz hbx' hws (upd (σ.frps ks).m k (some (.box cs'))) (fun j hj=>?_) (fun k' hk'=>by cases hk'; simp [upd])) ?_
       ·rw [GM hno]
        simp [upd,Ne.symm (fun e=>hj (by rw [e]) : ¬ k = j)]
       ·rw [GM hno]
        exact hKK
def fm (N : Nat) (o : Oper) : Bool:=
 (match o.dst with | some d=>decide (d < N) | none=>true) && (!mkOp o || o.dst.isSome)
theorem cn {o : Oper} (h : fm N o = true) : (∀ t,o.dst = some t -> t < N) /\ (mkOp o = true -> o.dst.isSome = true):=by
 unfold fm at h
 simp only [Jq,Xx,Bool.not_eq_true'] at h
 refine ⟨fun t ht=>by simpa [ht] using h.1,fun hm=>?_⟩
 rcases h.2 with h2 | h2
 ·rw [hm] at h2; cases h2
 ·exact h2
theorem J6 (l : List D) : rdL (fun _=>none) (fun _=>none) (l.map V.d) = some (l.map V.d):=by
 induction l with
 | nil=>rfl
 | cons x r ih=>simp [rdL,rd,ih]
theorem B6 : ∀ (l : List D),lnVL (l.map V.d) -> lnL l
 | [],_=>by simp [lnL]
 | x :: r, h => by
   simp only [Qz,lnVL,V.ln] at h
   exact ⟨h.1,B6 r h.2⟩
theorem tC (h : Rel A0 N w0 ρ σ a w) {dst : Option Tmp} (hd : ∀ t,dst = some t -> t < N) (f : FuncId) (args : Array Operand) {tys : Array TypeId} {ty : TypeId} {pos : String} {af : Array Edge} {gd : Option (Nat × Bool)}
  {K : St -> Prop} (hv : DF P f (args.toList.map σ.ev) dst K σ) {next : Act -> World -> Prop} {Q : Exit -> Act -> World -> Prop}
  (hn : ∀ σ' ρ' a' w',Rel A0 N w0 ρ' σ' a' w' -> Ext w w' -> K σ' -> next a' w') :
  (⟨dst,.call ⟨.value (.func f),args,tys⟩,ty,pos,af,gd⟩ : Oper).wp P a w next Q:=by
 obtain ⟨d,As,post,rfl,hk,hrp,hVN,hK⟩:=hv
 have hdN:=hd d rfl
 have hd0 : ¬ Hk d:=mf (Xq hdN h.hN.1)
 have hLR : LR (fun _=>none) (fun _=>none) (SofK A0 ρ σ w []) w As (args.toList.map a.eval):=by
  rcases hrp with hrp | ⟨rfl,hrd⟩
  ·have hLR:=iD h _ _ _ (iz h args.toList) hrp
   rwa [hk] at hLR
  ·exact LR.mono (fun g hg=>.inl hg) (fun _ _=>rfl) (fun k=>KC.refl k) _ _ (LR.zf _ _ hrd (iz h args.toList))
 obtain ⟨⟨fn,hfn,hbody,hname⟩,hVN⟩:=hVN
 unfold Oper.wp
 rw [ng f hfn hbody hname]
 simp only [Oper.upon]
 have hc:=hVN w (args.toList.map a.eval) (SofK A0 ρ σ w []) h.globN (LR.mono (fun g hg=>⟨(hg.noBox h).2.1,hg⟩) (fun _ _=>rfl) (fun k=>KC.refl k) _ _ hLR)
 have harr : (args.toList.map a.eval).toArray = args.map a.eval:=by rw [<- Array.toList_map]
 rw [harr] at hc
 refine hc.mono fun e w' he=>?_
 obtain ⟨gb,ds,rfl,hb,hlo,hhi,⟨cur,T,hcur,hl⟩,hpost⟩:=he
 have hBsz : σ.B <= w.heap.size:=by rw [h.hB]; exact h.below.size
 have h1 : Rel A0 N w0 (upd ρ d (some (gb,0))) (σ.lay d (.box (ds.map V.d))) a w':=by
  refine h.lay d hd0 _ _ (h.below.trans (.of (hb.mono h.below.size))) hb.size (fun g hg _=>hb.block g hg) (fun p hp=>by cases hp; exact .inl hlo) fun hS hw=>?_
  refine ⟨gb,0,rfl,.inl (by omega),cur,T,hcur,?_⟩
  rw [AW]
  refine LR.fz _ _ (J6 ds) hl fun g hg _=>?_
  obtain ⟨h1,h2,h3⟩:=hg
  rcases h1 with h1 | h1
  ·rcases h1 with h1 | ⟨k,hk',_⟩
   ·exact hS g h1
   ·simp at hk'
  ·refine ⟨.inr (by omega),h2,fun k b hk' p hp=>?_⟩
   by_cases hkd : k = d
   ·subst hkd
    simp only [upd,if_true,Jx] at hp
    subst hp
    exact fun e=>h3 e.symm
   ·rw [cy _ _ _ _ hkd] at hk'
    have hp' : ρ k = some p:=by simpa [upd,hkd] using hp
    cases hm : σ.m k with
    | none=>simp [hm] at hk'
    | some b0=>have:=((h.mem k b0 hm).lt p hp').2; omega
 have h2 : Rel A0 N w0 (upd ρ d (some (gb,0))) { (σ.lay d (.box (ds.map V.d))) with hs:=w'.heap.size } a w':=
  h1.world h1.below (fun _ _=>rfl) (Jv _) (Jv _) (by rw [wk]; exact Zy h.hs hb.size)
 refine hn _ _ _ w' (h2.put (some d) (fun t ht=>by cases ht; exact hdN) ?_) ⟨hb.size,hb.block⟩ (hK ds _ _ h.hs hb.size hpost (B6 _ (LR.ln _ _ hl)) fun i hi=>(LR.ids_ _ _ hl i hi).2.1)
 simp [VR,bC,Blk.map,upd]
theorem tD (h : Rel A0 N w0 ρ σ a w) {dst : Option Tmp} (hd : ∀ t,dst = some t -> t < N) (f : FuncId) (args : Array Operand) {tys : Array TypeId} {ty : TypeId} {pos : String} {af : Array Edge} {gd : Option (Nat × Bool)}
  {K : St -> Prop} (hv : DG P f (args.toList.map σ.ev) dst K σ) {next : Act -> World -> Prop} {Q : Exit -> Act -> World -> Prop}
  (hn : ∀ σ' ρ' a' w',Rel A0 N w0 ρ' σ' a' w' -> Ext w w' -> K σ' -> next a' w') :
  (⟨dst,.call ⟨.value (.func f),args,tys⟩,ty,pos,af,gd⟩ : Oper).wp P a w next Q:=by
 obtain ⟨d,As,post,rfl,hrp,hVC,hK⟩:=hv
 have hdN:=hd d rfl
 have hd0 : ¬ Hk d:=mf (Xq hdN h.hN.1)
 have hLR:=iD h _ _ _ (iz h args.toList) hrp
 refine l9 f args (SofK A0 ρ σ w (keysVL (args.toList.map σ.ev))) (LR.mono (fun g hg=>⟨(hg.noBox h).2.1,hg⟩) (fun _ _=>rfl) (fun k=>KC.refl k) _ _ hLR) h.globN hVC fun v r w' hb hvr hfz hpost=>?_
 have hk:=hK r w.heap.size w'.heap.size h.hs hb.size hpost
 have h1:=h.frps (keysVL (args.toList.map σ.ev))
 have hB:=pA (keysVL (args.toList.map σ.ev)) σ
 obtain ⟨σ1,hσ1⟩ : ∃ σ1,σ1 = σ.frps (keysVL (args.toList.map σ.ev)):=⟨_,rfl⟩
 have hsof : ∀ g,SofK A0 ρ σ w (keysVL (args.toList.map σ.ev)) g -> Sof A0 σ1.B ρ σ1.m w g:=fun g hg=>by
  rw [hσ1,hB.1]; exact hg.frps h
 rw [<- hσ1] at h1 hk hB
 have hBsz : σ1.B <= w.heap.size:=by rw [h1.hB]; exact h1.below.size
 have core : ∀ (g T sz : Nat) (es : List (List D)) (v' : Value),DR (fun g=>(SofK A0 ρ σ w (keysVL (args.toList.map σ.ev)) g \/ w.heap.size <= g) /\ g < w'.heap.size) w' (.sl (some g) (some (T,sz)) es) v' -> w.heap.size <= g -> g ∉ idsLL es ->
   ∃ ρ',Rel A0 N w0 ρ' { (σ1.lay d (.row T sz es)) with hs:=w'.heap.size } a w' /\ VR ρ' (σ1.lay d (.row T sz es)).m (Sof A0 σ1.B ρ' (σ1.lay d (.row T sz es)).m w') w' (.own d 0 es.length) v':=by
  intro g T sz es v' hvr hng hes
  cases hvr with
  | sl g T es ad cap sz' vs hS ha hcap hm hsz hc hd hwh hh =>
    obtain ⟨rfl,⟨hs0,rfl⟩,cur,hcur,hcs⟩:=hwh _ rfl
    simp only at hcur hcs hs0 hsz hc hd hcap
    have hgl : g < w'.heap.size:=(Qh.1 hcur).1
    have h2 : Rel A0 N w0 (upd ρ d (some (g,cap))) (σ1.lay d (.row T sz' es)) a w':=by
     refine h1.lay d hd0 _ _ (h1.below.trans (.of (hb.mono h1.below.size))) hb.size (fun g hg _=>hb.block g hg) (fun p hp=>by cases hp; exact .inl hng) fun hS' hw'=>?_
     refine ⟨hs0,by omega,hm,hcap,cur,hcur,hcs,fun i e he=>⟨hsz i e he,fun j u hu=>?_⟩⟩
     have hcell:=hc i e he j u hu
     have hcell : cur[i * sz' + j]? = some (vs (i * sz' + j)):=by
      simp only [World.cell?,Addr.add] at hcell
      by_cases h0 : i * sz' + j = 0
      ·rw [if_pos h0] at hcell
       simp only [hcur] at hcell
       simpa [h0] using hcell
      ·rw [if_neg h0] at hcell
       simp only [hcur] at hcell
       simpa using hcell
     refine ⟨_,hcell,?_⟩
     have hu0:=hd i e he j u hu
     have hem : e ∈ es:=Qk he
     have hum : u ∈ e:=Qk hu
     have hhp : u.hp = false:=by
      have h4 : hpL e = false:=by simpa using (List.any_eq_false.1 hh) e hem
      simpa using (List.any_eq_false.1 h4) u hum
     have hids : ∀ q ∈ u.ids,q ∈ idsLL es:=fun q hq=>by
      have m1 : ∀ (l : List D),u ∈ l -> q ∈ idsL l:=by
       intro l hl
       induction l with
       | nil=>cases hl
       | cons x r ih =>
         simp only [idsL,Qq]
         rcases Zz.1 hl with rfl | hl
         ·exact .inl hq
         ·exact .inr (ih hl)
      have m2 : ∀ (l : List (List D)),e ∈ l -> q ∈ idsLL l:=by
       intro l hl
       induction l with
       | nil=>cases hl
       | cons x r ih =>
         simp only [idsLL,Qq]
         rcases Zz.1 hl with rfl | hl
         ·exact .inl (m1 _ hum)
         ·exact .inr (ih hl)
      exact m2 es hem
     have hwk:=VR.weak (ρ:=ρ) (m:=σ1.m) (S':=Sof A0 σ1.B (upd ρ d (some (g,cap))) (σ1.lay d (.row T sz' es)).m w') (.d u) (vs (i * sz' + j)) (by simpa [V.hp] using hhp) (fun q hq hSq=>?_) (by simpa only [VR] using hu0)
     ·simpa only [VR] using hwk
     ·have hqe : q ∈ idsLL es:=hids q (by simpa [V.ids] using hq)
      obtain ⟨k1,k2⟩:=hSq
      rcases k1 with k1 | k1
      ·exact hS' q (hsof q k1)
      ·refine ⟨.inr (by omega),k2,fun k b hk' p hp=>?_⟩
       by_cases hkd : k = d
       ·subst hkd
        simp only [upd,if_true,Jx] at hp
        subst hp
        intro e
        simp only at e
        exact hes (e ▸ hqe)
       ·rw [cy _ _ _ _ hkd] at hk'
        have hp' : ρ k = some p:=by simpa [upd,hkd] using hp
        cases hm' : σ1.m k with
        | none=>simp [hm'] at hk'
        | some b0=>have:=((h1.mem k b0 hm').lt p hp').2; omega
    have h3 : Rel A0 N w0 (upd ρ d (some (g,cap))) { (σ1.lay d (.row T sz' es)) with hs:=w'.heap.size } a w':=
     h2.world h2.below (fun _ _=>rfl) (Jv _) (Jv _) (by rw [wk]; exact Zy h1.hs hb.size)
    refine ⟨_,h3,?_⟩
    simp only [VR,bC,Blk.map,OwnV,upd,if_true]
    exact ⟨by omega,⟨g,0,none⟩,cap,rfl,rfl,hcap,hm,fun _=>⟨rfl,rfl⟩,fun _=>by simp⟩
 rcases hk with ⟨rfl,T,sz,hsz,hk⟩ | ⟨g,T,sz,es,rfl,hng,hes,hk⟩ | hk | ⟨g,T,sz,es,b,rfl,hng,hes,hk⟩
 ·have h2 : Rel A0 N w0 (upd ρ d none) (σ1.lay d (.row T sz [])) a w':=
   h1.lay d hd0 _ _ (h1.below.trans (.of (hb.mono h1.below.size))) hb.size (fun g hg _=>hb.block g hg) (fun p hp=>by cases hp) fun hS hw=>⟨hsz,rfl⟩
  have h3 : Rel A0 N w0 (upd ρ d none) { (σ1.lay d (.row T sz [])) with hs:=w'.heap.size } a w':=
   h2.world h2.below (fun _ _=>rfl) (Jv _) (Jv _) (by rw [wk]; exact Zy h1.hs hb.size)
  refine hn _ _ _ w' (h3.put (some d) (fun t ht=>by cases ht; exact hdN) ?_) ⟨hb.size,hb.block⟩ hk
  simp only [VR] at hvr
  cases hvr
  simp [VR,bC,Blk.map,upd,OwnV]
 ·simp only [VR] at hvr
  obtain ⟨ρ',h3,hv3⟩:=core g T sz es _ hvr hng hes
  exact hn _ _ _ w' (h3.put (some d) (fun t ht=>by cases ht; exact hdN) hv3) ⟨hb.size,hb.block⟩ hk
 ·exact hn _ ρ _ w' (kz h1 hd hb hvr hfz fun g hg _=>.inl (hsof g hg)) ⟨hb.size,hb.block⟩ hk
 ·simp only [VR] at hvr
  obtain ⟨l,rfl,hl⟩:=hvr
  match l,hl with
  | [],hl=>simp [LR] at hl
  | [_],hl=>simp [LR] at hl
  | v1 :: v2 :: _ :: _,hl=>simp [LR] at hl
  | [v1, v2], hl =>
    simp only [LR,VR,and_true] at hl
    obtain ⟨ρ',h3,hv3⟩:=core g T sz es _ hl.1 hng hes
    have h2:=hl.2
    have h4 : VR ρ' (σ1.lay d (.row T sz es)).m (Sof A0 σ1.B ρ' (σ1.lay d (.row T sz es)).m w') w' (.d (.bool b)) v2:=by
     cases h2
     unfold VR
     exact DR.bool _
    have h5 : VR ρ' (σ1.lay d (.row T sz es)).m (Sof A0 σ1.B ρ' (σ1.lay d (.row T sz es)).m w') w' (.tup [.own d 0 es.length,.d (.bool b)]) (.tuple #[v1,v2]):=by
     unfold VR
     refine ⟨[v1,v2],rfl,?_⟩
     unfold LR
     refine ⟨hv3,?_⟩
     unfold LR
     refine ⟨h4,?_⟩
     unfold LR
     trivial
    exact hn _ _ _ w' (h3.put (some d) (fun t ht=>by cases ht; exact hdN) h5) ⟨hb.size,hb.block⟩ hk
theorem kQ (h : Rel A0 N w0 ρ σ a w) (o : Oper) (hok : fm N o = true) {K : St -> Prop} (hv : vop P E o K σ) {next : Act -> World -> Prop} {Q : Exit -> Act -> World -> Prop}
  (hn : ∀ σ' ρ' a' w',Rel A0 N w0 ρ' σ' a' w' -> (effOp E o = false -> Ext w w') -> K σ' -> next a' w') : o.wp P a w next Q:=by
 obtain ⟨hd,hmk⟩:=cn hok
 unfold vop at hv
 split at hv
 ·rename_i args tys heq
  split at hv
  ·obtain ⟨dst,op,ty,pos,af,gd⟩:=o
   simp only at heq
   subst heq
   obtain ⟨s,x,t,dk,g,es,rfl,rfl,rfl,h1,h2,h3,h4,h5,h6,h7,h8,h9,h10,h11⟩:=hv
   obtain ⟨g',hs',e1,e2,e3,e4⟩:=ph (P:=P) (E:=E) (pos:=pos) (af:=af) (gd:=gd) (ty:=ty) h s x t dk (hd dk rfl) h1 h2 h3 h4 h5 h6 h7 h8 h9 h10
   exact nf e4.efs (h11 g' hs' e1 e2 e3) hn
  ·exact nf (gU h o hd hmk hv.1) hv.2 hn
 ·rename_i f args tys heq
  obtain ⟨dst,op,ty,pos,af,gd⟩:=o
  simp only at heq
  subst heq
  rcases hv with hv | hv | hv | hv | hv | hv
  ·exact vS h hd f args hv fun σ' ρ' a' w' hR hE hK=>hn σ' ρ' a' w' hR (fun _=>hE) hK
  rotate_left
  ·exact tE h hd f args hv fun σ' ρ' a' w' hR hE hK=>hn σ' ρ' a' w' hR (fun _=>hE) hK
  ·refine rZ h hd f args hv fun σ' ρ' a' w' hR hK=>hn σ' ρ' a' w' hR (fun he=>?_) hK
   have hEf:=hv.1
   simp only [effOp] at he
   rw [hEf] at he
   cases he
  ·exact tC h hd f args hv fun σ' ρ' a' w' hR hE hK=>hn σ' ρ' a' w' hR (fun _=>hE) hK
  ·exact tD h hd f args hv fun σ' ρ' a' w' hR hE hK=>hn σ' ρ' a' w' hR (fun _=>hE) hK
  ·refine tF h hd f args hv fun σ' ρ' a' w' hR hK=>hn σ' ρ' a' w' hR (fun he=>?_) hK
   have hEf:=hv.1
   simp only [effOp] at he
   rw [hEf] at he
   cases he
 ·exact hv _ _ _ _ _ _ h hd _ _ fun σ' ρ' a' w' hR hK=>hn σ' ρ' a' w' hR (fun he=>by rename_i heq; simp [effOp,heq] at he) hK
 ·rename_i T n parts heq
  split at hv
  ·exact nf (gU h o hd hmk hv.1) hv.2 hn
  ·have h':=(h.hs_).frzs (keysVL (allC (parts.toList.map fun p=>σ.ev p.2)))
   rename_i k ks hks
   rw [hks] at h'
   split at hv
   ·have h'':=h.frps (k :: ks)
    exact nf (gU h'' o hd hmk hv.1) hv.2 hn
   ·obtain ⟨h1,h2⟩:=hv _ _ h.hs h.gam
    exact nf (gU h' o hd hmk h1) h2 hn
 ·exact nf (gU h o hd hmk hv.1) hv.2 hn
theorem ez {m : Nat -> Option Blk} {S : Nat -> Prop} : VR ρ m S w (.tup []) undef:=by
 simp only [VR]; exact ⟨[],rfl,by simp [LR]⟩
theorem gV {ops : Array Oper} {K : St -> Prop} {Q : Exit -> Act -> World -> Prop} (hQ : ∀ σ' ρ' a' w',Rel A0 N w0 ρ' σ' a' w' -> K σ' -> Q .normal a' w') :
  ∀ (l : List Oper) (ρ : Nat -> Option (Nat × Nat)) (σ : St) (a : Act) (w : World),(∀ o ∈ l,fm N o = true) -> Rel A0 N w0 ρ σ a w -> vops P E ops K l σ -> wpList P ops Q l a w
 | [],ρ,σ,a,w,_,h,hv=>hQ σ ρ a w h hv
 | o :: r, ρ, σ, a, w, hok, h, hv => by
   have hok0:=hok o (by simp)
   have hokr : ∀ o ∈ r,fm N o = true:=fun o ho=>hok o (by simp [ho])
   simp only [wpList]
   simp only [vops] at hv
   cases hg : o.guard with
   | none =>
     rw [hg] at hv
     have hw : Region.wanted o (yielded ops a.tmps) = true:=by simp [Region.wanted,hg]
     rw [if_pos hw]
     exact .inl (kQ h o hok0 hv fun σ' ρ' a' w' hR _ hK=>gV hQ r ρ' σ' a' w' hokr hR hK)
   | some jw =>
     obtain ⟨j,want⟩:=jw
     rw [hg] at hv
     simp only at hv
     cases hj : (ops[j]?).bind (·.dst) with
     | none=>simp [hj] at hv
     | some d =>
       simp only [hj] at hv
       have hvd:=h.tmps d
       cases ht : σ.t d with
       | d x =>
         rw [ht] at hv hvd
         cases x with
         | bool b =>
           simp only at hv
           simp only [VR] at hvd
           have hval : a.tmps[d]? = some (.bool b):=by
            generalize hva : a.eval (.tmp d) = va at hvd
            cases hvd
            simp only [Act.eval,Qy] at hva
            cases hx : a.tmps[d]? with
            | none=>rw [hx] at hva; simp [undef] at hva
            | some y=>rw [hx] at hva; simp at hva; rw [hva]
           have hy : yielded ops a.tmps j = some b:=by simp [yielded,hj,hval]
           by_cases hb : b = want
           ·have hw : Region.wanted o (yielded ops a.tmps) = true:=by simp [Region.wanted,hg,hy,hb]
            rw [if_pos hw]
            exact .inl (kQ h o hok0 (hv.1 hb) fun σ' ρ' a' w' hR _ hK=>gV hQ r ρ' σ' a' w' hokr hR hK)
           ·have hw : Region.wanted o (yielded ops a.tmps) = false:=by simp [Region.wanted,hg,hy,hb]
            rw [hw]
            simp only [Zv,if_false]
            exact gV hQ r ρ _ _ w hokr (h.put o.dst (cn hok0).1 ez) (hv.2 (by simpa using hb))
         | _=>simp at hv
       | tup vs =>
         rw [ht] at hv hvd
         cases vs with
         | nil =>
           simp only at hv
           simp only [VR] at hvd
           obtain ⟨l,hva,hl⟩:=hvd
           have hl0 : l = []:=by cases l with
            | nil=>rfl
            | cons _ _=>simp [LR] at hl
           subst hl0
           have hy : yielded ops a.tmps j = none:=by
            simp only [yielded,hj,Option.bind_some]
            simp only [Act.eval,Qy] at hva
            cases hx : a.tmps[d]? with
            | none=>rfl
            | some y=>rw [hx] at hva; simp at hva; rw [hva]
           have hw : Region.wanted o (yielded ops a.tmps) = false:=by simp [Region.wanted,hg,hy]
           rw [hw]
           simp only [Zv,if_false]
           exact gV hQ r ρ _ _ w hokr (h.put o.dst (cn hok0).1 ez) hv
         | cons _ _=>simp at hv
       | _=>rw [ht] at hv; simp at hv
end
end
section
open Go.RowKit
section
variable {P : Program} {E : Md} {A0 : Env} [GlobC A0 P] {N : Nat} {w0 : World} {ρ : Nat -> Option (Nat × Nat)} {σ : St} {a : Act} {w : World}
def waits (ops : Array Oper) : Nat -> Nat -> Nat -> Bool
 | 0,_,_=>false
 | n + 1, j, i => match ops[j]? with
   | some o=>o.after.any fun e=>Region.binds .any e && (e.on == i || waits ops n e.on i)
   | none=>false
def pD (o : Oper) : Bool:=(match o.op with | .call ⟨.builtin .append,_,_⟩=>true | _=>false) && o.guard.isNone
def ldT (o : Oper) : Option Tmp:=match o.op with | .load _ (.tmp t)=>if o.dst = some t then none else some t | _=>none
def iC (ops : Array Oper) (listed : Array Bool) (j : Nat) : List Tmp:=
 (List.range ops.size).filterMap fun i=>if listed.getD i false && !(waits ops ops.size j i) then (ops[i]?).bind ldT else none
def Cy (E : FuncId -> Bool) (ops : Array Oper) (listed : Array Bool) (i : Nat) : Bool:=
 (match ops[i]? with | some o=>aJ o | none=>false) && (Region.ready .any ops listed).contains i && Region.free .any ops listed i &&
  ((List.range ops.size).all fun j => !(match ops[i]? with | some o => memOp o | none => false) || listed.getD j true || !(match ops[j]? with | some o => effOp E o | none => false) || waits ops ops.size j i ||
    ((match ops[j]? with | some o=>pD o | none=>false) && ((ops[i]?).bind ldT).isSome)) &&
  ((List.range ops.size).all fun k => match (ops[k]?).bind ldT with
    | some t=>!(match ops[i]? with | some o=>o.dst == some t | none=>false) || waits ops ops.size k i
    | none=>true)
def C7 (E : FuncId -> Bool) (ops : Array Oper) (listed : Array Bool) (i : Nat) : Bool:=Cy E ops listed i || decide (Region.ready .any ops listed = [i])
def ox (ops : Array Oper) (listed : Array Bool) (i : Nat) : Bool:=!(match ops[i]? with | some o=>pD o | none=>false) || (iC ops listed i).isEmpty
def covL (E : FuncId -> Bool) (ops : Array Oper) (k : Nat -> Array Bool -> Bool) : List Nat -> Nat -> Array Bool -> Bool
 | [],n,listed=>k n listed
 | i :: l,n + 1,listed=>C7 E ops listed i && ox ops listed i && covL E ops k l n (listed.setIfInBounds i true)
 | _ :: _,0,_=>false
def Tr.sz : Tr -> Nat
 | .nil=>0
 | .seq _ t=>t.sz + 1
 | .app _ _ t=>t.sz + 1
 | .both t u=>t.sz + u.sz + 1
def Tr.heads : Tr -> List Nat
 | .seq (i :: _) _=>[i]
 | .app i _ _=>[i]
 | .both t u=>t.heads ++ u.heads
 | _=>[]
def vJ (ops : Array Oper) (listed : Array Bool) (i : Nat) (ts : List Tmp) : Bool:=
 (match ops[i]? with | some o=>pD o | none=>false) && (iC ops listed i).all ts.contains
mutual
def cov (E : FuncId -> Bool) (ops : Array Oper) : Tr -> Nat -> Array Bool -> Bool
 | .nil,_,listed=>(Region.ready .any ops listed).isEmpty
 | .seq l t,n,listed=>covL E ops (cov E ops t) l n listed
 | .app i ts t,n + 1,listed=>decide (Region.ready .any ops listed = [i]) && vJ ops listed i ts && cov E ops t n (listed.setIfInBounds i true)
 | .app _ _ _,0,_=>false
 | .both t u,n,listed=>(Region.ready .any ops listed).all (fun i=>(t.heads ++ u.heads).contains i) && !(Region.ready .any ops listed).isEmpty && covH E ops t n listed && covH E ops u n listed
def covH (E : FuncId -> Bool) (ops : Array Oper) : Tr -> Nat -> Array Bool -> Bool
 | .seq (i :: l) t,n + 1,listed=>ox ops listed i && covL E ops (cov E ops t) l n (listed.setIfInBounds i true)
 | .app i ts t,n + 1,listed=>vJ ops listed i ts && cov E ops t n (listed.setIfInBounds i true)
 | .both t u,n,listed=>covH E ops t n listed && covH E ops u n listed
 | _,_,_=>false
end
def se (E : FuncId -> Bool) (ops : Array Oper) (t : Tr) : Bool:=Region.noSelect ops && cov E ops t ops.size (Array.replicate ops.size false)
def Gd (E : FuncId -> Bool) (ops : Array Oper) (listed : Array Bool) (i : Nat) (a : Act) (w w' : World) : Prop:=
 ((match ops[i]? with | some o=>effOp E o | none=>false) = false -> Ext w w') /\
 ((match ops[i]? with | some o=>pD o | none=>false) = true -> ∀ t ∈ iC ops listed i,∀ ad,a.eval (.tmp t) = .pointer (some ad) -> ad.block < w.heap.size -> w'.heap[ad.block]? = w.heap[ad.block]?)
def ic (P : Program) (E : FuncId -> Bool) (ops : Array Oper) (Q : Exit -> Act -> World -> Prop) : Nat -> Array Bool -> Act -> World -> Prop
 | 0,listed,a,w=>Region.ready .any ops listed = [] /\ Q .normal a w
 | n + 1, listed, a, w =>
   (Region.ready .any ops listed = [] -> Q .normal a w) /\
   ∀ i ∈ Region.ready .any ops listed,wpOp P ops Q i (fun a' w'=>Gd E ops listed i a w w' /\ ic P E ops Q n (listed.setIfInBounds i true) a' w') a w
theorem qt {ops : Array Oper} {Q : Exit -> Act -> World -> Prop} : ∀ (n : Nat) (listed : Array Bool) (a : Act) (w : World),ic P E ops Q n listed a w -> wpAny P .any ops Q n listed a w
 | 0,_,_,_,h=>h
 | n + 1,_,_,_,h=>⟨h.1,fun i hi=>wpOp_mono (fun a' w' h'=>qt n _ a' w' h'.2) (h.2 i hi)⟩
theorem vB {ops : Array Oper} {Q : Exit -> Act -> World -> Prop} {listed : Array Bool} {a : Act} {w : World} (hr : Region.ready .any ops listed = []) (h : Q .normal a w) : ∀ n,ic P E ops Q n listed a w
 | 0=>⟨hr,h⟩
 | _ + 1=>⟨fun _=>h,by rw [hr]; simp⟩
theorem w7 {ops : Array Oper} {Q : Exit -> Act -> World -> Prop} {j : Nat} {oj : Oper} (hj : ops[j]? = some oj) {K : Act -> World -> Prop} {a : Act} {w : World} (h : wpOp P ops Q j K a w) :
  wpOp P ops Q j (fun a' w'=>(∀ t,oj.dst ≠ some t -> a'.eval (.tmp t) = a.eval (.tmp t)) /\ K a' w') a w:=by
 have put : ∀ (a : Act) (u : Value) (t : Tmp),oj.dst ≠ some t -> (a.put oj.dst u).eval (.tmp t) = a.eval (.tmp t):=fun a u t ht=>Act.eval_put fun d hd he=>by
  cases he; exact ht hd
 unfold wpOp at *
 simp only [hj] at *
 split
 ·rename_i hw
  simp only [hw,if_true] at h
  rcases h with h | h
  ·refine .inl ?_
   unfold Oper.wp at *
   generalize (execOp a.eval oj).run P w = r at *
   cases r with
   | ok n w' =>
     cases n <;> simp only [Oper.upon] at h ⊢ <;>
      first
       | exact ⟨fun t ht=>put _ _ t ht,h⟩
       | exact Calls.mono h (fun e w'' he=>by cases e <;> first | exact ⟨fun t ht=>put _ _ t ht,he⟩ | exact he)
       | exact Rows.mono h (fun _ _ he=>⟨fun t ht=>put _ _ t ht,he⟩)
   | halt x w'=>cases x <;> simp only [Oper.upon] at h ⊢ <;> exact h
  ·exact .inr h
 ·rename_i hw
  simp only [hw] at h
  exact ⟨fun t ht=>put _ _ t ht,h⟩
def Closed (ops : Array Oper) (listed : Array Bool) : Prop:=
 ∀ k o,listed.getD k false = true -> ops[k]? = some o -> ∀ e ∈ o.after,Region.binds .any e = true -> listed.getD e.on false = true
theorem Closed.set {ops : Array Oper} {listed : Array Bool} (hc : Closed ops listed) {i : Nat} (hi : i ∈ Region.ready .any ops listed) : Closed ops (listed.setIfInBounds i true):=by
 intro k o hk ho e he hb
 by_cases hki : i = k
 ·subst hki
  obtain ⟨_,o',ho',hall⟩:=mem_ready.1 hi
  rw [ho] at ho'
  cases ho'
  exact getD_set_true (hall e he hb)
 ·rw [getD_set_ne false hki] at hk
  exact getD_set_true (hc k o hk ho e he hb)
theorem jx {ops : Array Oper} {listed : Array Bool} (hc : Closed ops listed) {i : Nat} : ∀ (n j : Nat),(∀ o,ops[j]? = some o -> ∀ e ∈ o.after,Region.binds .any e = true -> listed.getD e.on false = true) -> waits ops n j i = true -> listed.getD i false = true
 | 0,_,_,h=>by simp [waits] at h
 | n + 1, j, hj, h => by
   simp only [waits] at h
   cases ho : ops[j]? with
   | none=>simp [ho] at h
   | some o =>
     simp only [ho] at h
     obtain ⟨e,he,hb⟩:=Array.any_eq_true'.1 h
     simp only [Jq,Xx,beq_iff_eq] at hb
     have hl:=hj o ho e he hb.1
     rcases hb.2 with h1 | h1
     ·rw [<- h1]; exact hl
     ·exact jx hc n e.on (fun o' ho' e' he' hb'=>hc e.on o' hl ho' e' he' hb') h1
theorem wa {listed : Array Bool} {i j : Nat} (h : listed.getD j true = true) : (listed.setIfInBounds i true).getD j true = true:=by
 by_cases hij : i = j
 ·subst hij
  simp [Qy,Array.getElem?_setIfInBounds]
  split <;> rfl
 ·rw [getD_set_ne true hij]; exact h
theorem lP {ops : Array Oper} {Q : Exit -> Act -> World -> Prop} {i : Nat} {oi : Oper} {v : Value} {R : World -> Prop} {Iv : Act -> Prop} (hi : ops[i]? = some oi) (hsel : ∀ (j : Nat) (o : Oper) cs b,ops[j]? = some o -> o.op ≠ .select cs b)
  (hQ : ∀ c a w,¬ Q (.panic c) a w) {L0 : Array Bool}
  (hstep : ∀ (j : Nat) (oj : Oper) (listed : Array Bool) (a : Act) (w1 w2 : World),ops[j]? = some oj -> j ≠ i -> Closed ops listed -> (∀ k,L0.getD k true = true -> listed.getD k true = true) -> j ∈ Region.ready .any ops listed -> i ∈ Region.ready .any ops listed ->
   Iv a -> R w1 -> Gd E ops (listed.setIfInBounds i true) j (a.put oi.dst v) w1 w2 -> R w2 /\ Gd E ops listed j a w1 w2)
  (hIv : ∀ (oj : Oper) (a a' : Act),oi.apart ops oj = true -> (∀ t,oj.dst ≠ some t -> a'.eval (.tmp t) = a.eval (.tmp t)) -> Iv a -> Iv a') (hGi : ∀ listed a w1,Gd E ops listed i a w1 w1) :
  ∀ (n : Nat) (listed : Array Bool) (a : Act) (w' : World), Closed ops listed → (∀ k, L0.getD k true = true → listed.getD k true = true) →
    (∀ j oj,ops[j]? = some oj -> j ≠ i -> listed.getD j true = false -> (∀ e ∈ oj.after,Region.binds .any e = true -> e.on ≠ i) -> oi.apart ops oj = true) ->
    i ∈ Region.ready .any ops listed -> YieldsIf P ops R oi v a -> R w' -> Iv a ->
    ic P E ops Q n (listed.setIfInBounds i true) (a.put oi.dst v) w' -> ic P E ops Q (n + 1) listed a w':=by
 intro n
 induction n with
 | zero =>
   intro listed a w' hc _ _ hr hy hS _ H
   refine ⟨fun h=>(by rw [h] at hr; cases hr),fun j hj=>?_⟩
   by_cases hji : j = i
   ·subst hji; exact hy.wpOp hi hS ⟨hGi _ _ _,H⟩
   ·have:=ready_mono hj hji
    rw [H.1] at this
    cases this
 | succ n ih =>
   intro listed a w' hc hL hfree hr hy hS hIa H
   refine ⟨fun h=>(by rw [h] at hr; cases hr),fun j hj=>?_⟩
   by_cases hji : j = i
   ·subst hji; exact hy.wpOp hi hS ⟨hGi _ _ _,H⟩
   ·have h1:=H.2 j (ready_mono hj hji)
    obtain ⟨hjun,oj,hoj,hall⟩:=mem_ready.1 hj
    have hnot : ∀ e ∈ oj.after,Region.binds .any e = true -> e.on ≠ i:=fun e he hb heq=>by
     have h1:=hall e he hb
     have h0:=(mem_ready.1 hr).1
     rw [heq] at h1
     rcases Nat.lt_or_ge i listed.size with h' | h'
     ·simp [h'] at h0 h1; rw [h0] at h1; cases h1
     ·simp [Array.getElem?_eq_none h'] at h1
    have hap:=hfree j oj hoj hji hjun hnot
    have h2:=w7 hoj (wpOp_putIf hoj hap (fun cs b=>hsel i oi cs b hi) (fun cs b=>hsel j oj cs b hoj) (fun c a w h=>absurd h (hQ c _ _)) hy h1)
    have hfree' : ∀ k ok,ops[k]? = some ok -> k ≠ i -> (listed.setIfInBounds j true).getD k true = false ->
      (∀ e ∈ ok.after,Region.binds .any e = true -> e.on ≠ i) -> oi.apart ops ok = true:=fun k ok hk hki hun hno=>by
     refine hfree k ok hk hki ?_ hno
     by_cases hjk : j = k
     ·subst hjk; exact hjun
     ·rw [getD_set_ne true hjk] at hun; exact hun
    refine wpOp_mono (fun a' w'' h3=>?_) h2
    obtain ⟨hR2,hG2⟩:=hstep j oj listed a w' w'' hoj hji hc hL hj hr hIa hS h3.2.2.1
    refine ⟨hG2,ih (listed.setIfInBounds j true) a' w'' (hc.set hj) (fun k hk=>wa (hL k hk)) hfree' (ready_mono hr (Ne.symm hji)) h3.2.1 hR2 (hIv oj a a' hap h3.1 hIa) ?_⟩
    rw [Array.setIfInBounds_comm _ _ hji]
    exact h3.2.2.2
theorem wC {ops : Array Oper} {listed : Array Bool} {i j : Nat} (hij : i ≠ j) {t : Tmp} (h : t ∈ iC ops listed j) : t ∈ iC ops (listed.setIfInBounds i true) j:=by
 simp only [iC,List.mem_filterMap] at *
 obtain ⟨k,hk,h⟩:=h
 refine ⟨k,hk,?_⟩
 by_cases hki : i = k
 ·subst hki
  by_cases hl : listed.getD i false = true
  ·rw [getD_set_true hl]; rw [hl] at h; exact h
  ·simp at hl
   simp [hl] at h
 ·rw [getD_set_ne false hki]; exact h
theorem zL {ops : Array Oper} {o : Oper} {r : List Oper} {K : St -> Prop} (h : Rel A0 N w0 ρ σ a w) (hok : fm N o = true) (hv : vops P E ops K (o :: r) σ) {next : Act -> World -> Prop} {Q : Exit -> Act -> World -> Prop}
  (hn : ∀ σ' ρ' a' w',Rel A0 N w0 ρ' σ' a' w' -> (effOp E o = false -> Ext w w') -> vops P E ops K r σ' -> next a' w') :
  if Region.wanted o (yielded ops a.tmps) then o.wp P a w next Q \/ (o.asks P a w /\ LetsOut Q) else next (a.put o.dst undef) w:=by
 simp only [vops] at hv
 cases hg : o.guard with
 | none =>
   rw [hg] at hv
   have hw : Region.wanted o (yielded ops a.tmps) = true:=by simp [Region.wanted,hg]
   rw [if_pos hw]
   exact .inl (kQ h o hok hv hn)
 | some jw =>
   obtain ⟨j,want⟩:=jw
   rw [hg] at hv
   simp only at hv
   cases hj : (ops[j]?).bind (·.dst) with
   | none=>simp [hj] at hv
   | some d =>
     simp only [hj] at hv
     have hvd:=h.tmps d
     cases ht : σ.t d with
     | d x =>
       rw [ht] at hv hvd
       cases x with
       | bool b =>
         simp only at hv
         simp only [VR] at hvd
         have hval : a.tmps[d]? = some (.bool b):=by
          generalize hva : a.eval (.tmp d) = va at hvd
          cases hvd
          simp only [Act.eval,Qy] at hva
          cases hx : a.tmps[d]? with
          | none=>rw [hx] at hva; simp [undef] at hva
          | some y=>rw [hx] at hva; simp at hva; rw [hva]
         have hy : yielded ops a.tmps j = some b:=by simp [yielded,hj,hval]
         by_cases hb : b = want
         ·have hw : Region.wanted o (yielded ops a.tmps) = true:=by simp [Region.wanted,hg,hy,hb]
          rw [if_pos hw]
          exact .inl (kQ h o hok (hv.1 hb) hn)
         ·have hw : Region.wanted o (yielded ops a.tmps) = false:=by simp [Region.wanted,hg,hy,hb]
          rw [hw]
          simp only [Zv,if_false]
          exact hn _ ρ _ w (h.put o.dst (cn hok).1 ez) (fun _=>Ext.refl) (hv.2 (by simpa using hb))
       | _=>simp at hv
     | tup vs =>
       rw [ht] at hv hvd
       cases vs with
       | nil =>
         simp only at hv
         simp only [VR] at hvd
         obtain ⟨l,hva,hl⟩:=hvd
         have hl0 : l = []:=by cases l with
          | nil=>rfl
          | cons _ _=>simp [LR] at hl
         subst hl0
         have hy : yielded ops a.tmps j = none:=by
          simp only [yielded,hj,Option.bind_some]
          simp only [Act.eval,Qy] at hva
          cases hx : a.tmps[d]? with
          | none=>rfl
          | some y=>rw [hx] at hva; simp at hva; rw [hva]
         have hw : Region.wanted o (yielded ops a.tmps) = false:=by simp [Region.wanted,hg,hy]
         rw [hw]
         simp only [Zv,if_false]
         exact hn _ ρ _ w (h.put o.dst (cn hok).1 ez) (fun _=>Ext.refl) hv
       | cons _ _=>simp at hv
     | _=>rw [ht] at hv; simp at hv
theorem CA {ops : Array Oper} {o : Oper} {r : List Oper} {K : St -> Prop} (h : Rel A0 N w0 ρ σ a w) (hok : fm N o = true) (hp : aJ o = true) (hv : vops P E ops K (o :: r) σ) :
  ∃ v σ',YieldsIf P ops (Mw o w) o v a /\ Rel A0 N w0 ρ σ' (a.put o.dst v) w /\ vops P E ops K r σ':=by
 have hpre : ∀ {K' : St -> Prop},vop P E o K' σ -> vpre P o σ /\ K' (σ.put o.dst (vval P o σ)):=by
  intro K' h'
  unfold vop at h'
  split at h'
  ·rename_i heq; simp [aJ,heq] at hp
  ·rename_i heq; simp [aJ,heq] at hp
  ·rename_i heq; simp [aJ,heq] at hp
  ·rename_i heq; simp [aJ,heq] at hp
  ·simpa [vnext,hp] using h'
 have yes : Region.wanted o (yielded ops a.tmps) = true -> vop P E o (vops P E ops K r) σ -> ∃ v σ',YieldsIf P ops (Mw o w) o v a /\ Rel A0 N w0 ρ σ' (a.put o.dst v) w /\ vops P E ops K r σ':=by
  intro hw h'
  obtain ⟨h1,h2⟩:=hpre h'
  obtain ⟨val,hr,hV⟩:=pO h o hp h1
  exact ⟨val,_,.inl ⟨hw,hr⟩,h.put _ (cn hok).1 hV,h2⟩
 have no : Region.wanted o (yielded ops a.tmps) = false -> vops P E ops K r (σ.put o.dst (.tup [])) -> ∃ v σ',YieldsIf P ops (Mw o w) o v a /\ Rel A0 N w0 ρ σ' (a.put o.dst v) w /\ vops P E ops K r σ':=
  fun hw h'=>⟨undef,_,.inr ⟨hw,rfl⟩,h.put _ (cn hok).1 ez,h'⟩
 simp only [vops] at hv
 cases hg : o.guard with
 | none =>
   rw [hg] at hv
   exact yes (by simp [Region.wanted,hg]) hv
 | some jw =>
   obtain ⟨j,want⟩:=jw
   rw [hg] at hv
   simp only at hv
   cases hj : (ops[j]?).bind (·.dst) with
   | none=>simp [hj] at hv
   | some d =>
     simp only [hj] at hv
     have hvd:=h.tmps d
     cases ht : σ.t d with
     | d x =>
       rw [ht] at hv hvd
       cases x with
       | bool b =>
         simp only at hv
         simp only [VR] at hvd
         have hval : a.tmps[d]? = some (.bool b):=by
          generalize hva : a.eval (.tmp d) = va at hvd
          cases hvd
          simp only [Act.eval,Qy] at hva
          cases hx : a.tmps[d]? with
          | none=>rw [hx] at hva; simp [undef] at hva
          | some y=>rw [hx] at hva; simp at hva; rw [hva]
         have hy : yielded ops a.tmps j = some b:=by simp [yielded,hj,hval]
         by_cases hb : b = want
         ·exact yes (by simp [Region.wanted,hg,hy,hb]) (hv.1 hb)
         ·exact no (by simp [Region.wanted,hg,hy,hb]) (hv.2 (by simpa using hb))
       | _=>simp at hv
     | tup vs =>
       rw [ht] at hv hvd
       cases vs with
       | nil =>
         simp only at hv
         simp only [VR] at hvd
         obtain ⟨l,hva,hl⟩:=hvd
         have hl0 : l = []:=by cases l with
          | nil=>rfl
          | cons _ _=>simp [LR] at hl
         subst hl0
         have hy : yielded ops a.tmps j = none:=by
          simp only [yielded,hj,Option.bind_some]
          simp only [Act.eval,Qy] at hva
          cases hx : a.tmps[d]? with
          | none=>rfl
          | some y=>rw [hx] at hva; simp at hva; rw [hva]
         exact no (by simp [Region.wanted,hg,hy]) hv
       | cons _ _=>simp at hv
     | _=>rw [ht] at hv; simp at hv
omit [GlobC A0 P] in
theorem B7 {ops : Array Oper} {o : Oper} {t : Tmp} {r : List Oper} {K : St -> Prop} (h : Rel A0 N w0 ρ σ a w) (hok : fm N o = true) (hld : ldT o = some t) (hv : vops P E ops K (o :: r) σ) :
  ∃ v σ' , Rel A0 N w0 ρ σ' (a.put o.dst v) w ∧ vops P E ops K r σ' ∧
    (YieldsIf P ops (fun _=>True) o v a \/ ∃ ad,a.eval (.tmp t) = .pointer (some ad) /\ ad.block < w.heap.size /\ YieldsIf P ops (fun w'=>w'.heap[ad.block]? = w.heap[ad.block]?) o v a):=by
 obtain ⟨dst,op,ty,pos,af,gd⟩:=o
 have hop : ∃ T,op = .load T (.tmp t):=by
  cases op with
  | load T x =>
    cases x with
    | tmp t' =>
      simp only [ldT] at hld
      split at hld
      ·cases hld
      ·cases hld; exact ⟨T,rfl⟩
    | _=>simp [ldT] at hld
  | _=>simp [ldT] at hld
 obtain ⟨T,rfl⟩:=hop
 have yes : Region.wanted (⟨dst,.load T (.tmp t),ty,pos,af,gd⟩ : Oper) (yielded ops a.tmps) = true -> vop P E ⟨dst,.load T (.tmp t),ty,pos,af,gd⟩ (vops P E ops K r) σ ->
   ∃ v σ' ,Rel A0 N w0 ρ σ' (a.put dst v) w /\ vops P E ops K r σ' /\
   (YieldsIf P ops (fun _=>True) ⟨dst,.load T (.tmp t),ty,pos,af,gd⟩ v a \/ ∃ ad,a.eval (.tmp t) = .pointer (some ad) /\ ad.block < w.heap.size /\ YieldsIf P ops (fun w'=>w'.heap[ad.block]? = w.heap[ad.block]?) ⟨dst,.load T (.tmp t),ty,pos,af,gd⟩ v a):=by
  intro hw h'
  simp only [vop,vpre,vnext,aJ,if_true,vval] at h'
  obtain ⟨⟨h1,h2,h3,h4⟩,h5⟩:=h'
  obtain ⟨val,ad,ha,hlt,hrun,hV⟩:=zE h T (h.ev (.tmp t)) h1 h2 h3 h4
  refine ⟨val,_,h.put _ (cn hok).1 hV,h5,.inr ⟨ad,ha,hlt,.inl ⟨hw,fun w' hw'=>?_⟩⟩⟩
  simp [execOp,Instr.loadAt,Instr.sureAddr,ha,hrun w' hw',Jh,Qj,Result.andThen]
 have no : Region.wanted (⟨dst,.load T (.tmp t),ty,pos,af,gd⟩ : Oper) (yielded ops a.tmps) = false -> vops P E ops K r (σ.put dst (.tup [])) ->
   ∃ v σ' ,Rel A0 N w0 ρ σ' (a.put dst v) w /\ vops P E ops K r σ' /\
   (YieldsIf P ops (fun _=>True) ⟨dst,.load T (.tmp t),ty,pos,af,gd⟩ v a \/ ∃ ad,a.eval (.tmp t) = .pointer (some ad) /\ ad.block < w.heap.size /\ YieldsIf P ops (fun w'=>w'.heap[ad.block]? = w.heap[ad.block]?) ⟨dst,.load T (.tmp t),ty,pos,af,gd⟩ v a):=
  fun hw h'=>⟨undef,_,h.put _ (cn hok).1 ez,h',.inl (.inr ⟨hw,rfl⟩)⟩
 simp only [vops] at hv
 cases gd with
 | none=>exact yes (by simp [Region.wanted]) hv
 | some jw =>
   obtain ⟨j,want⟩:=jw
   simp only at hv
   cases hj : (ops[j]?).bind (·.dst) with
   | none=>simp [hj] at hv
   | some d =>
     simp only [hj] at hv
     have hvd:=h.tmps d
     cases ht : σ.t d with
     | d x =>
       rw [ht] at hv hvd
       cases x with
       | bool b =>
         simp only at hv
         simp only [VR] at hvd
         have hval : a.tmps[d]? = some (.bool b):=by
          generalize hva : a.eval (.tmp d) = va at hvd
          cases hvd
          simp only [Act.eval,Qy] at hva
          cases hx : a.tmps[d]? with
          | none=>rw [hx] at hva; simp [undef] at hva
          | some y=>rw [hx] at hva; simp at hva; rw [hva]
         have hy : yielded ops a.tmps j = some b:=by simp [yielded,hj,hval]
         by_cases hb : b = want
         ·exact yes (by simp [Region.wanted,hy,hb]) (hv.1 hb)
         ·exact no (by simp [Region.wanted,hy,hb]) (hv.2 (by simpa using hb))
       | _=>simp at hv
     | tup vs =>
       rw [ht] at hv hvd
       cases vs with
       | nil =>
         simp only at hv
         simp only [VR] at hvd
         obtain ⟨l,hva,hl⟩:=hvd
         have hl0 : l = []:=by cases l with
          | nil=>rfl
          | cons _ _=>simp [LR] at hl
         subst hl0
         have hy : yielded ops a.tmps j = none:=by
          simp only [yielded,hj,Option.bind_some]
          simp only [Act.eval,Qy] at hva
          cases hx : a.tmps[d]? with
          | none=>rfl
          | some y=>rw [hx] at hva; simp at hva; rw [hva]
         exact no (by simp [Region.wanted,hy]) hv
       | cons _ _=>simp at hv
     | _=>rw [ht] at hv; simp at hv
omit [GlobC A0 P] in
theorem D1 {ops : Array Oper} {o : Oper} {ts : List Tmp} {K : St -> Prop} (h : Rel A0 N w0 ρ σ a w) (hok : fm N o = true) (happ : pD o = true) (hs : vsep σ o ts) (hv : vops P E ops K [o] σ) {next : Act -> World -> Prop} {Q : Exit -> Act -> World -> Prop}
  (hn : ∀ σ' ρ' a' w',Rel A0 N w0 ρ' σ' a' w' -> (∀ t ∈ ts,∀ ad,a.eval (.tmp t) = .pointer (some ad) -> ad.block < w.heap.size -> w'.heap[ad.block]? = w.heap[ad.block]?) -> K σ' -> next a' w') :
  if Region.wanted o (yielded ops a.tmps) then o.wp P a w next Q \/ (o.asks P a w /\ LetsOut Q) else next (a.put o.dst undef) w:=by
 simp only [pD,Jq,Option.isNone_iff_eq_none] at happ
 obtain ⟨happ,hg⟩:=happ
 simp only [vops,hg] at hv
 have hw : Region.wanted o (yielded ops a.tmps) = true:=by simp [Region.wanted,hg]
 rw [if_pos hw]
 refine .inl ?_
 obtain ⟨hd,hmk⟩:=cn hok
 by_cases ha : E.a = true
 ·unfold vop at hv
  split at hv
  ·rename_i args tys heq
   rw [if_pos ha] at hv
   obtain ⟨dst,op,ty,pos,af,gd⟩:=o
   simp only at heq
   subst heq
   obtain ⟨s,x,t,dk,g,es,rfl,rfl,rfl,h1,h2,h3,h4,h5,h6,h7,h8,h9,h10,h11⟩:=hv
   obtain ⟨g',hs',e1,e2,e3,val,w',ρ',hr,_,hR,hkeep⟩:=ph (P:=P) (E:=E) (pos:=pos) (af:=af) (gd:=gd) (ty:=ty) h s x t dk (hd dk rfl) h1 h2 h3 h4 h5 h6 h7 h8 h9 h10
   have hS : Sof A0 σ.B ρ σ.m w g:=by
    have hvs:=h.ev s
    rw [h4] at hvs
    simp only [VR] at hvs
    generalize a.eval s = vv at hvs
    cases hvs
    assumption
   have hkey : fh σ ⟨some dk,.call ⟨.builtin .append,#[s,x],#[t,t]⟩,ty,pos,af,gd⟩ = none:=by
    have e0 : σ.ev (#[s,x].getD 0 default) = σ.ev s:=rfl
    simp only [fh,e0,h4]
   unfold vsep at hs
   rw [hkey] at hs
   have fin : next (a.put (some dk) val) w':=hn _ _ _ _ hR (fun t' ht ad hta hlt=>hkeep _ hlt (by
    have:=h.tmps t'
    rw [hta] at this
    exact yt h (hs t' ht) this hS)) (h11 g' hs' e1 e2 e3)
   unfold Oper.wp
   rcases hr with hr | ⟨hr,rfl⟩ <;> rw [hr] <;> exact fin
  ·rename_i heq; simp [heq] at happ
  ·rename_i heq; simp [heq] at happ
  ·rename_i heq; simp [heq] at happ
  ·rename_i h0 _ _ _
   exfalso
   split at happ
   ·rename_i args tys heq; exact h0 args tys heq
   ·cases happ
 unfold vsep at hs
 cases hkey : fh σ o with
 | none =>
   rw [hkey] at hs
   simp only at hs
   have hpre : vpre P o σ /\ K (veff P o σ):=by
    unfold vop at hv
    split at hv
    ·rw [if_neg ha] at hv
     have hnp : aJ o = false:=by
      cases hp : aJ o with
      | false=>rfl
      | true =>
        unfold aJ at hp
        split at hp <;> simp_all
     simpa [vnext,hnp] using hv
    ·rename_i heq; simp [heq] at happ
    ·rename_i heq; simp [heq] at happ
    ·rename_i heq; simp [heq] at happ
    ·have hnp : aJ o = false:=by
      cases hp : aJ o with
      | false=>rfl
      | true =>
        unfold aJ at hp
        split at hp <;> simp_all
     simpa [vnext,hnp] using hv
   obtain ⟨g,hS,val,w',ρ',hr,_,hR,hkeep⟩:=vK (E:=E) h o hd hmk happ hkey hpre.1
   have fin : next (a.put o.dst val) w':=hn _ _ _ _ hR (fun t ht ad hta hlt=>hkeep _ hlt (by
    have:=h.tmps t
    rw [hta] at this
    exact yt h (hs t ht) this hS)) hpre.2
   unfold Oper.wp
   rcases hr with hr | ⟨hr,rfl⟩ <;> rw [hr] <;> exact fin
 | some key =>
   rw [hkey] at hs
   simp only at hs
   have hpre : vpre P o σ /\ K (veff P o σ):=by
    unfold vop at hv
    split at hv
    ·rw [if_neg ha] at hv
     have hnp : aJ o = false:=by
      cases hp : aJ o with
      | false=>rfl
      | true =>
        unfold aJ at hp
        split at hp <;> simp_all
     simpa [vnext,hnp] using hv
    ·rename_i heq; simp [heq] at happ
    ·rename_i heq; simp [heq] at happ
    ·rename_i heq; simp [heq] at happ
    ·have hnp : aJ o = false:=by
      cases hp : aJ o with
      | false=>rfl
      | true =>
        unfold aJ at hp
        split at hp <;> simp_all
     simpa [vnext,hnp] using hv
   obtain ⟨val,w',ρ',hr,_,hR,hkeep⟩:=vL (E:=E) h o hd hmk hkey hpre.1
   have fin : next (a.put o.dst val) w':=hn _ _ _ _ hR (fun t ht ad hta hlt=>hkeep _ hlt (by
    have:=h.tmps t
    rw [hta] at this
    exact Fb h (hs t ht) this (.inr trivial))) hpre.2
   unfold Oper.wp
   rcases hr with hr | ⟨hr,rfl⟩ <;> rw [hr] <;> exact fin
section
variable {ops : Array Oper} {K : St -> Prop} {Q : Exit -> Act -> World -> Prop} (hsel : Region.noSelect ops = true) (hok : ∀ o ∈ ops,fm N o = true) (hP : ∀ c a w,¬ Q (.panic c) a w)
theorem jY {listed : Array Bool} {i : Nat} (hi : i ∈ Region.ready .any ops listed) : ∃ o,ops[i]? = some o:=by
 obtain ⟨_,o,ho,_⟩:=mem_ready.1 hi
 exact ⟨o,ho⟩
include hok in
theorem vC {i : Nat} {o : Oper} (ho : ops[i]? = some o) {r : List Oper} (h : Rel A0 N w0 ρ σ a w) (hv : vops P E ops K (o :: r) σ) {next : Act -> World -> Prop}
  (hn : ∀ σ' ρ' a' w',Rel A0 N w0 ρ' σ' a' w' -> (effOp E o = false -> Ext w w') -> vops P E ops K r σ' -> next a' w') : wpOp P ops Q i next a w:=by
 unfold wpOp
 simp only [ho]
 exact zL h (hok o (Array.mem_of_getElem? ho)) hv hn
theorem uI {listed : Array Bool} {i : Nat} {o : Oper} (ho : ops[i]? = some o) (hp : ox ops listed i = true) {w' : World} (hE : effOp E o = false -> Ext w w') : Gd E ops listed i a w w':=by
 refine ⟨fun he=>hE (by simpa [ho] using he),fun ha t ht=>?_⟩
 simp only [ox,ho,Xx,Bool.not_eq_true',List.isEmpty_iff] at hp
 simp only [ho] at ha
 rcases hp with hp | hp
 ·rw [ha] at hp; cases hp
 ·rw [hp] at ht; cases ht
theorem rL {listed : Array Bool} {i : Nat} (hr : i ∈ Region.ready .any ops listed) : listed.getD i false = false:=by
 have hni:=(mem_ready.1 hr).1
 rcases Nat.lt_or_ge i listed.size with h' | h'
 ·simp [h'] at hni ⊢; exact hni
 ·simp [Array.getElem?_eq_none h']
theorem qq {listed : Array Bool} {i j : Nat} (hcl : Closed ops listed) (hrj : j ∈ Region.ready .any ops listed) (hri : i ∈ Region.ready .any ops listed) : waits ops ops.size j i = false:=by
 obtain ⟨_,oj,hoj,hall⟩:=mem_ready.1 hrj
 cases hw : waits ops ops.size j i with
 | false=>rfl
 | true =>
   have hli:=jx hcl ops.size j (fun o' ho'=>by rw [hoj] at ho'; cases ho'; exact hall) hw
   rw [rL hri] at hli; cases hli
include hsel hok hP in
theorem gH {k : Nat -> Array Bool -> Bool} {K' : St -> Prop} (hk : ∀ n listed ρ σ a w,k n listed = true -> Closed ops listed -> Rel A0 N w0 ρ σ a w -> K' σ -> ic P E ops Q n listed a w) :
  ∀ (l : List Nat) (n : Nat) (listed : Array Bool) (ρ : Nat -> Option (Nat × Nat)) (σ : St) (a : Act) (w : World),covL E ops k l n listed = true -> Closed ops listed -> Rel A0 N w0 ρ σ a w -> vops P E ops K' (pick ops l) σ -> ic P E ops Q n listed a w
 | [],n,listed,ρ,σ,a,w,hc,hcl,h,hv=>hk n listed ρ σ a w hc hcl h hv
 | _ :: _,0,_,_,_,_,_,hc,_,_,_=>by simp [covL] at hc
 | i :: l, n + 1, listed, ρ, σ, a, w, hc, hcl, h, hv => by
   simp only [covL,Jq] at hc
   obtain ⟨⟨hs,hpl⟩,hc⟩:=hc
   simp only [C7,Xx,Xj] at hs
   simp only [pick] at hv
   rcases hs with hs | hs
   ·simp only [Cy,Jq] at hs
    obtain ⟨⟨⟨⟨h1,h2⟩,h3⟩,h4⟩,h5⟩:=hs
    have hr : i ∈ Region.ready .any ops listed:=by simpa using h2
    obtain ⟨o,ho⟩:=jY hr
    have hg : ops.getD i default = o:=by simp [Qy,ho]
    rw [hg] at hv
    simp only [ho] at h1
    have hna : ∀ (listed' : Array Bool) (j : Nat) (t : Tmp),Closed ops listed' -> i ∈ Region.ready .any ops listed' -> t ∈ iC ops listed' j -> o.dst ≠ some t:=by
     intro listed' j t hcl' hri ht hdt
     simp only [iC,List.mem_filterMap] at ht
     obtain ⟨k,hk,ht⟩:=ht
     split at ht
     ·rename_i hkl
      simp only [Jq,Bool.not_eq_true'] at hkl
      have h6:=Jk.1 h5 k hk
      rw [ht] at h6
      simp only [ho,hdt,beq_self_eq_true,Bool.not_true,Bool.false_or] at h6
      have:=jx hcl' ops.size k (fun o' ho'=>hcl' k o' hkl.1 ho') h6
      rw [rL hri] at this; cases this
     ·cases ht
    have hGput : ∀ (j : Nat) (listed' : Array Bool) (a : Act) (v : Value) (w1 w2 : World),j ≠ i -> Closed ops listed' -> i ∈ Region.ready .any ops listed' -> Gd E ops (listed'.setIfInBounds i true) j (a.put o.dst v) w1 w2 -> Gd E ops listed' j a w1 w2:=by
     intro j listed' a v w1 w2 hji hcl' hri hG
     refine ⟨hG.1,fun ha t ht ad hta=>hG.2 ha t (wC (Ne.symm hji) ht) ad ?_⟩
     rw [Act.eval_put fun d hd he=>by cases he; exact hna listed' j t hcl' hri ht hd]
     exact hta
    cases hld : ldT o with
    | none =>
      obtain ⟨v,σ',hy,hR,hv'⟩:=CA h (hok o (Array.mem_of_getElem? ho)) h1 hv
      refine lP (E:=E) (R:=Mw o w) (Iv:=fun _=>True) (L0:=listed) ho (Region.noSelect_spec hsel) hP ?_ (fun _ _ _ _ _ _=>trivial) (fun listed a w1=>⟨fun _=>Ext.refl,fun _ _ _ _ _ _=>rfl⟩) n listed a w hcl (fun k hk=>hk) (Region.free_spec ho h3) hr hy (fun _=>Ext.refl) trivial
       (gH hk l n _ ρ σ' _ w hc (hcl.set hr) hR hv')
      intro j oj listed' a w1 w2 hj hji hcl' hL hrj hri _ hR1 hG
      refine ⟨fun hmem=>?_,hGput j listed' a v w1 w2 hji hcl' hri hG⟩
      have hR1:=hR1 hmem
      have hjn : j < ops.size:=(Qh.1 hj).1
      have h6:=Jk.1 h4 j (Zg.2 hjn)
      have hej : effOp E oj = false:=by
       cases hej : effOp E oj with
       | false=>rfl
       | true =>
         simp only [hj,ho,hmem,Bool.not_true,Bool.false_or,hld,Option.bind_some,Option.isSome_none,Bool.and_false,Bool.or_false,hej,Xx] at h6
         rcases h6 with h6 | h6
         ·have:=hL j h6
          rw [(mem_ready.1 hrj).1] at this; cases this
         ·rw [qq hcl' hrj hri] at h6; cases h6
      have hext : Ext w1 w2:=hG.1 (by simp [hj,hej])
      exact ⟨Zy hR1.1 hext.1,fun g hg=>(hext.2 g (Xq hg hR1.1)).trans (hR1.2 g hg)⟩
    | some t =>
      obtain ⟨v,σ',hR,hv',hy⟩:=B7 h (hok o (Array.mem_of_getElem? ho)) hld hv
      have hdt : o.dst ≠ some t:=by
       simp only [ldT] at hld
       split at hld
       ·split at hld
        ·cases hld
        ·rename_i hne; cases hld; exact hne
       ·cases hld
      have hlook : t ∈ o.looksAt ops:=by
       simp only [ldT] at hld
       split at hld
       ·rename_i T t' heq
        split at hld
        ·cases hld
        ·cases hld; simp [Oper.looksAt,heq,Op.operands]
       ·cases hld
      have hk':=gH hk l n _ ρ σ' _ w hc (hcl.set hr) hR hv'
      rcases hy with hy | ⟨ad,hta,hlt,hy⟩
      ·refine lP (E:=E) (R:=fun _=>True) (Iv:=fun _=>True) (L0:=listed) ho (Region.noSelect_spec hsel) hP ?_ (fun _ _ _ _ _ _=>trivial) (fun listed a w1=>⟨fun _=>Ext.refl,fun _ _ _ _ _ _=>rfl⟩) n listed a w hcl (fun k hk=>hk) (Region.free_spec ho h3) hr hy trivial trivial hk'
       intro j oj listed' a w1 w2 hj hji hcl' hL hrj hri _ _ hG
       exact ⟨trivial,hGput j listed' a v w1 w2 hji hcl' hri hG⟩
      ·refine lP (E:=E) (R:=fun w'=>w'.heap[ad.block]? = w.heap[ad.block]?) (Iv:=fun a=>a.eval (.tmp t) = .pointer (some ad)) (L0:=listed) ho (Region.noSelect_spec hsel) hP ?_ (fun oj a a' hap hfr hIa=>?_) (fun listed a w1=>⟨fun _=>Ext.refl,fun _ _ _ _ _ _=>rfl⟩) n listed a w hcl (fun k hk=>hk) (Region.free_spec ho h3) hr hy rfl hta hk'
       ·intro j oj listed' a w1 w2 hj hji hcl' hL hrj hri hIa hR1 hG
        refine ⟨?_,hGput j listed' a v w1 w2 hji hcl' hri hG⟩
        have hlt1 : ad.block < w1.heap.size:=by
         have hs : w1.heap[ad.block]? = some w.heap[ad.block]:=by rw [hR1]; exact Array.getElem?_eq_getElem hlt
         exact (Qh.1 hs).1
        have hjn : j < ops.size:=(Qh.1 hj).1
        have h6:=Jk.1 h4 j (Zg.2 hjn)
        cases hej : effOp E oj with
        | false =>
          have hext : Ext w1 w2:=hG.1 (by simp [hj,hej])
          exact (hext.2 _ hlt1).trans hR1
        | true =>
          have hmem : memOp o = true:=by
           simp only [ldT] at hld
           split at hld
           ·rename_i T t' heq; simp [memOp,heq]
           ·cases hld
          simp only [hj,ho,hej,hmem,Bool.false_or,Bool.not_true,Xx,Jq,Bool.or_false] at h6
          rcases h6 with (h6 | h6) | h6
          ·have:=hL j h6
           have hu:=(mem_ready.1 hrj).1
           rw [hu] at this; cases this
          ·rw [qq hcl' hrj hri] at h6; cases h6
          ·have hin : t ∈ iC ops (listed'.setIfInBounds i true) j:=by
            simp only [iC,List.mem_filterMap]
            refine ⟨i,Zg.2 (Qh.1 ho).1,?_⟩
            have hil : (listed'.setIfInBounds i true).getD i false = true:=by
             have hsz : i < listed'.size:=by
              have hu:=(mem_ready.1 hri).1
              rcases Nat.lt_or_ge i listed'.size with h' | h'
              ·exact h'
              ·simp [Array.getElem?_eq_none h'] at hu
             simp [Qy,Array.getElem?_setIfInBounds,hsz]
            rw [hil,qq hcl' hrj hri,ho]
            simpa using hld
           refine (hG.2 (by simp [hj,h6.1]) t hin ad ?_ hlt1).trans hR1
           rw [Act.eval_put fun d hd he=>by cases he; exact hdt hd]
           exact hIa
       ·obtain ⟨_,_,h8⟩:=Oper.apart_spec hap
        rw [hfr t fun hd=>h8 t hd hlook]
        exact hIa
   ·have hr : i ∈ Region.ready .any ops listed:=by rw [hs]; simp
    obtain ⟨o,ho⟩:=jY hr
    have hg : ops.getD i default = o:=by simp [Qy,ho]
    rw [hg] at hv
    refine ⟨fun h0=>(by rw [h0] at hs; cases hs),fun j hj=>?_⟩
    rw [hs] at hj
    have hji : j = i:=by simpa using hj
    subst hji
    exact vC hok ho h hv fun σ' ρ' a' w' hR hE hv'=>⟨uI ho hpl hE,gH hk l n _ ρ' σ' a' w' hc (hcl.set hr) hR hv'⟩
include hsel hok hP in
theorem gG {i : Nat} (hi : ∃ o,ops[i]? = some o) : ∀ (t : Tr) (n : Nat) (listed : Array Bool) (ρ : Nat -> Option (Nat × Nat)) (σ : St) (a : Act) (w : World),
  (∀ u : Tr,u.sz < t.sz -> ∀ n listed ρ σ a w,cov E ops u n listed = true -> Closed ops listed -> Rel A0 N w0 ρ σ a w -> vtr P E ops K u σ -> ic P E ops Q n listed a w) ->
  covH E ops t n listed = true -> i ∈ t.heads -> Closed ops listed -> i ∈ Region.ready .any ops listed -> Rel A0 N w0 ρ σ a w -> vtr P E ops K t σ ->
  ∃ m,n = m + 1 /\ wpOp P ops Q i (fun a' w'=>Gd E ops listed i a w w' /\ ic P E ops Q m (listed.setIfInBounds i true) a' w') a w
 | .nil,_,_,_,_,_,_,_,hc,_,_,_,_,_=>by simp [covH] at hc
 | .seq [] t,_,_,_,_,_,_,_,hc,_,_,_,_,_=>by simp [covH] at hc
 | .seq (i' :: l) t,0,_,_,_,_,_,_,hc,_,_,_,_,_=>by simp [covH] at hc
 | .app i' ts t,0,_,_,_,_,_,_,hc,_,_,_,_,_=>by simp [covH] at hc
 | .app i' ts t, n + 1, listed, ρ, σ, a, w, ih, hc, hh, hcl, hr, h, hv => by
   have : i = i':=by simpa [Tr.heads] using hh
   subst this
   simp only [covH,Jq] at hc
   simp only [vtr] at hv
   obtain ⟨o,ho⟩:=hi
   have hg : ops.getD i default = o:=by simp [Qy,ho]
   rw [hg] at hv
   refine ⟨n,rfl,?_⟩
   simp only [vJ,ho,Jq] at hc
   unfold wpOp
   simp only [ho]
   refine D1 h (hok o (Array.mem_of_getElem? ho)) hc.1.1 hv.1 hv.2 fun σ' ρ' a' w' hR hkeep hv'=>⟨⟨fun he=>?_,fun _ t' ht'=>hkeep t' ?_⟩,ih t (by simp [Tr.sz]) n _ ρ' σ' a' w' hc.2 (hcl.set hr) hR hv'⟩
   ·have h7:=hc.1.1
    simp only [ho] at he
    simp only [pD,Jq] at h7
    have h8:=h7.1
    split at h8
    ·rename_i heq; simp [effOp,heq] at he
    ·cases h8
   ·have:=Jk.1 hc.1.2 t' ht'
    simpa using this
 | .seq (i' :: l) t, n + 1, listed, ρ, σ, a, w, ih, hc, hh, hcl, hr, h, hv => by
   have : i = i':=by simpa [Tr.heads] using hh
   subst this
   simp only [covH,Jq] at hc
   simp only [vtr,pick] at hv
   obtain ⟨o,ho⟩:=hi
   have hg : ops.getD i default = o:=by simp [Qy,ho]
   rw [hg] at hv
   exact ⟨n,rfl,vC hok ho h hv fun σ' ρ' a' w' hR hE hv'=>⟨uI ho hc.1 hE,gH hsel hok hP (ih t (by simp [Tr.sz])) l n _ ρ' σ' a' w' hc.2 (hcl.set hr) hR hv'⟩⟩
 | .both t u, n, listed, ρ, σ, a, w, ih, hc, hh, hcl, hr, h, hv => by
   simp only [covH,Jq] at hc
   simp only [Tr.heads,Qq] at hh
   rcases hh with hh | hh
   ·exact gG hi t n listed ρ σ a w (fun v hv'=>ih v (by simp only [Tr.sz]; omega)) hc.1 hh hcl hr h hv.1
   ·exact gG hi u n listed ρ σ a w (fun v hv'=>ih v (by simp only [Tr.sz]; omega)) hc.2 hh hcl hr h hv.2
include hsel hok hP in
theorem iN (hK : ∀ σ' ρ' a' w',Rel A0 N w0 ρ' σ' a' w' -> K σ' -> Q .normal a' w') : ∀ (t : Tr) (n : Nat) (listed : Array Bool) (ρ : Nat -> Option (Nat × Nat)) (σ : St) (a : Act) (w : World),
  cov E ops t n listed = true -> Closed ops listed -> Rel A0 N w0 ρ σ a w -> vtr P E ops K t σ -> ic P E ops Q n listed a w
 | .nil, n, listed, ρ, σ, a, w, hc, _, h, hv => by
   simp only [cov,List.isEmpty_iff] at hc
   exact vB hc (hK _ _ _ _ h hv) n
 | .seq l t, n, listed, ρ, σ, a, w, hc, hcl, h, hv => by
   simp only [cov] at hc
   exact gH hsel hok hP (iN hK t) l n listed ρ σ a w hc hcl h hv
 | .app i ts t,0,listed,ρ,σ,a,w,hc,hcl,h,hv=>by simp [cov] at hc
 | .app i ts t, n + 1, listed, ρ, σ, a, w, hc, hcl, h, hv => by
   simp only [cov,Jq,Xj] at hc
   obtain ⟨⟨hs,h1⟩,h2⟩:=hc
   have hr : i ∈ Region.ready .any ops listed:=by rw [hs]; simp
   obtain ⟨m,hm,hw⟩:=gG hsel hok hP (jY hr) (.app i ts t) (n + 1) listed ρ σ a w (fun v hv'=>iN hK v) (by simp only [covH,h1,h2,Bool.and_self]) (by simp [Tr.heads]) hcl hr h hv
   cases hm
   refine ⟨fun h0=>(by rw [h0] at hs; cases hs),fun j hj=>?_⟩
   rw [hs] at hj
   have hji : j = i:=by simpa using hj
   subst hji
   exact hw
 | .both t u, n, listed, ρ, σ, a, w, hc, hcl, h, hv => by
   simp only [cov,Jq] at hc
   obtain ⟨⟨⟨hall,hne⟩,ht⟩,hu⟩:=hc
   have key : ∀ i ∈ Region.ready .any ops listed,∃ m,n = m + 1 /\ wpOp P ops Q i (fun a' w'=>Gd E ops listed i a w w' /\ ic P E ops Q m (listed.setIfInBounds i true) a' w') a w:=by
    intro i hi
    have hh:=Jk.1 hall i hi
    simp only [List.contains_eq_mem,Qq,Xj] at hh
    rcases hh with hh | hh
    ·exact gG hsel hok hP (jY hi) t n listed ρ σ a w (fun v hv'=>iN hK v) ht hh hcl hi h hv.1
    ·exact gG hsel hok hP (jY hi) u n listed ρ σ a w (fun v hv'=>iN hK v) hu hh hcl hi h hv.2
   cases n with
   | zero =>
     cases hr : Region.ready .any ops listed with
     | nil=>simp [hr] at hne
     | cons i r=>obtain ⟨m,hm,_⟩:=key i (by rw [hr]; simp); cases hm
   | succ n =>
     refine ⟨fun h0=>by simp [h0] at hne,fun i hi=>?_⟩
     obtain ⟨m,hm,hw⟩:=key i hi
     cases hm
     exact hw
 termination_by t=>t.sz
 decreasing_by all_goals (simp only [Tr.sz] at *; omega)
end
theorem vW {id : Nat} {ops : Array Oper} {t : Tr} {K : St -> Prop} {Q : Exit -> Act -> World -> Prop} (hm : P.follows .mixedOrders = true) (hc : se E ops t = true) (hok : ∀ o ∈ ops,fm N o = true)
  (hQ : ∀ σ' ρ' a' w',Rel A0 N w0 ρ' σ' a' w' -> K σ' -> Q .normal a' w') (h : Rel A0 N w0 ρ σ a w) (hv : vtr P E ops K t σ) : (Code.region id ops true).wp P Q a w:=by
 simp only [se,Jq] at hc
 have h' : Rel A0 N w0 ρ σ a { w with drawn:=w.drawn + 1 }:=by
  have:=h.world (w':=w.drew) (h.below.trans (.of (Below.refl _ _).drew)) (fun _ _=>rfl) (Jv _) (hs':=σ.hs) h.hs (Jv _)
  exact this
 refine wp_mono (Q:=fun e a w=>match e with | .normal=>Q .normal a w | _=>False) (wp_region_any hm (qt (E:=E) _ _ _ _ ?_)) (fun e a w he=>by cases e <;> first | exact he | exact he.elim)
 refine iN (E:=E) (K:=K) (Q:=fun e a w=>match e with | .normal=>Q .normal a w | _=>False) hc.1 hok (fun c a w he=>he) (fun σ' ρ' a' w' hR hK=>hQ σ' ρ' a' w' hR hK) t _ _ ρ σ a _ hc.2 (fun k o hk=>?_) h' hv
 rw [Qy,Array.getElem?_replicate] at hk
 split at hk <;> simp at hk
def dq (E : FuncId -> Bool) (N : Nat) (sch : Nat -> Tr) : Code -> Bool
 | .region id ops dr=>ops.all (fm N) && (!dr || se E ops (sch id))
 | .seq a b | .cond _ a b=>dq E N sch a && dq E N sch b
 | .block _ c | .loop c=>dq E N sch c
 | .skip | .exit _ | .ret=>true
 | _=>false
def Hv (Q : Exit -> St -> Prop) (A0 : Env) (N : Nat) (w0 : World) : Exit -> Act -> World -> Prop:=fun e a w=>∃ σ ρ,Rel A0 N w0 ρ σ a w /\ Q e σ
theorem cV (hm : P.follows .mixedOrders = true) (sch : Nat -> Tr) : ∀ (c : Code) (Q : Exit -> St -> Prop) (ρ : Nat -> Option (Nat × Nat)) (σ : St) (a : Act) (w : World),dq E N sch c = true -> Rel A0 N w0 ρ σ a w -> vwp P E sch c Q σ ->
  c.wp P (Hv Q A0 N w0) a w
 | .skip,Q,ρ,σ,a,w,_,h,hv=>wp_skip ⟨σ,ρ,h,hv⟩
 | .region id ops dr, Q, ρ, σ, a, w, hok, h, hv => by
   simp only [dq,Jq,Xx,Bool.not_eq_true'] at hok
   have hall : ∀ o ∈ ops,fm N o = true:=fun o ho=>Array.all_eq_true_iff_forall_mem.1 hok.1 o ho
   cases dr with
   | true =>
     exact vW hm (hok.2.resolve_left (by simp)) hall (fun σ' ρ' a' w' hR hK=>⟨σ',ρ',hR,hK⟩) h hv
   | false =>
     refine wp_region_list ?_
     exact gV (K:=Q .normal) (fun σ' ρ' a' w' hR hK=>⟨σ',ρ',hR,hK⟩) ops.toList ρ σ a w (fun o ho=>hall o (by simpa using ho)) h hv
 | .seq x y, Q, ρ, σ, a, w, hok, h, hv => by
   simp only [dq,Jq] at hok
   refine wp_seq (wp_mono (cV hm sch x _ ρ σ a w hok.1 h hv) fun e a' w' he=>?_)
   obtain ⟨σ',ρ',hR,hK⟩:=he
   cases e with
   | normal=>exact cV hm sch y Q ρ' σ' a' w' hok.2 hR hK
   | _=>exact ⟨σ',ρ',hR,hK⟩
 | .cond c x y, Q, ρ, σ, a, w, hok, h, hv => by
   simp only [dq,Jq] at hok
   obtain ⟨hb,h1,h2⟩:=hv
   have hc:=xg (h.ev c) hb
   refine wp_cond_split hc (fun ht=>cV hm sch x Q ρ σ a w hok.1 h (h1 ht)) (fun hf=>cV hm sch y Q ρ σ a w hok.2 h (h2 hf))
 | .block id c, Q, ρ, σ, a, w, hok, h, hv => by
   refine wp_block (wp_mono (cV hm sch c _ ρ σ a w hok h hv) fun e a' w' he=>?_)
   obtain ⟨σ',ρ',hR,hK⟩:=he
   cases e with
   | exit id' =>
     simp only [fC] at hK
     simp only [Exit.inBlock]
     split
     ·rename_i hid; rw [if_pos hid] at hK; exact ⟨σ',ρ',hR,hK⟩
     ·rename_i hid; rw [if_neg hid] at hK; exact ⟨σ',ρ',hR,hK⟩
   | _=>exact ⟨σ',ρ',hR,hK⟩
 | .loop c, Q, ρ, σ, a, w, hok, h, hv => by
   obtain ⟨I,h0,hround⟩:=hv
   let Pn : Act -> World -> Nat -> Prop:=fun a w n=>∃ σ ρ,Rel A0 N w0 ρ σ a w /\ I n σ
   have hmin : ∀ a w,∃ m,(∃ n,Pn a w n) -> Pn a w m /\ ∀ k,Pn a w k -> m <= k:=by
    intro a w
    by_cases hex : ∃ n,Pn a w n
    ·obtain ⟨n,hn⟩:=hex
     have : ∀ n,Pn a w n -> ∃ m,Pn a w m /\ ∀ k,Pn a w k -> m <= k:=by
      intro n
      induction n using Nat.strongRecOn with
      | _ n ih =>
        intro hn
        by_cases hlt : ∃ k,k < n /\ Pn a w k
        ·obtain ⟨k,hk,hp⟩:=hlt; exact ih k hk hp
        ·exact ⟨n,hn,fun k hk=>Xv fun hc=>hlt ⟨k,by omega,hk⟩⟩
     obtain ⟨m,hm⟩:=this n hn
     exact ⟨m,fun _=>hm⟩
    ·exact ⟨0,fun h=>absurd h hex⟩
   let mu : Act -> World -> Nat:=fun a w=>Classical.choose (hmin a w)
   have hmu : ∀ a w,(∃ n,Pn a w n) -> Pn a w (mu a w) /\ ∀ k,Pn a w k -> mu a w <= k:=fun a w=>Classical.choose_spec (hmin a w)
   obtain ⟨σ',ρ',hR,n0,hI⟩:=h0 _ _ _ _ _ _ h
   refine wp_loop (fun a w=>∃ n,Pn a w n) mu ⟨n0,σ',ρ',hR,hI⟩ fun a w hI=>?_
   obtain ⟨⟨σ1,ρ1,hR1,hI1⟩,_⟩:=hmu a w hI
   refine wp_mono (cV hm sch c _ ρ1 σ1 a w hok hR1 (hround _ σ1 hI1)) fun e a' w' he=>?_
   obtain ⟨σ2,ρ2,hR2,hK⟩:=he
   cases e with
   | normal =>
     obtain ⟨σ3,ρ3,hR3,k,hlt,hI3⟩:=hK _ _ _ _ _ _ hR2
     have hp : Pn a' w' k:=⟨σ3,ρ3,hR3,hI3⟩
     exact ⟨⟨_,hp⟩,Nat.lt_of_le_of_lt ((hmu a' w' ⟨_,hp⟩).2 _ hp) hlt⟩
   | _=>exact ⟨σ2,ρ2,hR2,hK⟩
 | .exit id,Q,ρ,σ,a,w,_,h,hv=>wp_exit ⟨σ,ρ,h,hv⟩
 | .ret,Q,ρ,σ,a,w,_,h,hv=>wp_ret ⟨σ,ρ,h,hv⟩
 | .rangeFunc ..,_,_,_,_,_,hok,_,_=>by simp [dq] at hok
 | .scope _,_,_,_,_,_,hok,_,_=>by simp [dq] at hok
 | .label _,_,_,_,_,_,hok,_,_=>by simp [dq] at hok
 | .goto _,_,_,_,_,_,hok,_,_=>by simp [dq] at hok
 | .refuse _,_,_,_,_,_,hok,_,_=>by simp [dq] at hok
end
end
section
open Go.RowKit
section
variable {P : Program} {E : Md} {A0 : Env} [GlobC A0 P] {N : Nat} {w0 : World} {ρ : Nat -> Option (Nat × Nat)} {σ : St} {a : Act} {w : World}
omit [GlobC A0 P] in
theorem E4 (h : Rel A0 N w0 ρ σ a w) (rv : ResultVar) (hr : nX P σ rv) :
  ∃ val,((match rv with | .tmp t=>Pure.pure (a.tmps.getD t undef) | .cell c t=>do loadVar t (<- asAddr (a.tmps.getD c undef)) : Sem Value)).run P w = .ok val w /\ VR ρ σ.m (Sof A0 σ.B ρ σ.m w) w (resV P σ rv) val:=by
 cases rv with
 | tmp t=>exact ⟨_,by simp [Qj,Act.eval],h.tmps t⟩
 | cell c T =>
   simp only [nX] at hr
   obtain ⟨val,hrun,hv⟩:=uo (w':=w) h Ext.refl T (h.tmps c) hr.1 hr.2.1 hr.2.2.1 hr.2.2.2
   obtain ⟨ad,ha,hl⟩:=hrun w Ext.refl
   refine ⟨val,?_,hv⟩
   simp only [Act.eval] at ha
   simp only
   rw [Jh,ha]
   simp [asAddr,Qj,Result.andThen,hl]
omit [GlobC A0 P] in
theorem uR (h : Rel A0 N w0 ρ σ a w) : ∀ (rs : List ResultVar),(∀ r ∈ rs,nX P σ r) ->
  ∃ vals,(rs.mapM fun rv=>(match rv with | .tmp t=>Pure.pure (a.tmps.getD t undef) | .cell c t=>do loadVar t (<- asAddr (a.tmps.getD c undef)) : Sem Value)).run P w = .ok vals w /\ LR ρ σ.m (Sof A0 σ.B ρ σ.m w) w (rs.map (resV P σ)) vals
 | [],_=>⟨[],by simp [Qj],by simp [LR]⟩
 | r :: rs, hr => by
   obtain ⟨v,h1,h2⟩:=E4 h r (hr r (by simp))
   obtain ⟨vs,h3,h4⟩:=uR h rs fun r hr'=>hr r (by simp [hr'])
   refine ⟨v :: vs,?_,by simp only [Qz,LR]; exact ⟨h2,h4⟩⟩
   rw [List.mapM_cons,Jh,h1]
   simp only [Result.andThen]
   rw [Jh,h3]
   simp [Qj,Result.andThen]
omit [GlobC A0 P] in
theorem iw (h : Rel A0 N w0 ρ σ a w) (fn : Func) (hr : ∀ r ∈ fn.results.toList,nX P σ r) :
  ∃ val,(results fn a.tmps).run P w = .ok val w /\ VR ρ σ.m (Sof A0 σ.B ρ σ.m w) w (oneV (fn.results.toList.map (resV P σ))) val:=by
 obtain ⟨vals,h1,h2⟩:=uR h fn.results.toList hr
 have hrun : (results fn a.tmps).run P w = .ok (if h : vals.toArray.size = 1 then vals.toArray[0] else .tuple vals.toArray) w:=by
  unfold results
  rw [Array.mapM_eq_mapM_toList]
  simp only [Jh,map_eq_pure_bind,bind_assoc,pure_bind]
  erw [h1]
  simp [Qj,Result.andThen]
 refine ⟨_,hrun,?_⟩
 match hl : fn.results.toList.map (resV P σ),vals,h2 with
 | [],[],_=>simp only [oneV,VR]; exact ⟨[],by simp,by simp [LR]⟩
 | [v],[u],h2=>simp only [LR] at h2; simpa [oneV] using h2.1
 | v1 :: v2 :: r,u1 :: u2 :: s,h2=>simp only [oneV,VR]; exact ⟨u1 :: u2 :: s,by simp,h2⟩
 | [],_ :: _,h2=>simp [LR] at h2
 | [_],[],h2=>simp [LR] at h2
 | _ :: _ :: _,[],h2=>simp [LR] at h2
 | [_],_ :: _ :: _,h2=>simp [LR] at h2
 | _ :: _ :: _,[_],h2=>simp [LR] at h2
omit [GlobC A0 P] in
theorem jt (h : Rel A0 N w0 ρ σ a w) (fn : Func) {post : Nat -> V -> Prop} (hv : vend P E fn.results.toList post σ) :
  a.defers = [] /\ ∃ v,(results fn a.tmps).run P w = .ok v w /\ ∃ r,Bel A0.G w0.heap.size w0 w /\ VR (fun _=>none) (fun _=>none) (fun g=>(A0.A g \/ w0.heap.size <= g) /\ g < w.heap.size) w r v /\
   rd (fun _=>none) (fun _=>none) r = some r /\ post w0.heap.size r:=by
 obtain ⟨hok,hv⟩:=hv
 obtain ⟨val,hrun,hV⟩:=iw h fn hok
 refine ⟨h.defers,val,hrun,?_⟩
 split at hv
 ·obtain ⟨r,hr,hpost⟩:=hv
  rw [h.hB] at hpost
  refine ⟨r,h.below,VR.mono (fun g hg=>?_) (fun _ _=>rfl) (fun k=>KC.refl k) _ _ (CU h _ _ _ hV hr),yp _ _ hr,hpost⟩
  have:=hg.noBox h
  rw [h.hB] at this
  exact ⟨this.1,this.2.1⟩
 have main : ∃ r,rd (fun k=>(ρ k).map (·.1)) σ.m (oneV (fn.results.toList.map (resV P σ))) = some r /\ post σ.B r:=by
  split at hv
  ·rename_i hk
   obtain ⟨h1,h2⟩:=hv
   rw [ye _ (fun k=>(ρ k).map (·.1)) _ _ hk] at h1
   exact ⟨_,h1,h2⟩
  ·exact hv _ _ h.hs h.gam
 obtain ⟨r,hr,hpost⟩:=main
 rw [h.hB] at hpost
 refine ⟨r,h.below,VR.mono (fun g hg=>?_) (fun _ _=>rfl) (fun k=>KC.refl k) _ _ (CE h _ _ _ hV hr),CF _ _ hr,hpost⟩
 rw [h.hB] at hg
 exact ⟨hg.1,hg.2.1⟩
theorem Hr (h : Rel A0 N w0 ρ σ a w) (i : Nat) : ∀ d ∈ dsV (σ.t i),∃ v',DR (Sof A0 σ.B ρ σ.m w) w d v':=by
 intro d hd
 have hv:=h.tmps i
 generalize σ.t i = x at *
 cases x with
 | d y =>
   simp only [dsV,Qg] at hd
   subst hd
   simp only [VR] at hv
   exact ⟨_,hv⟩
 | agg cs =>
   simp only [dsV,Xz,List.mem_filter] at hd
   obtain ⟨c,⟨hc,hdc⟩,rfl⟩:=hd
   simp only [VR] at hv
   obtain ⟨l,_,hl⟩:=hv
   obtain ⟨n,hn⟩:=List.mem_iff_getElem?.1 hc
   obtain ⟨v,_,hcv⟩:=hl.get n c hn
   cases c with
   | d y=>simp only [VR] at hcv; exact ⟨_,hcv⟩
   | _=>simp [isD] at hdc
 | _=>simp [dsV] at hd
omit [GlobC A0 P] in
theorem nZ (h : Rel A0 N w0 ρ σ a w) (fn : Func) {post : Nat -> V -> List V -> List D -> Prop} {W : List Nat} {bx : Bool} {gb : Nat} (hkey : bx = true -> ρ 1000 = some (gb,0)) (hv : bt P E fn.results.toList post W bx σ) :
  a.defers = [] /\ ∃ v,(results fn a.tmps).run P w = .ok v w /\ ∃ r cs' ws,Bel A0.G w0.heap.size w0 w /\ VR (fun _=>none) (fun _=>none) (fun g=>(A0.A g \/ w0.heap.size <= g) /\ g < w.heap.size /\ ¬ (bx = true /\ g = gb)) w r v /\
   rd (fun _=>none) (fun _=>none) r = some r /\
   (bx = true -> ∃ cur T,w.heap[gb]? = some (.cells cur T (0,0)) /\ LR (fun _=>none) (fun _=>none) (fun g=>(A0.A g \/ w0.heap.size <= g) /\ g < w.heap.size /\ ¬ (bx = true /\ g = gb)) w cs' cur.toList /\ rdL (fun _=>none) (fun _=>none) cs' = some cs') /\
   (∀ d ∈ ws,∃ v',DR (fun g=>(A0.A g \/ w0.heap.size <= g) /\ g < w.heap.size /\ ¬ (bx = true /\ g = gb)) w d v') /\ post w0.heap.size r cs' ws:=by
 obtain ⟨hok,hbx,hv⟩:=hv
 obtain ⟨val,hrun,hV⟩:=iw h fn hok
 refine ⟨h.defers,val,hrun,?_⟩
 have hbox : bx = true -> ∃ cs0,σ.m 1000 = some (.box cs0):=fun hb=>by
  have:=hbx hb
  cases hm : σ.m 1000 with
  | none=>rw [hm] at this; cases this
  | some b =>
    cases b with
    | box cs0=>exact ⟨cs0,rfl⟩
    | row _ _ _=>rw [hm] at this; cases this
 rw [<- h.hB]
 have conv : ∀ g,qF ρ σ.m g -> ¬ (bx = true /\ g = gb):=fun g hg hh=>by
  obtain ⟨cs0,hcs0⟩:=hbox hh.1
  exact hg 1000 cs0 _ hcs0 (hkey hh.1) hh.2.symm
 split at hv
 ·obtain ⟨r,cs',hr,hcs,hpost⟩:=hv
  refine ⟨r,cs',[],by rw [h.hB]; exact h.below,VR.mono (fun g hg=>by have:=hg.noBox h; exact ⟨this.1,this.2.1,conv g this.2.2⟩) (fun _ _=>rfl) (fun k=>KC.refl k) _ _ (CU h _ _ _ hV hr),yp _ _ hr,fun hb=>?_,(by simp),hpost⟩
  obtain ⟨cs0,hcs0⟩:=hbox hb
  have hmem:=h.mem 1000 _ hcs0
  obtain ⟨g,cap,hρ,_,cur,T,hcur,hl⟩:=hmem
  rw [hkey hb] at hρ
  cases hρ
  simp only [hb,if_true,hcs0,getC] at hcs
  rcases hcs with hcs | ⟨rfl,hcs⟩
  ·exact ⟨cur,T,hcur,LR.mono (fun g hg=>by have:=hg.noBox h; exact ⟨this.1,this.2.1,conv g this.2.2⟩) (fun _ _=>rfl) (fun k=>KC.refl k) _ _ (iD h _ _ _ hl hcs),pZ _ _ hcs⟩
  ·exact ⟨cur,T,hcur,LR.mono (fun g hg=>⟨hg.1,hg.2.1,conv g fun k cs p hk hp=>hg.2.2 k _ hk p hp⟩) (fun _ _=>rfl) (fun k=>KC.refl k) _ _ (LR.zf _ _ hcs hl),jW _ _ hcs⟩
 obtain ⟨is,hv⟩:=hv
 obtain ⟨r,cs',hr,hcs,hpost⟩:=hv _ _ h.hs h.gam
 refine ⟨r,cs',_,by rw [h.hB]; exact h.below,VR.mono (fun g hg=>⟨hg.1,hg.2.1,conv g hg.2.2⟩) (fun _ _=>rfl) (fun k=>KC.refl k) _ _ (CE h _ _ _ hV hr),CF _ _ hr,fun hb=>?_,fun d hd=>?_,hpost⟩
 ·obtain ⟨cs0,hcs0⟩:=hbox hb
  have hmem:=h.mem 1000 _ hcs0
  obtain ⟨g,cap,hρ,_,cur,T,hcur,hl⟩:=hmem
  rw [hkey hb] at hρ
  cases hρ
  simp only [hb,if_true,hcs0,getC] at hcs
  exact ⟨cur,T,hcur,LR.mono (fun g hg=>⟨hg.1,hg.2.1,conv g hg.2.2⟩) (fun _ _=>rfl) (fun k=>KC.refl k) _ _ (pU h _ _ _ hl hcs),jW _ _ hcs⟩
 ·simp only [List.mem_flatMap] at hd
  obtain ⟨i,_,hd⟩:=hd
  obtain ⟨v',hv'⟩:=Hr h i d hd
  exact ⟨v',hv'.mono (fun g hg=>⟨hg.1,hg.2.1,conv g fun k cs p hk hp=>hg.2.2 k _ hk p hp⟩) (fun _ _=>rfl)⟩
theorem VC.of (E : Md) {f : FuncId} {fn : Func} {c : Code} {args : List V} {post : Nat -> V -> Prop} (sch : Nat -> Tr) (hf : P.funcs[f]? = some fn) (h : ∀ B,vwp P E sch c (vret P E fn.results.toList post) (St.start args B))
  (hb : fn.body = some c:=by rfl) (hok : dq E fn.ntmps sch c = true:=by kernel_rfl) (hm : P.follows .mixedOrders = true:=by kernel_rfl) (hname : (fn.name == "runtime.NumGoroutine") = false:=by kernel_rfl) (hn' : Nat.ble args.length fn.ntmps = true:=by kernel_rfl) (hN' : Nat.ble fn.ntmps 1000 = true:=by kernel_rfl) : VC P f args post:=by
 have hn:=Nat.le_of_ble_eq_true hn'
 have hN:=Nat.le_of_ble_eq_true hN'
 refine ⟨⟨fn,hf,by simp [hb],hname⟩,fun w vals A hgl hLR=>?_⟩
 have hlen:=hLR.length
 refine calls_of_wp hf hb ?_
 have h0 : Rel ⟨A,fun _=>False,fun _=>none,gdat P⟩ fn.ntmps w (fun _=>none) (St.start args w.heap.size) { tmps:=vals.toArray ++ Array.replicate (fn.ntmps - vals.toArray.size) undef,defers:=[] } w:=by
  refine ⟨Bel.refl _ _ _,⟨hN,hgl⟩,fun _ _=>rfl,fun _ _=>rfl,by simp [St.start],rfl,Jv _,Jv _,rfl,by simp; omega,fun i=>?_,by simp [St.start],by simp [St.start]⟩
  simp only [St.start]
  by_cases hi : i < args.length
  ·obtain ⟨v,hv,hd⟩:=hLR.get i args[i] (Jw hi)
   have he : ({ tmps:=vals.toArray ++ Array.replicate (fn.ntmps - vals.toArray.size) undef,defers:=[] } : Act).eval (.tmp i) = v:=by
    have hi' : i < vals.length:=by omega
    simp only [Act.eval,Qy]
    rw [Array.getElem?_append_left (by simpa using hi')]
    simpa using by rw [hv]; rfl
   rw [he]
   have hg : args.getD i (.tup []) = args[i]:=by simp [List.getD,Jw hi]
   rw [hg]
   exact VR.mono (fun g hg=>⟨.inl hg.2,hg.1,by simp⟩) (fun _ _=>rfl) (fun k=>KC.refl k) _ _ hd
  ·have hg : args.getD i (.tup []) = .tup []:=by simp [List.getD,List.getElem?_eq_none (Nat.le_of_not_lt hi)]
   rw [hg]
   have he : ({ tmps:=vals.toArray ++ Array.replicate (fn.ntmps - vals.toArray.size) undef,defers:=[] } : Act).eval (.tmp i) = undef:=by
    have hi' : vals.length <= i:=by omega
    simp only [Act.eval,Qy]
    rw [Array.getElem?_append_right (by simpa using hi')]
    cases hx : (Array.replicate (fn.ntmps - vals.toArray.size) undef)[i - vals.toArray.size]? with
    | none=>rfl
    | some y =>
      rw [Array.getElem?_replicate] at hx
      split at hx
      ·cases hx; rfl
      ·cases hx
   rw [he]
   exact ez
 haveI : GlobC ⟨A,fun _=>False,fun _=>none,gdat P⟩ P:=⟨rfl⟩
 refine wp_mono (cV hm sch c _ _ _ _ _ hok h0 (h w.heap.size)) fun e a' w' he=>?_
 obtain ⟨σ',ρ',hR,hK⟩:=he
 cases e with
 | normal =>
   obtain ⟨hd,v,hrun,r,hbel,hV,hfz,hpost⟩:=jt hR fn hK
   exact ⟨hd,v,hrun,v,r,rfl,hbel.below,hV,hfz,hpost⟩
 | ret =>
   obtain ⟨hd,v,hrun,r,hbel,hV,hfz,hpost⟩:=jt hR fn hK
   exact ⟨hd,v,hrun,v,r,rfl,hbel.below,hV,hfz,hpost⟩
 | _=>exact hK.elim
theorem HU (γ : Nat -> Option Nat) (m : Nat -> Option Blk) (l : List D) : rdL γ m (l.map V.d) = some (l.map V.d):=by
 induction l with
 | nil=>rfl
 | cons x r ih=>simp [rdL,rd,ih]
omit [GlobC A0 P] in
theorem nY (h : Rel A0 N w0 ρ σ a w) (fn : Func) {post : Nat -> List D -> Prop} (hG : ∀ g,¬ A0.G g) (hv : DJ P fn.results.toList post σ) :
  a.defers = [] /\ ∃ gb ds,(results fn a.tmps).run P w = .ok (.pointer (some ⟨gb,0,none⟩)) w /\ Bel A0.G w0.heap.size w0 w /\ w0.heap.size <= gb /\ gb < w.heap.size /\
   (∃ cur T,w.heap[gb]? = some (.cells cur T (0,0)) /\ LR (fun _=>none) (fun _=>none) (fun g=>(A0.A g \/ w0.heap.size <= g) /\ g < w.heap.size /\ g ≠ gb) w (ds.map V.d) cur.toList) /\ post w0.heap.size ds:=by
 obtain ⟨hok,k,cs,ds,hp,hk0,hm,hrp,hpost⟩:=hv
 obtain ⟨val,hrun,hV⟩:=iw h fn hok
 rw [hp] at hV
 simp only [VR,hm] at hV
 obtain ⟨_,g,cap,hρ,rfl⟩:=hV
 obtain ⟨g',cap',hρ',hB,cur,T,hcur,hl⟩:=h.mem k _ hm
 rw [hρ] at hρ'
 cases hρ'
 rw [h.hB] at hpost
 refine ⟨h.defers,g,ds,hrun,h.below,?_,(Qh.1 hcur).1,⟨cur,T,hcur,?_⟩,hpost⟩
 ·rcases hB with hB | hB
  ·rw [<- h.hB]; exact hB
  ·exact (hG _ hB.2).elim
 ·have hl' : LR (fun _=>none) (fun _=>none) (SofK A0 ρ σ w (keysVL cs)) w (ds.map V.d) cur.toList:=by
   rcases hrp with hrp | rfl
   ·exact iD h _ _ _ hl hrp
   ·exact LR.mono (fun g hg=>.inl hg) (fun _ _=>rfl) (fun k=>KC.refl k) _ _ (LR.zf (γ:=fun _=>none) _ _ (HU _ _ _) hl)
  refine LR.mono (fun q hq=>?_) (fun _ _=>rfl) (fun k=>KC.refl k) _ _ hl'
  have:=hq.noBox h
  rw [h.hB] at this
  exact ⟨this.1,this.2.1,fun e=>this.2.2 k cs _ hm hρ e.symm⟩
theorem VN.of (E : Md) {f : FuncId} {fn : Func} {c : Code} {args : List V} {post : Nat -> List D -> Prop} (sch : Nat -> Tr) (hf : P.funcs[f]? = some fn) (h : ∀ B,vwp P E sch c (GP P fn.results.toList post) (St.start args B))
  (hb : fn.body = some c:=by rfl) (hok : dq E fn.ntmps sch c = true:=by kernel_rfl) (hm : P.follows .mixedOrders = true:=by kernel_rfl) (hname : (fn.name == "runtime.NumGoroutine") = false:=by kernel_rfl) (hn' : Nat.ble args.length fn.ntmps = true:=by kernel_rfl) (hN' : Nat.ble fn.ntmps 1000 = true:=by kernel_rfl) : VN P f args post:=by
 have hn:=Nat.le_of_ble_eq_true hn'
 have hN:=Nat.le_of_ble_eq_true hN'
 refine ⟨⟨fn,hf,by simp [hb],hname⟩,fun w vals A hgl hLR=>?_⟩
 have hlen:=hLR.length
 refine calls_of_wp hf hb ?_
 have h0 : Rel ⟨A,fun _=>False,fun _=>none,gdat P⟩ fn.ntmps w (fun _=>none) (St.start args w.heap.size) { tmps:=vals.toArray ++ Array.replicate (fn.ntmps - vals.toArray.size) undef,defers:=[] } w:=by
  refine ⟨Bel.refl _ _ _,⟨hN,hgl⟩,fun _ _=>rfl,fun _ _=>rfl,by simp [St.start],rfl,Jv _,Jv _,rfl,by simp; omega,fun i=>?_,by simp [St.start],by simp [St.start]⟩
  simp only [St.start]
  by_cases hi : i < args.length
  ·obtain ⟨v,hv,hd⟩:=hLR.get i args[i] (Jw hi)
   have he : ({ tmps:=vals.toArray ++ Array.replicate (fn.ntmps - vals.toArray.size) undef,defers:=[] } : Act).eval (.tmp i) = v:=by
    have hi' : i < vals.length:=by omega
    simp only [Act.eval,Qy]
    rw [Array.getElem?_append_left (by simpa using hi')]
    simpa using by rw [hv]; rfl
   rw [he]
   have hg : args.getD i (.tup []) = args[i]:=by simp [List.getD,Jw hi]
   rw [hg]
   exact VR.mono (fun g hg=>⟨.inl hg.2,hg.1,by simp⟩) (fun _ _=>rfl) (fun k=>KC.refl k) _ _ hd
  ·have hg : args.getD i (.tup []) = .tup []:=by simp [List.getD,List.getElem?_eq_none (Nat.le_of_not_lt hi)]
   rw [hg]
   have he : ({ tmps:=vals.toArray ++ Array.replicate (fn.ntmps - vals.toArray.size) undef,defers:=[] } : Act).eval (.tmp i) = undef:=by
    have hi' : vals.length <= i:=by omega
    simp only [Act.eval,Qy]
    rw [Array.getElem?_append_right (by simpa using hi')]
    cases hx : (Array.replicate (fn.ntmps - vals.toArray.size) undef)[i - vals.toArray.size]? with
    | none=>rfl
    | some y =>
      rw [Array.getElem?_replicate] at hx
      split at hx
      ·cases hx; rfl
      ·cases hx
   rw [he]
   exact ez
 haveI : GlobC ⟨A,fun _=>False,fun _=>none,gdat P⟩ P:=⟨rfl⟩
 refine wp_mono (cV hm sch c _ _ _ _ _ hok h0 (h w.heap.size)) fun e a' w' he=>?_
 obtain ⟨σ',ρ',hR,hK⟩:=he
 cases e with
 | normal =>
   obtain ⟨hd,gb,ds,hrun,hbel,h1,h2,h3,hpost⟩:=nY hR fn (fun _ h=>h) hK
   exact ⟨hd,_,hrun,gb,ds,rfl,hbel.below,h1,h2,h3,hpost⟩
 | ret =>
   obtain ⟨hd,gb,ds,hrun,hbel,h1,h2,h3,hpost⟩:=nY hR fn (fun _ h=>h) hK
   exact ⟨hd,_,hrun,gb,ds,rfl,hbel.below,h1,h2,h3,hpost⟩
 | _=>exact hK.elim
theorem VC.ofB (E : Md) {f : FuncId} {fn : Func} {c : Code} {args : List V} {post : Nat -> V -> Prop} (sch : Nat -> Tr) (hf : P.funcs[f]? = some fn) (h : ∀ B,(∀ g ∈ idsVL args,g < B) -> vwp P E sch c (vret P E fn.results.toList post) (St.start args B))
  (hb : fn.body = some c:=by rfl) (hok : dq E fn.ntmps sch c = true:=by kernel_rfl) (hm : P.follows .mixedOrders = true:=by kernel_rfl) (hname : (fn.name == "runtime.NumGoroutine") = false:=by kernel_rfl) (hn' : Nat.ble args.length fn.ntmps = true:=by kernel_rfl) (hN' : Nat.ble fn.ntmps 1000 = true:=by kernel_rfl) : VC P f args post:=by
 have hn:=Nat.le_of_ble_eq_true hn'
 have hN:=Nat.le_of_ble_eq_true hN'
 refine ⟨⟨fn,hf,by simp [hb],hname⟩,fun w vals A hgl hLR=>?_⟩
 have hlen:=hLR.length
 refine calls_of_wp hf hb ?_
 have h0 : Rel ⟨A,fun _=>False,fun _=>none,gdat P⟩ fn.ntmps w (fun _=>none) (St.start args w.heap.size) { tmps:=vals.toArray ++ Array.replicate (fn.ntmps - vals.toArray.size) undef,defers:=[] } w:=by
  refine ⟨Bel.refl _ _ _,⟨hN,hgl⟩,fun _ _=>rfl,fun _ _=>rfl,by simp [St.start],rfl,Jv _,Jv _,rfl,by simp; omega,fun i=>?_,by simp [St.start],by simp [St.start]⟩
  simp only [St.start]
  by_cases hi : i < args.length
  ·obtain ⟨v,hv,hd⟩:=hLR.get i args[i] (Jw hi)
   have he : ({ tmps:=vals.toArray ++ Array.replicate (fn.ntmps - vals.toArray.size) undef,defers:=[] } : Act).eval (.tmp i) = v:=by
    have hi' : i < vals.length:=by omega
    simp only [Act.eval,Qy]
    rw [Array.getElem?_append_left (by simpa using hi')]
    simpa using by rw [hv]; rfl
   rw [he]
   have hg : args.getD i (.tup []) = args[i]:=by simp [List.getD,Jw hi]
   rw [hg]
   exact VR.mono (fun g hg=>⟨.inl hg.2,hg.1,by simp⟩) (fun _ _=>rfl) (fun k=>KC.refl k) _ _ hd
  ·have hg : args.getD i (.tup []) = .tup []:=by simp [List.getD,List.getElem?_eq_none (Nat.le_of_not_lt hi)]
   rw [hg]
   have he : ({ tmps:=vals.toArray ++ Array.replicate (fn.ntmps - vals.toArray.size) undef,defers:=[] } : Act).eval (.tmp i) = undef:=by
    have hi' : vals.length <= i:=by omega
    simp only [Act.eval,Qy]
    rw [Array.getElem?_append_right (by simpa using hi')]
    cases hx : (Array.replicate (fn.ntmps - vals.toArray.size) undef)[i - vals.toArray.size]? with
    | none=>rfl
    | some y =>
      rw [Array.getElem?_replicate] at hx
      split at hx
      ·cases hx; rfl
      ·cases hx
   rw [he]
   exact ez
 haveI : GlobC ⟨A,fun _=>False,fun _=>none,gdat P⟩ P:=⟨rfl⟩
 refine wp_mono (cV hm sch c _ _ _ _ _ hok h0 (h w.heap.size fun g hg=>(LR.ids_ _ _ hLR g hg).1)) fun e a' w' he=>?_
 obtain ⟨σ',ρ',hR,hK⟩:=he
 cases e with
 | normal =>
   obtain ⟨hd,v,hrun,r,hbel,hV,hfz,hpost⟩:=jt hR fn hK
   exact ⟨hd,v,hrun,v,r,rfl,hbel.below,hV,hfz,hpost⟩
 | ret =>
   obtain ⟨hd,v,hrun,r,hbel,hV,hfz,hpost⟩:=jt hR fn hK
   exact ⟨hd,v,hrun,v,r,rfl,hbel.below,hV,hfz,hpost⟩
 | _=>exact hK.elim
theorem VC.ofL (E : Md) {f : FuncId} {fn : Func} {c : Code} {args : List V} {post : Nat -> V -> Prop} (sch : Nat -> Tr) (hf : P.funcs[f]? = some fn) (h : ∀ B,lnVL args -> vwp P E sch c (vret P E fn.results.toList post) (St.start args B))
  (hb : fn.body = some c:=by rfl) (hok : dq E fn.ntmps sch c = true:=by kernel_rfl) (hm : P.follows .mixedOrders = true:=by kernel_rfl) (hname : (fn.name == "runtime.NumGoroutine") = false:=by kernel_rfl) (hn' : Nat.ble args.length fn.ntmps = true:=by kernel_rfl) (hN' : Nat.ble fn.ntmps 1000 = true:=by kernel_rfl) : VC P f args post:=by
 have hn:=Nat.le_of_ble_eq_true hn'
 have hN:=Nat.le_of_ble_eq_true hN'
 by_cases hln : lnVL args
 ·exact VC.of E sch hf (fun B=>h B hln) hb hok hm hname hn' hN'
 ·exact ⟨⟨fn,hf,by simp [hb],hname⟩,fun w vals A _ hLR=>absurd (LR.ln _ _ hLR) hln⟩
theorem VX.of (E : Md) {f : FuncId} {fn : Func} {c : Code} {W : List Nat} {args : List V} {bx : Option (List V)} {post : Nat -> V -> List V -> List D -> Prop} (sch : Nat -> Tr) (hf : P.funcs[f]? = some fn) (hW : ∀ g ∈ W,g ∈ idsVL args \/ g ∈ idsVL (bx.getD []))
  (hbd : ∀ cs,bx = some cs -> rdL (fun _=>none) (fun _=>none) cs = some cs)
  (h : ∀ B,(∀ g,g ∈ idsVL args \/ g ∈ idsVL (bx.getD []) -> g < B) -> vwp P E sch c (vo P E fn.results.toList post W bx.isSome) (St.startX args W bx B))
  (hb : fn.body = some c:=by rfl) (hok : dq E fn.ntmps sch c = true:=by kernel_rfl) (hm : P.follows .mixedOrders = true:=by kernel_rfl) (hname : (fn.name == "runtime.NumGoroutine") = false:=by kernel_rfl) (hn' : Nat.ble args.length fn.ntmps = true:=by kernel_rfl) (hN' : Nat.ble fn.ntmps 1000 = true:=by kernel_rfl) : VX P f W args bx post:=by
 have hn:=Nat.le_of_ble_eq_true hn'
 have hN:=Nat.le_of_ble_eq_true hN'
 refine ⟨⟨fn,hf,by simp [hb],hname⟩,hW,fun w vals gb A1 hgl hLR hbx=>?_⟩
 have hlen:=hLR.length
 refine calls_of_wp hf hb ?_
 let A : Nat -> Prop:=fun g=>A1 g /\ ¬ (bx.isSome = true /\ g = gb)
 let G : Nat -> Prop:=fun g=>g ∈ W \/ (bx.isSome = true /\ g = gb)
 have hSof : ∀ g,(g < w.heap.size /\ A1 g /\ ¬ (bx.isSome = true /\ g = gb)) ->
   Sof ⟨A,G,fun k=>if k = 1000 then some (gb,0) else none,gdat P⟩ w.heap.size (fun k=>if k = 1000 then some (gb,0) else none) (fun k=>if k = 1000 then bx.map .box else none) w g:=by
  intro g hg
  refine ⟨.inl hg.2,hg.1,fun k b hk p hp heq=>?_⟩
  by_cases h1 : k = 1000
  ·simp only [h1,if_true,Jx] at hk hp
   subst hp
   cases hbx1 : bx with
   | none=>rw [hbx1] at hk; cases hk
   | some cs=>exact hg.2.2 ⟨by rw [hbx1]; rfl,heq.symm⟩
  ·simp [h1] at hk
 have h0 : Rel ⟨A,G,fun k=>if k = 1000 then some (gb,0) else none,gdat P⟩ fn.ntmps w (fun k=>if k = 1000 then some (gb,0) else none) (St.startX args W bx w.heap.size) { tmps:=vals.toArray ++ Array.replicate (fn.ntmps - vals.toArray.size) undef,defers:=[] } w:=by
  refine ⟨Bel.refl _ _ _,⟨hN,hgl⟩,fun _ _=>rfl,fun kk _=>?_,fun g hg=>.inl hg,rfl,Jv _,Jv _,rfl,by simp; omega,fun i=>?_,fun k b hk=>?_,fun k k' b b' p p' hk hk' _ _ _=>?_⟩
  ·simp only [St.startX]
   by_cases e : kk = 1000
   ·rw [if_pos e]; cases bx <;> rfl
   ·rw [if_neg e]; rfl
  ·simp only [St.startX]
   by_cases hi : i < args.length
   ·obtain ⟨v,hv,hd⟩:=hLR.get i args[i] (Jw hi)
    have he : ({ tmps:=vals.toArray ++ Array.replicate (fn.ntmps - vals.toArray.size) undef,defers:=[] } : Act).eval (.tmp i) = v:=by
     have hi' : i < vals.length:=by omega
     simp only [Act.eval,Qy]
     rw [Array.getElem?_append_left (by simpa using hi')]
     simpa using by rw [hv]; rfl
    rw [he]
    have hg : args.getD i (.tup []) = args[i]:=by simp [List.getD,Jw hi]
    rw [hg]
    exact VR.mono hSof (fun _ _=>rfl) (fun k=>KC.refl k) _ _ hd
   ·have hg : args.getD i (.tup []) = .tup []:=by simp [List.getD,List.getElem?_eq_none (Nat.le_of_not_lt hi)]
    rw [hg]
    have he : ({ tmps:=vals.toArray ++ Array.replicate (fn.ntmps - vals.toArray.size) undef,defers:=[] } : Act).eval (.tmp i) = undef:=by
     have hi' : vals.length <= i:=by omega
     simp only [Act.eval,Qy]
     rw [Array.getElem?_append_right (by simpa using hi')]
     cases hx : (Array.replicate (fn.ntmps - vals.toArray.size) undef)[i - vals.toArray.size]? with
     | none=>rfl
     | some y =>
       rw [Array.getElem?_replicate] at hx
       split at hx
       ·cases hx; rfl
       ·cases hx
    rw [he]
    exact ez
  ·by_cases h1 : k = 1000
   ·subst h1
    simp only [St.startX,if_true] at hk
    cases hbx1 : bx with
    | none=>rw [hbx1] at hk; cases hk
    | some cs =>
      rw [hbx1] at hk
      cases hk
      obtain ⟨cur,T,hcur,hl⟩:=hbx cs hbx1
      refine ⟨gb,0,by simp,.inr ⟨by decide,.inr ⟨by rw [hbx1]; rfl,rfl⟩⟩,cur,T,hcur,?_⟩
      exact LR.fz _ _ (hbd cs hbx1) hl fun g hg _=>by
       have:=hSof g hg
       simp only [St.startX,hbx1] at this ⊢
       exact this
   ·simp [St.startX,h1] at hk
  ·have h1 : k = 1000:=Xv fun hne=>by simp [St.startX,hne] at hk
   have h2 : k' = 1000:=Xv fun hne=>by simp [St.startX,hne] at hk'
   rw [h1,h2]
 have hlt : ∀ g,g ∈ idsVL args \/ g ∈ idsVL (bx.getD []) -> g < w.heap.size:=by
  rintro g (hg | hg)
  ·exact (LR.ids_ _ _ hLR g hg).1
  ·cases hbx1 : bx with
   | none=>rw [hbx1] at hg; simp [idsVL] at hg
   | some cs =>
     obtain ⟨cur,T,hcur,hl⟩:=hbx cs hbx1
     rw [hbx1] at hg
     exact (LR.ids_ _ _ hl g hg).1
 haveI : GlobC ⟨A,G,fun k=>if k = 1000 then some (gb,0) else none,gdat P⟩ P:=⟨rfl⟩
 refine wp_mono (cV hm sch c _ _ _ _ _ hok h0 (h w.heap.size hlt)) fun e a' w' he=>?_
 obtain ⟨σ',ρ',hR,hK⟩:=he
 cases e with
 | normal =>
   obtain ⟨hd,v,hrun,r,cs',ws,hbel,hV,hfz,hbb,hws,hpost⟩:=nZ (W:=W) (gb:=gb) hR fn (fun _=>by simpa using hR.key 1000 ⟨Jv _,by decide⟩) hK
   have cv : ∀ g,((A g \/ w.heap.size <= g) /\ g < w'.heap.size /\ ¬ (bx.isSome = true /\ g = gb)) -> ((A1 g \/ w.heap.size <= g) /\ g < w'.heap.size /\ ¬ (bx.isSome = true /\ g = gb)):=fun g hg=>⟨by
    rcases hg.1 with ⟨h1,_⟩ | h1
    ·exact .inl h1
    ·exact .inr h1,hg.2⟩
   exact ⟨hd,v,hrun,v,r,cs',ws,rfl,hbel,VR.mono cv (fun _ _=>rfl) (fun k=>KC.refl k) _ _ hV,hfz,fun hb=>by
    obtain ⟨cur,T,h1,h2,h3⟩:=hbb hb
    exact ⟨cur,T,h1,LR.mono cv (fun _ _=>rfl) (fun k=>KC.refl k) _ _ h2,h3⟩,fun d hd=>by obtain ⟨v',hv'⟩:=hws d hd; exact ⟨v',hv'.mono cv (fun _ _=>rfl)⟩,hpost⟩
 | ret =>
   obtain ⟨hd,v,hrun,r,cs',ws,hbel,hV,hfz,hbb,hws,hpost⟩:=nZ (W:=W) (gb:=gb) hR fn (fun _=>by simpa using hR.key 1000 ⟨Jv _,by decide⟩) hK
   have cv : ∀ g,((A g \/ w.heap.size <= g) /\ g < w'.heap.size /\ ¬ (bx.isSome = true /\ g = gb)) -> ((A1 g \/ w.heap.size <= g) /\ g < w'.heap.size /\ ¬ (bx.isSome = true /\ g = gb)):=fun g hg=>⟨by
    rcases hg.1 with ⟨h1,_⟩ | h1
    ·exact .inl h1
    ·exact .inr h1,hg.2⟩
   exact ⟨hd,v,hrun,v,r,cs',ws,rfl,hbel,VR.mono cv (fun _ _=>rfl) (fun k=>KC.refl k) _ _ hV,hfz,fun hb=>by
    obtain ⟨cur,T,h1,h2,h3⟩:=hbb hb
    exact ⟨cur,T,h1,LR.mono cv (fun _ _=>rfl) (fun k=>KC.refl k) _ _ h2,h3⟩,fun d hd=>by obtain ⟨v',hv'⟩:=hws d hd; exact ⟨v',hv'.mono cv (fun _ _=>rfl)⟩,hpost⟩
 | _=>exact hK.elim
end
end
section
variable {P : Program} {E : Md} {ops : Array Oper} {K : St -> Prop} {r : List Oper} {σ : St} {dst : Option Tmp} {k d : Tmp} {ty : TypeId} {pos : String} {af : Array Edge} {sch : Nat -> Tr} {Q : Exit -> St -> Prop}
def lK (ops : Array Oper) (σ : St) (j : Nat) : V:=match (ops[j]?).bind (·.dst) with | some d=>σ.t d | none=>.bad
def nx (g : V) (want : Bool) (X Y : Prop) : Prop:=
 match g with
 | .d (.bool b)=>(b = want -> X) /\ ((!(b == want)) = true -> Y)
 | .tup []=>Y
 | _=>False
theorem Ai {op : Op} {g : Option (Nat × Bool)} : vop P E ⟨dst,op,ty,pos,af,g⟩ K σ = vop P E ⟨dst,op,ty,pos,af,none⟩ K σ:=by
 cases op <;> rfl
theorem FZ {op : Op} (j : Nat) (want : Bool) : vops P E ops K (⟨dst,op,ty,pos,af,some (j,want)⟩ :: r) σ =
  nx (lK ops σ j) want (vops P E ops K (⟨dst,op,ty,pos,af,none⟩ :: r) σ) (vops P E ops K r (σ.put dst (.tup []))):=by
 simp only [vops,nx,lK]
 rw [Ai]
 cases h : (ops[j]?).bind (·.dst) with
 | none=>rfl
 | some d =>
   simp only
   split <;> simp_all
theorem GQ (T n : Nat) (parts : Array (Nat × Operand)) (hk : keysVL (allC (parts.toList.map fun p=>σ.ev p.2)) = []) : vops P E ops K (⟨some k,.buildSlice T n parts,ty,pos,af,none⟩ :: r) σ =
  (((tslice P T).isSome = true /\ n * (slT P T).2.1 <= 16777216 /\ parts.size = n /\ fu σ (slT P T).2.1 0 parts.toList /\ (allC (parts.toList.map fun p=>σ.ev p.2)).all isD = true) /\
   vops P E ops K r ((σ.lay k (.row (slT P T).1 (slT P T).2.1 (iM (slT P T).2.1 n ((allC (parts.toList.map fun p=>σ.ev p.2)).map dD)))).put (some k) (.own k 0 n))):=by
 simp only [vops,vop,hk]
 simp [vpre,vnext,veff,aJ]
theorem vp (T n k' : Nat) (ks : List Nat) (parts : Array (Nat × Operand)) (hE : E.p = false) (hk : keysVL (allC (parts.toList.map fun p=>σ.ev p.2)) = k' :: ks) : vops P E ops K (⟨some k,.buildSlice T n parts,ty,pos,af,none⟩ :: r) σ =
  ∀ γ hs',σ.hs <= hs' -> Gam σ γ hs' -> vpre P ⟨some k,.buildSlice T n parts,ty,pos,af,none⟩ ({ σ with hs:=hs' }.frzs γ (k' :: ks)) /\ vops P E ops K r (vnext P ⟨some k,.buildSlice T n parts,ty,pos,af,none⟩ ({ σ with hs:=hs' }.frzs γ (k' :: ks))):=by
 simp [vops,vop,hk,hE]
theorem KI (T n : Nat) (parts : Array (Nat × Operand)) (hE : E.p = true) : vops P E ops K (⟨some k,.buildSlice T n parts,ty,pos,af,none⟩ :: r) σ =
  (((tslice P T).isSome = true /\ n * (slT P T).2.1 <= 16777216 /\ parts.size = n /\ fu (σ.frps (keysVL (allC (parts.toList.map fun p=>σ.ev p.2)))) (slT P T).2.1 0 parts.toList /\ (allC (parts.toList.map fun p=>(σ.frps (keysVL (allC (parts.toList.map fun p=>σ.ev p.2)))).ev p.2)).all isD = true) /\
   vops P E ops K r (((σ.frps (keysVL (allC (parts.toList.map fun p=>σ.ev p.2)))).lay k (.row (slT P T).1 (slT P T).2.1 (iM (slT P T).2.1 n ((allC (parts.toList.map fun p=>(σ.frps (keysVL (allC (parts.toList.map fun p=>σ.ev p.2)))).ev p.2)).map dD)))).put (some k) (.own k 0 n))):=by
 cases hk : keysVL (allC (parts.toList.map fun p=>σ.ev p.2)) with
 | nil =>
   rw [GQ T n parts hk]
   rfl
 | cons k' ks =>
   simp [vops,vop,hk,hE,vpre,vnext,veff,aJ]
theorem vu (T : Nat) (l c : Operand) : vops P E ops K (⟨some k,.makeSlice T l c,ty,pos,af,none⟩ :: r) σ =
  (((tslice P T).isSome = true ∧ (tzero P (slT P T).1).isSome = true ∧ kOf (σ.ev l) = some .i64 ∧ kOf (σ.ev c) = some .i64 ∧ getZ (σ.ev c) = getZ (σ.ev l) ∧ 0 ≤ getZ (σ.ev l) ∧ LenOk (slT P T).2.2 (getZ (σ.ev l)).toNat) ∧
    vops P E ops K r ((σ.lay k (.row (slT P T).1 (slT P T).2.1 (List.replicate (getZ (σ.ev l)).toNat (zrT P (slT P T).1)))).put (some k) (.own k 0 (getZ (σ.ev l)).toNat))):=by
 simp [vops,vop,vpre,vnext,veff,aJ]
theorem DL (s x : Operand) (t : TypeId) (hE : E.a = false) : vops P E ops K (⟨some k,.call ⟨.builtin .append,#[s,x],#[t,t]⟩,ty,pos,af,none⟩ :: r) σ =
  (Ax P t σ (σ.ev s) (σ.ev x) /\ vops P E ops K r (qI P t σ (some k) (σ.ev s) (σ.ev x))):=by
 have e0 : #[s,x].getD 0 default = s:=rfl
 have e1 : #[s,x].getD 1 default = x:=rfl
 have e2 : #[t,t].getD 0 0 = t:=rfl
 have e3 : #[t,t].getD 1 0 = t:=rfl
 simp [vops,vop,hE,vpre,vnext,veff,aJ]
theorem Aj (s x : Operand) (t : TypeId) (hE : E.a = true) {g : Nat} {es : List (List D)} (hs : σ.ev s = .d (.sl (some g) (some ((slT P t).1,(slT P t).2.1)) es))
  (h1 : (tslice P t).isSome = true /\ elOk σ.m (σ.ev x) /\ (∀ l ∈ elV σ.m (σ.ev x),l.length = (slT P t).2.1) /\ σ.B <= g /\ g ∉ idsLL (elV σ.m (σ.ev x)) /\ g ∉ idsLL es /\ LenOk (slT P t).2.2 (es.length + (elV σ.m (σ.ev x)).length) /\ hpLL (elV σ.m (σ.ev x)) = false /\ 0 < (elV σ.m (σ.ev x)).length)
  (h2 : ∀ g' hs',σ.hs <= hs' -> (g' = g \/ σ.hs <= g') -> g' < hs' -> vops P E ops K r ({ σ.re (one g (.sl (some g) (some ((slT P t).1,(slT P t).2.1)) es)) with hs:=hs' }.put (some k) (.d (.sl (some g') (some ((slT P t).1,(slT P t).2.1)) (es ++ elV σ.m (σ.ev x)))))) :
  vops P E ops K (⟨some k,.call ⟨.builtin .append,#[s,x],#[t,t]⟩,ty,pos,af,none⟩ :: r) σ:=by
 simp only [vops,vop,hE,if_true]
 obtain ⟨a1,a2,a3,a4,a5,a6,a7,a8,a9⟩:=h1
 exact ⟨s,x,t,k,g,es,rfl,rfl,rfl,a1,a2,a3,hs,a4,a5,a6,a7,a8,a9,h2⟩
theorem F4 (T : Nat) (x : Operand) (lo hi : Option Operand) : vops P E ops K (⟨dst,.slice T x lo hi none,ty,pos,af,none⟩ :: r) σ =
  ((tstr P T = some (isStr (σ.ev x)) ∧ lnOk (σ.ev x) = true ∧ bdOk σ lo ∧ bdOk σ hi ∧ loB σ lo ≤ hiB σ (σ.ev x) hi ∧ hiB σ (σ.ev x) hi ≤ lnV (σ.ev x) ∧ cutOk P T σ.m (σ.ev x)) ∧
    vops P E ops K r (σ.put dst (cutV (σ.ev x) (loB σ lo) (hiB σ (σ.ev x) hi)))):=by
 simp [vops,vop,vpre,vnext,vval,aJ]
theorem Al (s t : Nat) (x : Operand) : vops P E ops K (⟨dst,.convert s t x,ty,pos,af,none⟩ :: r) σ = (sd P s t σ (σ.ev x) /\ vops P E ops K r (σ.put dst (xm P t σ (σ.ev x)))):=by
 simp [vops,vop,vpre,vnext,vval,aJ]
theorem Am (x : Operand) (i : Nat) : vops P E ops K (⟨dst,.extract x i,ty,pos,af,none⟩ :: r) σ = (yH (σ.ev x) i /\ vops P E ops K r (σ.put dst (yG (σ.ev x) i))):=by
 simp [vops,vop,vpre,vnext,vval,aJ]
theorem KK (x y : Operand) (tys : Array TypeId) : vops P E ops K (⟨dst,.call ⟨.builtin .max,#[x,y],tys⟩,ty,pos,af,none⟩ :: r) σ =
  ((kOf (σ.ev x) = some .i64 /\ kOf (σ.ev y) = some .i64) /\ vops P E ops K r (σ.put dst (.d (.int .i64 (if getZ (σ.ev y) > getZ (σ.ev x) then getZ (σ.ev y) else getZ (σ.ev x)))))):=by
 simp [vops,vop,vpre,vnext,vval,aJ]
theorem KM (x y : Operand) (tys : Array TypeId) : vops P E ops K (⟨dst,.call ⟨.builtin .min,#[x,y],tys⟩,ty,pos,af,none⟩ :: r) σ =
  ((kOf (σ.ev x) = some .i64 /\ kOf (σ.ev y) = some .i64) /\ vops P E ops K r (σ.put dst (.d (.int .i64 (if getZ (σ.ev y) < getZ (σ.ev x) then getZ (σ.ev y) else getZ (σ.ev x)))))):=by
 simp [vops,vop,vpre,vnext,vval,aJ]
theorem DO (T : TypeId) (a x : Operand) : vops P E ops K (⟨dst,.store T a x,ty,pos,af,none⟩ :: r) σ = (stOk P T σ (σ.ev a) (σ.ev x) /\ vops P E ops K r (stSt σ dst (σ.ev a) (σ.ev x))):=by
 simp [vops,vop,vpre,vnext,veff,aJ]
variable {B hs : Nat} {W : List Nat} {t : Nat -> V} {m : Nat -> Option Blk}
theorem KS (v : V) : (St.mk B hs W t m).put (some d) v = St.mk B hs W (upd t d v) m:=rfl
theorem KQ (b : Blk) : (St.mk B hs W t m).lay k b = St.mk B hs W (mapV (wipe k) t) (upd (mapM (wipe k) m) k (some (b.map (wipe k)))):=rfl
theorem IW (f : V -> V) (v : V) : mapV f (upd t d v) = upd (mapV f t) d (f v):=by
 funext i; simp only [mapV,upd]; split <;> rfl
theorem IV (f : V -> V) (b : Option Blk) : mapM f (upd m d b) = upd (mapM f m) d (b.map (Blk.map f)):=by
 funext i; simp only [mapM,upd]; split <;> rfl
theorem F7 (f : V -> V) : mapM f (fun _=>none) = fun _=>none:=rfl
end
end Go.Vs
