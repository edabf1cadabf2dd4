/-
  A part of a proof of this seat: a value-level semantics of Go code without maps, walks, plain lemmas. It holds of all that its hypotheses name.
-/
import Derived.Test.YtgjfmjiildjelaaGreatDoorDJ1A3
set_option linter.unusedSimpArgs false
set_option linter.unusedVariables false
set_option linter.unnecessarySimpa false
namespace Go.Vs
def cutA (c : UInt8) (acc : List UInt8) : List UInt8 -> List (List UInt8)
 | []=>[acc]
 | x :: r=>if x = c then acc :: cutA c [] r else cutA c (acc ++ [x]) r
def cutB (c : UInt8) (s : List UInt8) : List (List UInt8):=cutA c [] s
theorem jK (c : UInt8) : ∀ (s acc : List UInt8),(cutA c acc s).length <= s.length + 1 /\ cutA c acc s ≠ []
 | [],acc=>by simp [cutA]
 | x :: r, acc => by
   rw [cutA]
   split
   ·have:=jK c r []; simp; exact this.1
   ·have:=jK c r (acc ++ [x]); simp only [Qv]; exact ⟨by omega,this.2⟩
theorem AU (c : UInt8) (s : List UInt8) : (cutB c s).length <= s.length + 1:=(jK c s []).1
theorem o9 (c : UInt8) : ∀ (s acc : List UInt8),((cutA c acc s).map List.length).sum <= acc.length + s.length
 | [],acc=>by simp [cutA]
 | x :: r, acc => by
   rw [cutA]
   split
   ·have:=o9 c r []; simp only [Qz,List.sum_cons,Qv,List.length_nil] at this ⊢; omega
   ·have:=o9 c r (acc ++ [x]); simp only [Qw,Qv,List.length_nil] at this ⊢; omega
theorem yC : ∀ {l : List Nat} {x : Nat},x ∈ l -> x <= l.sum
 | a :: r, x, h => by
   simp only [List.sum_cons]
   rcases Zz.1 h with rfl | h
   ·omega
   ·have:=yC h; omega
theorem jL {c : UInt8} {s x : List UInt8} (h : x ∈ cutB c s) : x.length <= s.length:=by
 have h1:=o9 c s []
 have h2 : x.length <= ((cutB c s).map List.length).sum:=yC (Xz.2 ⟨x,h,rfl⟩)
 simp only [cutB,List.length_nil] at h1 h2; omega
structure CutI (c : UInt8) (s : List UInt8) (p : Nat × Nat × List (List UInt8)) : Prop where
 fr : p.1 <= p.2.1
 le : p.2.1 <= s.length
 eq : cutB c s = p.2.2 ++ cutA c ((s.drop p.1).take (p.2.1 - p.1)) (s.drop p.2.1)
 len : p.2.2.length <= p.2.1
theorem CutI.zero {c : UInt8} {s : List UInt8} : CutI c s (0,0,[]):=⟨by simp,by simp,by simp [cutB],by simp⟩
theorem CutI.hit {c : UInt8} {s : List UInt8} {f i : Nat} {out : List (List UInt8)} (h : CutI c s (f,i,out)) (hi : i < s.length) (e : s[i] = c) : CutI c s (i + 1,i + 1,out ++ [(s.drop f).take (i - f)]):=by
 refine ⟨Jv _,hi,?_,?_⟩
 ·have:=h.eq
  simp only at this ⊢
  rw [this,List.drop_eq_getElem_cons hi,cutA,if_pos e]
  simp
 ·have:=h.len; simp only [Qw,List.length_singleton] at this ⊢; omega
theorem CutI.miss {c : UInt8} {s : List UInt8} {f i : Nat} {out : List (List UInt8)} (h : CutI c s (f,i,out)) (hi : i < s.length) (e : s[i] ≠ c) : CutI c s (f,i + 1,out):=by
 have hf:=h.fr
 simp only at hf
 refine ⟨by simp only; omega,hi,?_,?_⟩
 ·have:=h.eq
  simp only at this ⊢
  rw [this,List.drop_eq_getElem_cons hi,cutA,if_neg e]
  have : (s.drop f).take (i + 1 - f) = (s.drop f).take (i - f) ++ [s[i]]:=by
   rw [show i + 1 - f = (i - f) + 1 by omega,Jz (by rw [List.length_drop]; omega),List.getElem_drop]
   simp only [show f + (i - f) = i by omega]
  rw [this]
 ·have:=h.len; simp only at this ⊢; omega
theorem CutI.done {c : UInt8} {s : List UInt8} {f i : Nat} {out : List (List UInt8)} (h : CutI c s (f,i,out)) (hi : s.length <= i) : out ++ [(s.drop f).take (i - f)] = cutB c s /\ (s.drop f).take (i - f) = s.drop f /\ i = s.length:=by
 have hl:=h.le
 have:=h.eq
 simp only at hl this
 rw [List.drop_of_length_le hi,cutA] at this
 exact ⟨this.symm,Jj (by rw [List.length_drop]; omega),by omega⟩
structure SplT (l A B : List PTab) (nm : List UInt8) (r : bE) : Prop where
 eq : l = A ++ ⟨nm,r⟩ :: B
 lo : ∀ t ∈ A,Op.bytesLess t.name nm = true
 hi : ∀ t ∈ B,Op.bytesLess nm t.name = true
theorem Gt {d : PDb} {nm : List UInt8} (h : lkB d nm = true) : dbOk d = true:=by
 cases hd : dbOk d
 ·rw [(xQ hd).1] at h; cases h
 ·rfl
theorem B5 {d : PDb} {nm : List UInt8} (h : lkB d nm = true) : ∃ A B,SplT d.tabs A B nm (lkR d nm):=by
 have hd:=Gt h
 cases hT : lkT d nm with
 | none=>rw [lkB,hT] at h; cases h
 | some r =>
   have hr : lkR d nm = r:=by rw [lkR,hT]; rfl
   rw [hr]
   rw [lkT,if_pos hd] at hT
   obtain ⟨t,ht,rfl⟩:=Option.map_eq_some_iff.1 hT
   have hn : t.name = nm:=by simpa using List.find?_some ht
   obtain ⟨A,B,hl⟩:=List.append_of_mem (List.mem_of_find?_eq_some ht)
   have hs:=AY (l:=d.tabs) hd
   rw [hl] at hs
   have hp:=List.pairwise_append.1 hs
   refine ⟨A,B,?_,fun u hu=>?_,fun u hu=>?_⟩
   ·rw [hl,<- hn]
   ·rw [<- hn]; exact hp.2.2 u hu t (by simp)
   ·rw [<- hn]; exact (List.pairwise_cons.1 hp.2.1).1 u hu
theorem SplT.tab {l A B : List PTab} {nm : List UInt8} {r : bE} (h : SplT l A B nm r) (hd : dbOk ⟨l⟩ = true) : lp ⟨nm,r⟩ = true:=
 l5 hd (t:=⟨nm,r⟩) (by rw [h.eq]; simp)
def bX (a r : List Int) (v : Int) : Int:=r.getD (idxL a v).toNat 0
def aS (vs : List Int) : List Int:=(aI 5).filter fun v=>vs.contains v
def fitR (vs row : List Int) : Bool:=decide (vs.map (bX vs row) = row)
def valL (vs row : List Int) : List Int:=(vs.zip row).foldl (fun val p=>val.set p.1.toNat p.2) (List.replicate 5 0)
def abL (vs : List Int) (rows : List (List Int)) : List (List Int):=(rows.filter (fitR vs)).map fun row=>bp (aS vs) (valL vs row)
def abR (d : PDb) (a : aH) : List (List Int):=srtU (abL a.vars (lkR d a.rel).rows)
def insI (l : List Int) (n : Int) : List Int:=
 if (l.getD (l.takeWhile fun x=>decide (x < n)).length (n + 1)) = n then l else l.take (l.takeWhile fun x=>decide (x < n)).length ++ n :: l.drop (l.takeWhile fun x=>decide (x < n)).length
def uniL (a b : List Int) : List Int:=b.foldl insI a
def glV (a r b s : List Int) (v : Int) : Bool:=!(a.contains v && b.contains v && !decide (bX a r v = bX b s v))
def glB (u a r b s : List Int) : Bool:=u.all (glV a r b s)
def glR (u a r b s : List Int) : List Int:=u.map fun v=>if a.contains v then bX a r v else bX b s v
def glO (u a r b s : List Int) : Option (List Int):=if glB u a r b s then some (glR u a r b s) else none
def cO (u a : List Int) (rows : List (List Int)) (b : List Int) (list : List (List Int)) : List (List Int):=rows.flatMap fun r=>list.filterMap fun s=>glO u a r b s
def xN (d : PDb) (p : List Int × List (List Int)) (a : aH) : List Int × List (List Int):=(uniL p.1 (aS a.vars),cO (uniL p.1 (aS a.vars)) p.1 p.2 (aS a.vars) (abR d a))
def binds (d : PDb) (l : List aH) : List Int × List (List Int):=l.foldl (xN d) ([],[[]])
def cf (d : PDb) (q : ab) : Bool:=aw q && dbOk d && q.atoms.all fun a=>lkB d a.rel && decide ((lkR d a.rel).ar = a.vars.length)
def bdB (d : PDb) (q : ab) : Bool:=cf d q && aL q.n (srtU (binds d q.atoms).2)
def bdP (d : PDb) (q : ab) : bE:=if bdB d q then ⟨q.n,srtU (binds d q.atoms).2⟩ else ⟨0,[]⟩
def asgO : List Int -> List (Int × Int) -> Option (List Int)
 | x,[]=>some x
 | x,(v,y) :: r=>if x.getD v.toNat 0 = -1 \/ x.getD v.toNat 0 = y then asgO (x.set v.toNat y) r else none
def dN (d : PDb) : List aH -> List Int -> List (List Int)
 | [],row=>[row]
 | a :: r, row => (lkR d a.rel).rows.flatMap fun t => match asgO row (a.vars.zip t) with
   | none=>[]
   | some x=>dN d r x
def abP (d : PDb) (q : ab) : bE:=if cf d q then newR q.n (dN d q.atoms (List.replicate q.n.toNat (-1))) else ⟨0,[]⟩
theorem iS {l : List Int} {v : Int} (h : v ∈ l) : (idxL l v).toNat < l.length /\ l.getD (idxL l v).toNat 0 = v:=by
 rw [idxL,if_pos h]
 simp only [Int.toNat_natCast]
 induction l with
 | nil=>cases h
 | cons x r ih =>
   by_cases hx : x = v
   ·subst hx; simp
   ·have hr : v ∈ r:=(Zz.1 h).resolve_left fun e=>hx e.symm
    have:=ih hr
    have hb : (!(x == v)) = true:=by simp [hx]
    have e : (x :: r).takeWhile (fun x=>!(x == v)) = x :: r.takeWhile (fun x=>!(x == v)):=by rw [List.takeWhile_cons,if_pos hb]
    rw [e]
    simp only [Qv,List.getD_cons_succ]
    exact ⟨by omega,this.2⟩
theorem dn {a : List Int} (β : Int -> Int) {v : Int} (h : v ∈ a) : bX a (a.map β) v = β v:=by
 obtain ⟨h1,h2⟩:=iS h
 rw [bX]
 have : (a.map β).getD (idxL a v).toNat 0 = β (a.getD (idxL a v).toNat 0):=by
  simp [List.getD,h1]
 rw [this,h2]
theorem zv : ∀ {a : List Int},a.Nodup -> ∀ i (h : i < a.length),(idxL a a[i]).toNat = i:=by
 intro a ha i h
 obtain ⟨h1,h2⟩:=iS (Jy h)
 have h3 : a[(idxL a a[i]).toNat] = a[i]:=by
  have:=h2
  rwa [ak _ h1] at this
 exact (List.getElem_inj ha).1 h3
theorem gx {a r : List Int} (ha : a.Nodup) (hl : r.length = a.length) : a.map (bX a r) = r:=by
 refine List.ext_getElem (by simp [hl]) fun i h1 h2=>?_
 rw [List.getElem_map,bX,zv ha i (by simpa using h1),ak _ h2]
theorem aY {a : List Int} {f g : Int -> Int} : a.map f = a.map g ↔ ∀ v ∈ a,f v = g v:=List.map_inj_left
theorem gl {vs : List Int} {v : Int} : v ∈ aS vs ↔ v ∈ vs /\ 0 <= v /\ v < 5:=by
 rw [aS,List.mem_filter]
 simp only [aI,Xz,Zg,Zw]
 constructor
 ·rintro ⟨⟨k,hk,rfl⟩,h⟩; exact ⟨h,by omega,by omega⟩
 ·rintro ⟨h,h0,h1⟩; exact ⟨⟨v.toNat,by omega,by omega⟩,h⟩
theorem gy (n : Nat) : (aI n).Pairwise (· < ·):=by
 rw [aI,List.pairwise_map]
 exact List.pairwise_lt_range.imp fun h=>by omega
theorem oH (vs : List Int) : (aS vs).Pairwise (· < ·):=List.Pairwise.filter _ (gy 5)
theorem cC {l : List Int} (h : l.Pairwise (· < ·)) : l.Nodup:=h.imp fun h=>by omega
theorem DC {vs row : List Int} (val : List Int) (β : Int -> Int) (hr : row = vs.map β) (hv : ∀ v ∈ vs,0 <= v /\ v < 5) (hl : val.length = 5) :
  ((vs.zip row).foldl (fun val p=>val.set p.1.toNat p.2) val).length = 5 /\ ∀ u : Int,0 <= u -> u < 5 -> ((vs.zip row).foldl (fun val p=>val.set p.1.toNat p.2) val).getD u.toNat 0 = if u ∈ vs then β u else val.getD u.toNat 0:=by
 subst hr
 induction vs generalizing val with
 | nil=>simp [hl]
 | cons w r ih =>
   simp only [Qz,List.zip_cons_cons,List.foldl_cons]
   have hw:=hv w (by simp)
   have:=ih (val.set w.toNat (β w)) (fun v hm=>hv v (List.mem_cons_of_mem _ hm)) (by simp [hl])
   refine ⟨this.1,fun u h0 h5=>?_⟩
   rw [this.2 u h0 h5]
   by_cases h1 : u ∈ r
   ·simp [h1]
   ·by_cases h2 : u = w
    ·subst h2
     simp only [h1,if_false,Zz,true_or,if_true]
     simp [List.getD,List.getElem?_set,hl,show u.toNat < 5 by omega]
    ·have h3 : u ∉ w :: r:=by simp [h1,h2]
     rw [if_neg h1,if_neg h3]
     have : w.toNat ≠ u.toNat:=by omega
     simp [List.getD,List.getElem?_set,this]
theorem qg {vs row : List Int} (β : Int -> Int) (hr : row = vs.map β) (hv : ∀ v ∈ vs,0 <= v /\ v < 5) : bp (aS vs) (valL vs row) = (aS vs).map β:=by
 rw [bp]
 refine aY.2 fun u hu=>?_
 obtain ⟨h1,h2,h3⟩:=gl.1 hu
 rw [valL,(DC (List.replicate 5 0) β hr hv (by simp)).2 u h2 h3,if_pos h1]
theorem vI {vs : List Int} {rows : List (List Int)} (hv : ∀ v ∈ vs,0 <= v /\ v < 5) (β : Int -> Int) : (aS vs).map β ∈ srtU (abL vs rows) ↔ vs.map β ∈ rows:=by
 rw [bZ,abL,Xz]
 constructor
 ·rintro ⟨row,hrow,e⟩
  obtain ⟨h1,h2⟩:=List.mem_filter.1 hrow
  have hf : row = vs.map (bX vs row):=(of_decide_eq_true h2).symm
  rw [qg (bX vs row) hf hv] at e
  have he:=aY.1 e
  have : vs.map β = row:=by
   rw [hf]
   refine aY.2 fun v hm=>?_
   exact (he v (gl.2 ⟨hm,hv v hm⟩)).symm
  rw [this]; exact h1
 ·intro h
  refine ⟨vs.map β,List.mem_filter.2 ⟨h,decide_eq_true ?_⟩,qg β rfl hv⟩
  exact aY.2 fun v hm=>dn β hm
theorem G3 {vs : List Int} {rows : List (List Int)} : ∀ s ∈ srtU (abL vs rows),s.length = (aS vs).length:=fun s hs=>by
 rw [bZ,abL,Xz] at hs
 obtain ⟨row,_,rfl⟩:=hs
 exact dp _ _
theorem Ey {l : List Int} (h : l.Pairwise (· < ·)) (n : Int) : (insI l n).Pairwise (· < ·) /\ ∀ x,x ∈ insI l n ↔ x ∈ l \/ x = n:=by
 induction l with
 | nil =>
   have e : insI [] n = [n]:=by
    have : ([] : List Int).getD 0 (n + 1) ≠ n:=by simp [List.getD]; omega
    simp only [insI,List.takeWhile_nil,List.length_nil,if_neg this,List.take_nil,List.drop_nil,List.nil_append]
   rw [e]; simp
 | cons a r ih =>
   have hp:=List.pairwise_cons.1 h
   have ih:=ih hp.2
   by_cases h1 : a < n
   ·have e : insI (a :: r) n = a :: insI r n:=by
     simp only [insI,List.takeWhile_cons,decide_eq_true h1,if_true,Qv,List.getD_cons_succ,List.take_succ_cons,List.drop_succ_cons]
     split <;> simp
    rw [e]
    refine ⟨List.pairwise_cons.2 ⟨fun x hx=>?_,ih.1⟩,fun x=>?_⟩
    ·rcases (ih.2 x).1 hx with hx | hx
     ·exact hp.1 x hx
     ·omega
    ·rw [Zz,ih.2,Zz,or_assoc]
   ·have e0 : (List.takeWhile (fun x=>decide (x < n)) (a :: r)).length = 0:=by simp [List.takeWhile_cons,h1]
    by_cases h2 : a = n
    ·subst h2
     have e : insI (a :: r) a = a :: r:=by simp [insI,e0]
     rw [e]
     exact ⟨h,fun x=>by simp; intro hx; exact .inl hx⟩
    ·have e : insI (a :: r) n = n :: a :: r:=by simp [insI,e0,h2]
     rw [e]
     refine ⟨List.pairwise_cons.2 ⟨fun x hx=>?_,h⟩,fun x=>by simp [or_comm]⟩
     rcases Zz.1 hx with hx | hx
     ·omega
     ·have:=hp.1 x hx; omega
theorem fw : ∀ (b : List Int) {a : List Int},a.Pairwise (· < ·) -> (uniL a b).Pairwise (· < ·) /\ ∀ x,x ∈ uniL a b ↔ x ∈ a \/ x ∈ b
 | [],a,h=>⟨h,by simp [uniL]⟩
 | n :: b, a, h => by
   have h1:=Ey h n
   have h2:=fw b h1.1
   refine ⟨h2.1,fun x=>?_⟩
   have : uniL a (n :: b) = uniL (insI a n) b:=rfl
   rw [this,h2.2,h1.2,Zz,or_assoc]
theorem nq : ∀ {l l' : List Int},l.Pairwise (· < ·) -> l'.Pairwise (· < ·) -> (∀ x,x ∈ l ↔ x ∈ l') -> l = l'
 | [],[],_,_,_=>rfl
 | [],b :: s,_,_,h=>by have:=(h b).2 (by simp); simp at this
 | a :: r,[],_,_,h=>by have:=(h a).1 (by simp); simp at this
 | a :: r, b :: s, h1, h2, h => by
   have p1:=List.pairwise_cons.1 h1
   have p2:=List.pairwise_cons.1 h2
   have hab : a = b:=by
    rcases Zz.1 ((h a).1 (by simp)) with e | e
    ·exact e
    ·rcases Zz.1 ((h b).2 (by simp)) with e' | e'
     ·exact e'.symm
     ·have:=p2.1 a e; have:=p1.1 b e'; omega
   subst hab
   congr 1
   refine nq p1.2 p2.2 fun x=>?_
   have hx:=h x
   simp only [Zz] at hx
   constructor
   ·intro hm
    rcases hx.1 (.inr hm) with e | e
    ·have:=p1.1 x hm; omega
    ·exact e
   ·intro hm
    rcases hx.2 (.inr hm) with e | e
    ·have:=p2.1 x hm; omega
    ·exact e
theorem ui {u a b : List Int} {rows list : List (List Int)} (ha : a.Nodup) (hb : b.Nodup) (hu : ∀ x,x ∈ u ↔ x ∈ a \/ x ∈ b) (hr : ∀ r ∈ rows,r.length = a.length) (hs : ∀ s ∈ list,s.length = b.length) (β : Int -> Int) :
  u.map β ∈ cO u a rows b list ↔ a.map β ∈ rows /\ b.map β ∈ list:=by
 simp only [cO,List.mem_flatMap,List.mem_filterMap,glO]
 constructor
 ·rintro ⟨r,hrm,s,hsm,h⟩
  split at h
  ·rename_i hg
   simp only [Jx,glR] at h
   have he:=aY.1 h
   have hgv : ∀ v ∈ u,v ∈ a -> v ∈ b -> bX a r v = bX b s v:=fun v h1 h2 h3=>by
    have:=(Jk.1 hg) v h1
    simpa [glV,Zw,h2,h3] using this
   have e1 : ∀ v ∈ a,bX a r v = β v:=fun v hv=>by
    have:=he v ((hu v).2 (.inl hv))
    simpa [Zw,hv] using this
   have e2 : ∀ v ∈ b,bX b s v = β v:=fun v hv=>by
    by_cases hva : v ∈ a
    ·rw [<- hgv v ((hu v).2 (.inr hv)) hva hv]; exact e1 v hva
    ·have:=he v ((hu v).2 (.inr hv))
     simpa [Zw,hva] using this
   have f1 : a.map β = r:=by rw [<- gx ha (hr r hrm)]; exact aY.2 fun v hv=>(e1 v hv).symm
   have f2 : b.map β = s:=by rw [<- gx hb (hs s hsm)]; exact aY.2 fun v hv=>(e2 v hv).symm
   rw [f1,f2]; exact ⟨hrm,hsm⟩
  ·cases h
 ·rintro ⟨h1,h2⟩
  refine ⟨a.map β,h1,b.map β,h2,?_⟩
  rw [if_pos]
  ·simp only [Jx,glR]
   refine aY.2 fun v hv=>?_
   by_cases hva : v ∈ a
   ·simp only [Zw,hva,if_true]; exact dn β hva
   ·have hvb:=((hu v).1 hv).resolve_left hva
    simp only [Zw,hva,if_false]; exact dn β hvb
  ·refine Jk.2 fun v hv=>?_
   by_cases hva : v ∈ a
   ·by_cases hvb : v ∈ b
    ·simp [glV,dn β hva,dn β hvb]
    ·simp [glV,Zw,hvb]
   ·simp [glV,Zw,hva]
theorem uh {u a b : List Int} {rows list : List (List Int)} : ∀ x ∈ cO u a rows b list,x.length = u.length:=fun x hx=>by
 simp only [cO,List.mem_flatMap,List.mem_filterMap,glO] at hx
 obtain ⟨r,_,s,_,h⟩:=hx
 split at h
 ·simp only [Jx] at h
  rw [<- h,glR,List.length_map]
 ·cases h
structure Jn (d : PDb) (as : List aH) (p : List Int × List (List Int)) : Prop where
 pw : p.1.Pairwise (· < ·)
 mem : ∀ x,x ∈ p.1 ↔ x ∈ br as
 len : ∀ r ∈ p.2,r.length = p.1.length
 iff : ∀ β : Int -> Int,p.1.map β ∈ p.2 ↔ ∀ a ∈ as,a.vars.map β ∈ (lkR d a.rel).rows
theorem Jn.zero (d : PDb) : Jn d [] ([],[[]]):=⟨.nil,by simp [br],by simp,by simp⟩
theorem Jn.step {d : PDb} {as : List aH} {p : List Int × List (List Int)} (h : Jn d as p) {a : aH} (hv : ∀ v ∈ a.vars,0 <= v /\ v < 5) : Jn d (as ++ [a]) (xN d p a):=by
 have hu:=fw (aS a.vars) h.pw
 have hab : ∀ x,x ∈ uniL p.1 (aS a.vars) ↔ x ∈ p.1 \/ x ∈ aS a.vars:=hu.2
 refine ⟨hu.1,fun x=>?_,uh,fun β=>?_⟩
 ·show x ∈ uniL p.1 (aS a.vars) ↔ _
  rw [hab,h.mem,br,br,List.flatMap_append,Qq,gl]
  simp only [List.flatMap_cons,List.flatMap_nil,List.append_nil]
  constructor
  ·rintro (h | h)
   ·exact .inl h
   ·exact .inr h.1
  ·rintro (h | h)
   ·exact .inl h
   ·exact .inr ⟨h,hv x h⟩
 ·show (uniL p.1 (aS a.vars)).map β ∈ cO (uniL p.1 (aS a.vars)) p.1 p.2 (aS a.vars) (abR d a) ↔ _
  have hl : ∀ s ∈ abR d a,s.length = (aS a.vars).length:=G3
  rw [ui (cC h.pw) (cC (oH a.vars)) hab h.len hl,h.iff,abR,vI hv]
  simp only [Qq,Qg]
  constructor
  ·rintro ⟨h1,h2⟩ b (hb | rfl)
   ·exact h1 b hb
   ·exact h2
  ·exact fun h=>⟨fun b hb=>h b (.inl hb),h a (.inr rfl)⟩
theorem Jn.all {d : PDb} : ∀ (l as : List aH) (p : List Int × List (List Int)),Jn d as p -> (∀ a ∈ l,∀ v ∈ a.vars,0 <= v /\ v < 5) -> Jn d (as ++ l) (l.foldl (xN d) p)
 | [],as,p,h,_=>by simpa using h
 | a :: l, as, p, h, hv => by
   have:=Jn.all l (as ++ [a]) (xN d p a) (h.step (hv a (by simp))) fun b hb=>hv b (List.mem_cons_of_mem _ hb)
   simpa using this
theorem ik {x : List Int} {i : Nat} {y : Int} (h : i < x.length) : (x.set i y).getD i 0 = y:=by simp [List.getD,List.getElem?_set,h]
theorem getD_set_ne {x : List Int} {i j : Nat} {y : Int} (h : i ≠ j) : (x.set i y).getD j 0 = x.getD j 0:=by simp [List.getD,List.getElem?_set,h]
theorem rS : ∀ (vs t x z : List Int),t.length = vs.length -> (∀ v ∈ vs,0 <= v /\ v < x.length) -> (∀ y ∈ t,y ≠ -1) ->
  (asgO x (vs.zip t) = some z ↔ z.length = x.length /\ bp vs z = t /\ (∀ j : Nat,(j : Int) ∉ vs -> z.getD j 0 = x.getD j 0) /\ ∀ j : Nat,x.getD j 0 ≠ -1 -> z.getD j 0 = x.getD j 0)
 | [], [], x, z, _, _, _ => by
   simp only [List.zip_nil_left,asgO,Jx,bp,List.map_nil,true_and,List.not_mem_nil,not_false_eq_true,forall_const]
   constructor
   ·rintro rfl; exact ⟨rfl,fun _=>rfl,fun _ _=>rfl⟩
   ·rintro ⟨h1,h2,_⟩
    refine List.ext_getElem h1.symm fun i a b=>?_
    have:=h2 i
    rw [ak _ b,ak _ a] at this
    exact this.symm
 | [],_ :: _,_,_,h,_,_=>by simp at h
 | _ :: _,[],_,_,h,_,_=>by simp at h
 | v :: vs, y :: t, x, z, hl, hv, hy => by
   have hv0:=hv v (by simp)
   have hy0:=hy y (by simp)
   have hvn : v.toNat < x.length:=by omega
   rw [List.zip_cons_cons,asgO]
   by_cases hc : x.getD v.toNat 0 = -1 \/ x.getD v.toNat 0 = y
   ·rw [if_pos hc,rS vs t (x.set v.toNat y) z (by simpa using hl) (fun u hu=>by have:=hv u (List.mem_cons_of_mem _ hu); simpa using this) fun w hw=>hy w (List.mem_cons_of_mem _ hw)]
    simp only [List.length_set]
    have hp : bp (v :: vs) z = y :: t ↔ z.getD v.toNat 0 = y /\ bp vs z = t:=by simp [bp]
    rw [hp]
    constructor
    ·rintro ⟨h1,h2,h3,h4⟩
     have h5 : z.getD v.toNat 0 = y:=by
      have:=h4 v.toNat (by rw [ik hvn]; exact hy0)
      rwa [ik hvn] at this
     refine ⟨h1,⟨h5,h2⟩,fun j hj=>?_,fun j hj=>?_⟩
     ·have hne : v.toNat ≠ j:=fun e=>hj (by rw [<- e,Int.toNat_of_nonneg hv0.1]; simp)
      rw [h3 j fun hm=>hj (List.mem_cons_of_mem _ hm),getD_set_ne hne]
     ·by_cases e : v.toNat = j
      ·subst e
       rcases hc with hc | hc
       ·exact absurd hc hj
       ·rw [h5,hc]
      ·have:=h4 j (by rw [getD_set_ne e]; exact hj)
       rwa [getD_set_ne e] at this
    ·rintro ⟨h1,⟨h5,h2⟩,h3,h4⟩
     refine ⟨h1,h2,fun j hj=>?_,fun j hj=>?_⟩
     ·by_cases e : v.toNat = j
      ·subst e; rw [ik hvn,h5]
      ·rw [getD_set_ne e]
       refine h3 j fun hm=>?_
       rcases Zz.1 hm with hm | hm
       ·exact e (by rw [<- hm]; simp)
       ·exact hj hm
     ·by_cases e : v.toNat = j
      ·subst e; rw [ik hvn,h5]
      ·rw [getD_set_ne e] at hj ⊢; exact h4 j hj
   ·rw [if_neg hc]
    constructor
    ·intro h; cases h
    ·rintro ⟨h1,h2,h3,h4⟩
     have h5 : z.getD v.toNat 0 = y:=by
      simp only [bp,Qz,List.cons.injEq] at h2; exact h2.1
     have:=h4 v.toNat fun e=>hc (.inl e)
     exact absurd (this ▸ h5) fun e=>hc (.inr e)
theorem qs (d : PDb) : ∀ (as : List aH) (x z : List Int),(∀ a ∈ as,(∀ v ∈ a.vars,0 <= v /\ v < x.length) /\ ∀ t ∈ (lkR d a.rel).rows,t.length = a.vars.length /\ ∀ y ∈ t,y ≠ -1) ->
  (z ∈ dN d as x ↔ z.length = x.length /\ (∀ a ∈ as,bp a.vars z ∈ (lkR d a.rel).rows) /\ (∀ j : Nat,(j : Int) ∉ br as -> z.getD j 0 = x.getD j 0) /\ ∀ j : Nat,x.getD j 0 ≠ -1 -> z.getD j 0 = x.getD j 0)
 | [], x, z, _ => by
   simp only [dN,Qg,br,List.flatMap_nil,List.not_mem_nil,not_false_eq_true,forall_const,false_implies,true_and]
   constructor
   ·rintro rfl; exact ⟨rfl,fun _=>rfl,fun _ _=>rfl⟩
   ·rintro ⟨h1,h2,_⟩
    refine List.ext_getElem h1 fun i a b=>?_
    have:=h2 i
    rw [ak _ a,ak _ b] at this
    exact this
 | a :: as, x, z, h => by
   obtain ⟨hv,ht⟩:=h a (by simp)
   have hin : ∀ v,v ∈ br (a :: as) ↔ v ∈ a.vars \/ v ∈ br as:=fun v=>by simp [br]
   rw [dN,List.mem_flatMap]
   constructor
   ·rintro ⟨t,htm,hz⟩
    obtain ⟨htl,hty⟩:=ht t htm
    cases ho : asgO x (a.vars.zip t) with
    | none=>rw [ho] at hz; cases hz
    | some w =>
      rw [ho] at hz
      obtain ⟨w1,w2,w3,w4⟩:=(rS a.vars t x w htl hv hty).1 ho
      obtain ⟨z1,z2,z3,z4⟩:=(qs d as w z fun b hb=>by rw [w1]; exact h b (List.mem_cons_of_mem _ hb)).1 hz
      have hpz : bp a.vars z = t:=by
       rw [<- w2]
       refine aY.2 fun v hm=>?_
       have hv':=hv v hm
       refine z4 v.toNat fun e=>?_
       have : w.getD v.toNat 0 ∈ t:=by rw [<- w2]; exact Xz.2 ⟨v,hm,rfl⟩
       exact hty _ this e
      refine ⟨by rw [z1,w1],fun b hb=>?_,fun j hj=>?_,fun j hj=>?_⟩
      ·rcases Zz.1 hb with rfl | hb
       ·rw [hpz]; exact htm
       ·exact z2 b hb
      ·rw [z3 j fun hm=>hj ((hin _).2 (.inr hm)),w3 j fun hm=>hj ((hin _).2 (.inl hm))]
      ·have e:=w4 j hj
       rw [z4 j (by rw [e]; exact hj),e]
   ·rintro ⟨z1,z2,z3,z4⟩
    have htm:=z2 a (by simp)
    obtain ⟨htl,hty⟩:=ht _ htm
    let w : List Int:=(List.range x.length).map fun (j : Nat)=>if (j : Int) ∈ a.vars then z.getD j 0 else x.getD j 0
    have wl : w.length = x.length:=by simp [w]
    have wg : ∀ j : Nat,w.getD j 0 = if (j : Int) ∈ a.vars then z.getD j 0 else x.getD j 0:=fun j=>by
     by_cases hj : j < x.length
     ·rw [ak _ (by rw [wl]; exact hj)]
      simp [w]
     ·have e1 : w.getD j 0 = 0:=by simp [List.getD,List.getElem?_eq_none (show w.length <= j by omega)]
      have e2 : x.getD j 0 = 0:=by simp [List.getD,List.getElem?_eq_none (show x.length <= j by omega)]
      have e3 : z.getD j 0 = 0:=by simp [List.getD,List.getElem?_eq_none (show z.length <= j by omega)]
      rw [e1,e2,e3]; simp
    have hw2 : bp a.vars w = bp a.vars z:=aY.2 fun v hm=>by
     have:=hv v hm
     rw [wg,if_pos (by rw [Int.toNat_of_nonneg this.1]; exact hm)]
    have hwx : ∀ j : Nat,x.getD j 0 ≠ -1 -> w.getD j 0 = x.getD j 0:=fun j hj=>by
     rw [wg]; split
     ·exact z4 j hj
     ·rfl
    have ho : asgO x (a.vars.zip (bp a.vars z)) = some w:=(rS a.vars _ x w htl hv hty).2 ⟨wl,hw2,fun j hj=>by rw [wg,if_neg hj],hwx⟩
    refine ⟨_,htm,?_⟩
    rw [ho]
    simp only
    refine (qs d as w z fun b hb=>by rw [wl]; exact h b (List.mem_cons_of_mem _ hb)).2 ⟨by rw [z1,wl],fun b hb=>z2 b (List.mem_cons_of_mem _ hb),fun j hj=>?_,fun j hj=>?_⟩
    ·rw [wg]
     split
     ·rfl
     ·rename_i hn
      exact z3 j fun hm=>by
       rcases (hin _).1 hm with hm | hm
       ·exact hn hm
       ·exact hj hm
    ·rw [wg] at hj ⊢
     split
     ·rfl
     ·rename_i hn
      rw [if_neg hn] at hj
      exact z4 j hj
structure Qf (d : PDb) (q : ab) : Prop where
 qok : aw q = true
 dok : dbOk d = true
 n5 : 1 <= q.n /\ q.n <= 5
 a4 : 1 <= q.atoms.length /\ q.atoms.length <= 4
 vin : ∀ a ∈ q.atoms,∀ v ∈ a.vars,0 <= v /\ v < q.n
 vlen : ∀ a ∈ q.atoms,1 <= a.vars.length /\ a.vars.length <= 5
 lk : ∀ a ∈ q.atoms,lkB d a.rel = true
 ar : ∀ a ∈ q.atoms,(lkR d a.rel).ar = a.vars.length
 all : ∀ j : Int,0 <= j -> j < q.n -> j ∈ br q.atoms
theorem uN {d : PDb} {q : ab} (h : cf d q = true) : Qf d q:=by
 simp only [cf,Jq,Jk,Xj] at h
 obtain ⟨⟨h1,h2⟩,h3⟩:=h
 have h0:=h1
 simp only [aw,Jq,inR,Xj,Jk] at h1
 obtain ⟨⟨⟨⟨hn,ha⟩,ho⟩,hat⟩,hu⟩:=h1
 refine ⟨h0,h2,hn,by omega,fun a hm v hv=>?_,fun a hm=>?_,fun a hm=>(h3 a hm).1,fun a hm=>(h3 a hm).2,fun j hj0 hj=>?_⟩
 ·have:=hat a hm
  simp only [b6,Jq,Jk] at this
  have:=this.2 v hv
  rw [aj (by omega) (by omega)] at this
  simp only [inR,Jq,Xj] at this
  omega
 ·have:=hat a hm
  simp only [b6,Jq,inR,Xj] at this
  omega
 ·simp only [eX,Jk,Zg,Zw] at hu
  have:=hu j.toNat (by omega)
  rwa [Int.toNat_of_nonneg hj0] at this
theorem kH {d : PDb} {nm : List UInt8} (h : lkB d nm = true) : (lkR d nm).rows.length <= 16:=by
 obtain ⟨A,B,sp⟩:=B5 h
 have:=sp.tab (Gt h)
 simp only [lp,Jq,Xj] at this
 exact this.2
theorem CP {d : PDb} {q : ab} (f : Qf d q) {a : aH} (ha : a ∈ q.atoms) : ∀ t ∈ (lkR d a.rel).rows,t.length = a.vars.length /\ ∀ y ∈ t,y ≠ -1:=fun t ht=>by
 have hr:=um (f.lk a ha)
 obtain ⟨h1,h2⟩:=bK hr ht
 refine ⟨by have:=f.ar a ha; omega,fun y hy e=>?_⟩
 simp only [aZ,Jk] at h2
 have:=h2 y hy
 subst e
 simp [inR] at this
theorem b8 {n : Nat} {x : Int} : x ∈ aI n ↔ 0 <= x /\ x < n:=by
 simp only [aI,Xz,Zg]
 constructor
 ·rintro ⟨k,hk,rfl⟩; omega
 ·rintro ⟨h0,h1⟩; exact ⟨x.toNat,by omega,by omega⟩
theorem bJ (n : Nat) : (aI n).length = n:=by simp [aI]
theorem pR {n : Nat} {z : List Int} (h : z.length = n) : (aI n).map (fun v=>z.getD v.toNat 0) = z:=by
 refine List.ext_getElem (by simp [bJ,h]) fun i h1 h2=>?_
 simp only [aI,List.map_map,List.getElem_map,List.getElem_range,Function.comp_apply,Int.toNat_natCast]
 exact ak _ h2
theorem tu {d : PDb} {q : ab} (f : Qf d q) : Jn d q.atoms (binds d q.atoms):=by
 have:=Jn.all q.atoms [] ([],[[]]) (Jn.zero d) fun a ha v hv=>by have:=f.vin a ha v hv; have:=f.n5; omega
 simpa [binds] using this
theorem vP {d : PDb} {q : ab} (f : Qf d q) : (binds d q.atoms).1 = aI q.n.toNat:=by
 have j:=tu f
 refine nq j.pw (gy _) fun x=>?_
 rw [j.mem,b8]
 constructor
 ·intro h
  simp only [br,List.mem_flatMap] at h
  obtain ⟨a,ha,hx⟩:=h
  have:=f.vin a ha x hx; omega
 ·rintro ⟨h0,h1⟩; exact f.all x h0 (by omega)
theorem mW {d : PDb} {q : ab} (f : Qf d q) (z : List Int) : z ∈ (binds d q.atoms).2 ↔ z.length = q.n.toNat /\ ∀ a ∈ q.atoms,bp a.vars z ∈ (lkR d a.rel).rows:=by
 have j:=tu f
 have hv:=vP f
 have key : z.length = q.n.toNat -> (z ∈ (binds d q.atoms).2 ↔ ∀ a ∈ q.atoms,bp a.vars z ∈ (lkR d a.rel).rows):=fun hl=>by
  have:=j.iff fun v=>z.getD v.toNat 0
  rw [hv,pR hl] at this
  exact this
 constructor
 ·intro h
  have hl : z.length = q.n.toNat:=by rw [j.len z h,hv,bJ]
  exact ⟨hl,(key hl).1 h⟩
 ·rintro ⟨hl,h⟩; exact (key hl).2 h
theorem vz {d : PDb} {q : ab} (f : Qf d q) (z : List Int) : z ∈ dN d q.atoms (List.replicate q.n.toNat (-1)) ↔ z.length = q.n.toNat /\ ∀ a ∈ q.atoms,bp a.vars z ∈ (lkR d a.rel).rows:=by
 rw [qs d q.atoms _ z fun a ha=>⟨fun v hv=>by have:=f.vin a ha v hv; simp only [List.length_replicate]; omega,CP f ha⟩]
 simp only [List.length_replicate]
 constructor
 ·exact fun h=>⟨h.1,h.2.1⟩
 ·rintro ⟨hl,h⟩
  have out : ∀ j : Nat,q.n.toNat <= j -> z.getD j 0 = (List.replicate q.n.toNat (-1)).getD j 0:=fun j hj=>by
   simp [List.getD,List.getElem?_eq_none (show z.length <= j by omega),List.getElem?_eq_none (show (List.replicate q.n.toNat (-1 : Int)).length <= j by simpa using hj)]
  refine ⟨hl,h,fun j hj=>out j ?_,fun j hj=>out j ?_⟩
  ·refine Nat.le_of_not_lt fun hlt=>hj (f.all j (by omega) (by omega))
  ·refine Nat.le_of_not_lt fun hlt=>hj ?_
   rw [ak _ (by simpa using hlt)]
   simp
theorem mo (n : Int) (l : List (List Int)) : newB n l = aL n (srtU l):=by
 cases h : aL n (srtU l)
 ·simp [newB,h]
 ·simp only [newB,h,Bool.and_true,Jk,Jq,Xj]
  exact fun x hx=>bK h ((bZ l x).2 hx)
theorem Gh (d : PDb) (q : ab) : abP d q = bdP d q:=by
 cases hq : cf d q
 ·simp [abP,bdP,bdB,hq]
 have f:=uN hq
 have e : srtU (dN d q.atoms (List.replicate q.n.toNat (-1))) = srtU (binds d q.atoms).2:=oC (gS _) (gS _) fun z=>by
  rw [bZ,bZ,vz f,mW f]
 simp only [abP,bdP,bdB,hq,Bool.true_and,if_true,newR,mo,e]
theorem zA {u a b : List Int} {rows list : List (List Int)} : (cO u a rows b list).length <= rows.length * list.length:=by
 simp only [cO]
 induction rows with
 | nil=>simp
 | cons r rs ih =>
   rw [List.flatMap_cons,Qw,Qv,Nat.add_mul,Nat.one_mul]
   have:=List.length_filterMap_le (fun s=>glO u a r b s) list
   omega
theorem nG {d : PDb} : ∀ (as : List aH) (x : List Int),(∀ a ∈ as,(lkR d a.rel).rows.length <= 16) -> (dN d as x).length <= 16 ^ as.length
 | [],x,_=>by simp [dN]
 | a :: as, x, h => by
   have ha:=h a (by simp)
   rw [dN]
   have key : ∀ rows : List (List Int),(rows.flatMap fun t=>match asgO x (a.vars.zip t) with
     | none=>[]
     | some x=>dN d as x).length <= rows.length * 16 ^ as.length:=fun rows=>by
    induction rows with
    | nil=>simp
    | cons t ts ih =>
      rw [List.flatMap_cons,Qw,Qv,Nat.add_mul,Nat.one_mul]
      have : (match asgO x (a.vars.zip t) with
       | none=>[]
       | some x=>dN d as x).length <= 16 ^ as.length:=by
       split
       ·simp
       ·exact nG as _ fun b hb=>h b (List.mem_cons_of_mem _ hb)
      omega
   refine Zy (key _) ?_
   rw [Qv,Nat.pow_succ,Nat.mul_comm (16 ^ as.length)]
   exact Zk _ ha
def fitJ (vs row : List Int) (j : Nat) : Bool:=(List.range j).all fun i=>decide (bX vs row (vs.getD i 0) = row.getD i 0)
theorem zh (vs row : List Int) : fitJ vs row 0 = true:=rfl
theorem zg (vs row : List Int) (j : Nat) : fitJ vs row (j + 1) = (fitJ vs row j && decide (bX vs row (vs.getD j 0) = row.getD j 0)):=by
 simp only [fitJ,List.range_succ,List.all_append,List.all_cons,List.all_nil,Bool.and_true]
theorem Bk {vs row : List Int} (h : row.length = vs.length) : fitJ vs row vs.length = fitR vs row:=by
 have : fitJ vs row vs.length = true ↔ fitR vs row = true:=by
  simp only [fitJ,Jk,Zg,Xj,fitR]
  constructor
  ·intro hh
   refine List.ext_getElem (by simp [h]) fun i h1 h2=>?_
   have:=hh i (by omega)
   rw [ak _ (by omega),ak _ h2] at this
   rw [List.getElem_map]; exact this
  ·intro hh i hi
   have : (vs.map (bX vs row))[i]'(by simpa using hi) = row[i]'(by omega):=by congr 1
   rw [ak _ hi,ak _ (by omega)]
   rw [List.getElem_map] at this; exact this
 cases h1 : fitJ vs row vs.length <;> cases h2 : fitR vs row <;> simp_all
def valJ (vs row : List Int) (j : Nat) : List Int:=((vs.take j).zip (row.take j)).foldl (fun val p=>val.set p.1.toNat p.2) (List.replicate 5 0)
theorem Ah (vs row : List Int) : valJ vs row 0 = List.replicate 5 0:=by simp [valJ]
theorem Ag {vs row : List Int} {j : Nat} (h1 : j < vs.length) (h2 : j < row.length) : valJ vs row (j + 1) = (valJ vs row j).set vs[j].toNat row[j]:=by
 rw [valJ,Jz h1,Jz h2,List.zip_append (by simp; omega),List.foldl_append]
 rfl
theorem vj (vs row : List Int) (j : Nat) : (valJ vs row j).length = 5:=by
 rw [valJ]
 generalize (vs.take j).zip (row.take j) = l
 have : ∀ (l : List (Int × Int)) (v : List Int),(l.foldl (fun val p=>val.set p.1.toNat p.2) v).length = v.length:=fun l=>by
  induction l with
  | nil=>simp
  | cons p r ih=>intro v; rw [List.foldl_cons,ih]; simp
 rw [this]; simp
theorem vi {vs row : List Int} (h : row.length = vs.length) : valJ vs row vs.length = valL vs row:=by
 rw [valJ,Jj (Jv _),Jj (by omega)]; rfl
theorem At {vs : List Int} {rows : List (List Int)} {i : Nat} (h : i < rows.length) : abL vs (rows.take (i + 1)) = abL vs (rows.take i) ++ if fitR vs rows[i] then [bp (aS vs) (valL vs rows[i])] else []:=by
 rw [Jz h]
 simp only [abL,List.filter_append,Zj]
 cases hf : fitR vs rows[i] <;> simp [hf]
theorem xh (vs : List Int) (rows : List (List Int)) : (abL vs rows).length <= rows.length:=by
 simp only [abL,List.length_map]; exact Xy _ _
theorem GY {vs : List Int} {rows : List (List Int)} : ∀ x ∈ abL vs rows,x.length <= 5:=fun x hx=>by
 simp only [abL,Xz] at hx
 obtain ⟨row,_,rfl⟩:=hx
 rw [dp]
 have:=Xy (fun v=>vs.contains v) (aI 5)
 rw [bJ] at this
 exact this
theorem VC.plain {P : Program} {f : FuncId} {As : List V} {post : Nat -> V -> Prop} {v : V} (h : VC P f As post) (hq : ∀ n r,post n r -> rp (fun _=>none) r = some v) (hv : rd (fun _=>none) (fun _=>none) v = some v) :
  VC P f As (fun _ r=>r = v):=by
 refine ⟨h.1,fun w vals A hgl hLR=>?_⟩
 refine (h.2 w vals A hgl hLR).mono fun e w' he=>?_
 obtain ⟨v',r,rfl,hb,hvr,_,hp⟩:=he
 exact ⟨v',v,rfl,hb,VR.er _ _ _ hvr (hq _ _ hp),hv,rfl⟩
theorem VC.untrack {P : Program} {f : FuncId} {Ps As0 : List V} {post post0 : Nat -> V -> Prop} (h0 : VC P f As0 post0) (hv : pnVL Ps = true)
  (h : ∀ As,rpL (fun _=>none) As = some Ps -> tkVL As = true -> lnVL As -> VC P f As post) : VC P f Ps post:=by
 refine ⟨h0.1,fun w vals A hgl hLR=>?_⟩
 obtain ⟨ys,h3,h4,h5,_⟩:=LR.track Ps vals hv hLR
 exact (h ys h4 h5 (LR.ln _ _ h3)).2 w vals A hgl h3
theorem CW {As : List V} {a : V} (h : rpL (fun _=>none) As = some [a]) (ht : tkVL As = true) (hl : lnVL As) : ∃ x,As = [x] /\ rp (fun _=>none) x = some a /\ x.tk = true /\ x.ln:=by
 match As,h,ht,hl with
 | [],h,_,_=>simp [rpL] at h
 | x :: r, h, ht, hl =>
   simp only [rpL] at h
   cases hx : rp (fun _=>none) x with
   | none=>simp [hx] at h
   | some y =>
     cases hs : rpL (fun _=>none) r with
     | none=>simp [hx,hs] at h
     | some ys =>
       simp only [hx,hs,Jx,List.cons.injEq] at h
       obtain ⟨rfl,rfl⟩:=h
       simp only [tkVL,Jq] at ht
       cases r with
       | nil=>exact ⟨x,rfl,hx,ht.1,hl.1⟩
       | cons z s =>
         simp only [rpL] at hs
         cases h1 : rp (fun _=>none) z <;> cases h2 : rpL (fun _=>none) s <;> simp [h1,h2] at hs
theorem CX {As : List V} {a b : V} (h : rpL (fun _=>none) As = some [a,b]) (ht : tkVL As = true) (hl : lnVL As) :
  ∃ x y,As = [x,y] /\ (rp (fun _=>none) x = some a /\ x.tk = true /\ x.ln) /\ rp (fun _=>none) y = some b /\ y.tk = true /\ y.ln:=by
 match As,h,ht,hl with
 | [],h,_,_=>simp [rpL] at h
 | x :: r, h, ht, hl =>
   simp only [rpL] at h
   cases hx : rp (fun _=>none) x with
   | none=>simp [hx] at h
   | some y =>
     cases hs : rpL (fun _=>none) r with
     | none=>simp [hx,hs] at h
     | some ys =>
       simp only [hx,hs,Jx,List.cons.injEq] at h
       obtain ⟨rfl,rfl⟩:=h
       simp only [tkVL,Jq] at ht
       obtain ⟨z,rfl,h1,h2,h3⟩:=CW hs ht.2 hl.2
       exact ⟨x,z,rfl,⟨hx,ht.1,hl.1⟩,h1,h2,h3⟩
theorem pP {q : ab} (h : aw q = true) : q.atoms.length <= 4:=by
 simp only [aw,Jq,inR,Xj] at h
 omega
theorem mz {l : List Int} (h : l.Pairwise (· < ·)) (hm : ∀ x ∈ l,0 <= x /\ x < 5) : l.length <= 5:=by
 have : l = (aI 5).filter fun v=>l.contains v:=by
  refine nq h (List.Pairwise.filter _ (gy 5)) fun x=>?_
  rw [List.mem_filter,b8,Zw]
  exact ⟨fun h=>⟨hm x h,h⟩,fun h=>h.2⟩
 rw [this]
 have:=Xy (fun v=>l.contains v) (aI 5)
 rw [bJ] at this
 exact this
theorem jf (vs : List Int) : (aS vs).length <= 5:=by
 have:=Xy (fun v=>vs.contains v) (aI 5)
 rw [bJ] at this
 exact this
def jnI (u a : List Int) (rows : List (List Int)) (b : List Int) (list : List (List Int)) (k : Nat) (j : Nat) : List (List Int):=
 cO u a (rows.take k) b list ++ (list.take j).filterMap fun s=>glO u a (rows.getD k []) b s
theorem B0 (u a : List Int) (rows : List (List Int)) (b : List Int) (list : List (List Int)) (k : Nat) : jnI u a rows b list k 0 = cO u a (rows.take k) b list:=by simp [jnI]
theorem ED {u a : List Int} {rows : List (List Int)} {b : List Int} {list : List (List Int)} {k : Nat} (h : k < rows.length) : jnI u a rows b list k list.length = cO u a (rows.take (k + 1)) b list:=by
 rw [jnI,Jj (Jv _),Jz h,cO,cO,List.flatMap_append]
 simp [Jw h]
theorem BZ {u a : List Int} {rows : List (List Int)} {b : List Int} {list : List (List Int)} {k j : Nat} (h : j < list.length) :
  jnI u a rows b list k (j + 1) = jnI u a rows b list k j ++ if glB u a (rows.getD k []) b list[j] then [glR u a (rows.getD k []) b list[j]] else []:=by
 rw [jnI,jnI,Jz h,List.filterMap_append,List.append_assoc]
 congr 1
 cases hg : glB u a (rows.getD k []) b list[j] <;> simp only [List.getD_eq_getElem?_getD] at hg <;> simp [glO,hg]
theorem np (u a b : List Int) (list : List (List Int)) : cO u a [] b list = []:=rfl
theorem tj : ∀ (l : List (Int × Int)) (x : List Int) (v y : Int),asgO x (l ++ [(v,y)]) = (asgO x l).bind fun z=>if z.getD v.toNat 0 = -1 \/ z.getD v.toNat 0 = y then some (z.set v.toNat y) else none
 | [],x,v,y=>by simp [asgO]
 | (u, w) :: r, x, v, y => by
   rw [List.cons_append,asgO,asgO]
   split
   ·exact tj r _ v y
   ·rfl
theorem qJ : ∀ (l r : List (Int × Int)) (x : List Int),asgO x l = none -> asgO x (l ++ r) = none
 | [],_,_,h=>by simp [asgO] at h
 | (u, w) :: l, r, x, h => by
   rw [List.cons_append,asgO]
   rw [asgO] at h
   split at h
   ·rename_i hc
    rw [if_pos hc]
    exact qJ l r _ h
   ·rename_i hc
    rw [if_neg hc]
structure AsS (row vs t : List Int) (j : Nat) (x : List Int) (fits : Bool) : Prop where
 le : j <= vs.length
 len : x.length = row.length
 yes : fits = true -> asgO row ((vs.zip t).take j) = some x
 no : fits = false -> asgO row (vs.zip t) = none
theorem AsS.zero {row vs t : List Int} : AsS row vs t 0 row true:=⟨by omega,rfl,fun _=>by simp [asgO],fun h=>by cases h⟩
theorem DU {vs t : List Int} {j : Nat} (h1 : j < vs.length) (h2 : j < t.length) : (vs.zip t).take (j + 1) = (vs.zip t).take j ++ [(vs[j],t[j])]:=by
 rw [Jz (by simp; omega)]
 simp
theorem AsS.step {row vs t x : List Int} {j : Nat} (h : AsS row vs t j x true) (h1 : j < vs.length) (h2 : j < t.length) :
  AsS row vs t (j + 1) (x.set vs[j].toNat t[j]) (decide (x.getD vs[j].toNat 0 = -1 \/ x.getD vs[j].toNat 0 = t[j])):=by
 have hy:=h.yes rfl
 have hz : asgO row ((vs.zip t).take (j + 1)) = if x.getD vs[j].toNat 0 = -1 \/ x.getD vs[j].toNat 0 = t[j] then some (x.set vs[j].toNat t[j]) else none:=by
  rw [DU h1 h2,tj,hy]; rfl
 refine ⟨by omega,by rw [List.length_set]; exact h.len,fun hd=>?_,fun hd=>?_⟩
 ·rw [hz,if_pos (of_decide_eq_true hd)]
 ·rw [if_neg (of_decide_eq_false hd)] at hz
  have:=qJ _ ((vs.zip t).drop (j + 1)) _ hz
  rwa [List.take_append_drop] at this
theorem AsS.done {row vs t x : List Int} {j : Nat} {fits : Bool} (h : AsS row vs t j x fits) (hj : fits = true -> vs.length <= j) : asgO row (vs.zip t) = if fits then some x else none:=by
 cases fits with
 | false=>simpa using h.no rfl
 | true =>
   have h2:=hj rfl
   have h3:=h.yes rfl
   rw [Jj (by simp; omega)] at h3
   simpa using h3
def wkF (d : PDb) (as : List aH) (vs row t : List Int) : List (List Int):=match asgO row (vs.zip t) with
 | none=>[]
 | some x=>dN d as x
theorem wZ (d : PDb) (a : aH) (as : List aH) (row : List Int) : dN d (a :: as) row = (lkR d a.rel).rows.flatMap (wkF d as a.vars row):=by
 rw [dN]; rfl
theorem sj {α β : Type} {f : α -> List β} {l : List α} {i : Nat} (h : i < l.length) : (l.take (i + 1)).flatMap f = (l.take i).flatMap f ++ f l[i]:=by
 rw [Jz h,List.flatMap_append]; simp
theorem yL {d : PDb} {al : List aH} {vs row t : List Int} (h : ∀ a ∈ al,(lkR d a.rel).rows.length <= 16) (h4 : al.length <= 4) : (wkF d al vs row t).length <= 65536:=by
 rw [wkF]
 split
 ·simp
 ·refine Zy (nG al _ h) ?_
  have : 16 ^ al.length <= 16 ^ 4:=Nat.pow_le_pow_right (by omega) h4
  simpa using this
theorem F6 {d : PDb} {al : List aH} {vs row : List Int} {ts : List (List Int)} (h : ∀ a ∈ al,(lkR d a.rel).rows.length <= 16) (h4 : al.length <= 4) : (ts.flatMap (wkF d al vs row)).length <= ts.length * 65536:=by
 induction ts with
 | nil=>simp
 | cons t r ih =>
   rw [List.flatMap_cons,Qw,Qv,Nat.add_mul,Nat.one_mul]
   have:=yL (vs:=vs) (row:=row) (t:=t) h h4
   omega
theorem p8 {l : List Int} {n : Int} (h : cJ l n = true) (h1 : 1 <= n) (hn : n <= 5) : l.length <= 5:=by
 simp only [cJ,Jq,Jk,Xj] at h
 refine dF 5 l h.2 fun x hx=>?_
 have:=h.1 x hx
 rw [aj (by omega) (by omega)] at this
 simp only [inR,Jq,Xj] at this
 omega
theorem Qf.out5 {d : PDb} {q : ab} (f : Qf d q) : q.out.length <= 5:=by
 have h:=f.qok
 have hn:=f.n5
 simp only [aw,Jq] at h
 exact p8 h.1.1.2 hn.1 hn.2
theorem ym : ∀ l : List D,rpL (fun _=>none) (l.map V.d) = some ((erL l).map V.d)
 | []=>rfl
 | x :: r=>by simp only [Qz,rpL,rp,ym r,erL]
theorem CD : ∀ l : List D,rdL (fun _=>none) (fun _=>none) (l.map V.d) = some (l.map V.d)
 | []=>rfl
 | x :: r=>by simp only [Qz,rdL,rd,CD r]
theorem VC.plain2 {P : Program} {f : FuncId} {As : List V} {α β : Type} {c : α -> List D} {e : β -> List D} {pl : α -> β} (he : ∀ a,erL (c a) = e (pl a)) {b : Bool} {p : β} {Q : Nat -> α -> Prop}
  (h : VC P f As (fun n v=>∃ y : α,v = .tup [.agg ((c y).map V.d),.d (.bool b)] /\ pl y = p /\ Q n y)) : VC P f As (fun _ v=>v = .tup [.agg ((e p).map V.d),.d (.bool b)]):=by
 refine VC.plain h (fun n r hr=>?_) ?_
 ·obtain ⟨y,rfl,hp,_⟩:=hr
  simp only [rp,rpL,ym,he,hp,Jg,D.er]
 ·simp only [rd,rdL,CD,Jg]
def lstB (b : UInt8) : List Int:=(aI 5).filter fun v=>decide (fL v = [b])
def lstV (s : List UInt8) : List Int:=s.flatMap lstB
theorem zG {s : List UInt8} {i : Nat} (h : i < s.length) : lstV (s.take (i + 1)) = lstV (s.take i) ++ lstB s[i]:=by
 unfold lstV
 rw [Jz h,List.flatMap_append]
 simp only [List.flatMap_cons,List.flatMap_nil,List.append_nil]
theorem B9 (b : UInt8) : (lstB b).length <= 5:=by
 have:=Xy (fun v=>decide (fL v = [b])) (aI 5)
 rw [lg] at this
 exact this
theorem ur (s : List UInt8) : (lstV s).length <= 5 * s.length:=by
 induction s with
 | nil=>simp [lstV]
 | cons a r ih =>
   have:=B9 a
   simp only [lstV,List.flatMap_cons,Qw,Qv] at ih ⊢; omega
def lstT (b : UInt8) (j : Nat) : List Int:=(aI j).filter fun v=>decide (fL v = [b])
theorem zF (b : UInt8) (j : Nat) : lstT b (j + 1) = lstT b j ++ if fL j = [b] then [(j : Int)] else []:=by
 rw [lstT,en,List.filter_append,lstT]
 congr 1
 by_cases e : fL j = [b] <;> simp [e]
theorem Ca (b : UInt8) (j : Nat) : (lstT b j).length <= j:=by
 have:=Xy (fun v=>decide (fL v = [b])) (aI j)
 rw [lg] at this
 exact this
def vcK (b : UInt8) : Nat -> Int -> Int -> Int
 | 0,_,cur=>cur
 | k + 1,v,cur=>if v < 5 then vcK b k (v + 1) (if fL v = [b] then v + 1 else cur) else cur
theorem vk (b : UInt8) : ∀ (k k' : Nat) (v cur : Int),5 - v <= k -> 5 - v <= k' -> vcK b k v cur = vcK b k' v cur
 | 0,0,_,_,_,_=>rfl
 | 0,k' + 1,v,cur,h,_=>by rw [vcK,vcK,if_neg (by omega)]
 | k + 1,0,v,cur,_,h=>by rw [vcK,vcK,if_neg (by omega)]
 | k + 1, k' + 1, v, cur, h, h' => by
   rw [vcK,vcK]
   split
   ·exact vk b k k' _ _ (by omega) (by omega)
   ·rfl
theorem DD (b : UInt8) : ∀ (k : Nat) (v cur : Int),0 <= v -> 0 <= cur /\ cur <= 5 -> 0 <= vcK b k v cur /\ vcK b k v cur <= 5
 | 0,_,_,_,h=>h
 | k + 1, v, cur, hv, h => by
   rw [vcK]
   split
   ·refine DD b k _ _ (by omega) ?_
    split <;> omega
   ·exact h
def vcB (n : Int) (b : UInt8) : Int:=vcK b 5 n n
structure VcI (b : UInt8) (n : Int) (v cur : Int) : Prop where
 le : 0 <= v /\ v <= 5
 inR5 : 0 <= cur /\ cur <= 5
 eq : vcK b 5 v cur = vcB n b
theorem VcI.zero {b : UInt8} {n : Int} (h : 0 <= n /\ n <= 5) : VcI b n n n:=⟨h,h,rfl⟩
theorem VcI.step {b : UInt8} {n v cur : Int} (h : VcI b n v cur) (hv : v < 5) : VcI b n (v + 1) (if fL v = [b] then v + 1 else cur):=by
 have h1:=h.le
 have h2:=h.inR5
 refine ⟨by omega,by split <;> omega,?_⟩
 have:=h.eq
 rw [vcK,if_pos hv,vk b 4 5 _ _ (by omega) (by omega)] at this
 exact this
theorem VcI.done {b : UInt8} {n v cur : Int} (h : VcI b n v cur) (hv : ¬ v < 5) : vcB n b = cur:=by
 have:=h.eq
 rw [vcK,if_neg hv] at this
 exact this.symm
theorem IK {n : Int} (b : UInt8) (h : 0 <= n /\ n <= 5) : 0 <= vcB n b /\ vcB n b <= 5:=DD b 5 n n h.1 h
def vcS (n : Int) (s : List UInt8) : Int:=s.foldl vcB n
theorem DE {n : Int} {s : List UInt8} {i : Nat} (h : i < s.length) : vcS n (s.take (i + 1)) = vcB (vcS n (s.take i)) s[i]:=by
 rw [Jz h,vcS,List.foldl_append]; rfl
theorem wU : ∀ (s : List UInt8) {n : Int},0 <= n /\ n <= 5 -> 0 <= vcS n s /\ vcS n s <= 5
 | [],_,h=>h
 | b :: s,_,h=>wU s (IK b h)
def prsM (l : List (List UInt8)) : Int:=l.foldl vcS 0
theorem zP {l : List (List UInt8)} {i : Nat} (h : i < l.length) : prsM (l.take (i + 1)) = vcS (prsM (l.take i)) l[i]:=by
 rw [Jz h,prsM,List.foldl_append]; rfl
theorem EY (l : List (List UInt8)) : 0 <= prsM l /\ prsM l <= 5:=by
 have : ∀ (l : List (List UInt8)) (n : Int),0 <= n /\ n <= 5 -> 0 <= l.foldl vcS n /\ l.foldl vcS n <= 5:=fun l=>by
  induction l with
  | nil=>exact fun _ h=>h
  | cons a r ih=>exact fun n h=>ih _ (wU a h)
 exact this l 0 (by omega)
def prsA (s : List UInt8) : aH:=⟨(cutB 40 s).getD 0 [],lstV s⟩
def prsC (s : List UInt8) : ab:=⟨prsM (cutB 44 ((cutB 61 s).getD 1 [])),(cutB 44 ((cutB 61 s).getD 1 [])).map prsA,lstV ((cutB 61 s).getD 0 [])⟩
def fmtA (a : aH) : List UInt8:=a.rel ++ ([40] ++ jc a.vars ++ [41])
def fmtQ (q : ab) : List UInt8:=if aw q then ([40] ++ jc q.out ++ [41]) ++ [61] ++ ir [44] (q.atoms.map fmtA) else []
def nU (s : List UInt8) : Bool:=decide ((cutB 61 s).length = 2) && decide (fmtQ (prsC s) = s) && decide (s ≠ [])
def prsP (s : List UInt8) : ab:=if nU s then prsC s else ⟨0,[],[]⟩
theorem dG {q : ab} (h : aw q = true) : q.atoms.length <= 4 /\ q.out.length <= 5 /\ ∀ a ∈ q.atoms,a.rel.length <= 4 /\ a.vars.length <= 5:=by
 have hn:=bq h
 simp only [aw,Jq,inR,Xj,Jk] at h
 obtain ⟨⟨⟨⟨_,ha⟩,ho⟩,hat⟩,_⟩:=h
 refine ⟨by omega,?_,fun a hm=>?_⟩
 ·simp only [cJ,Jq,Xj,Jk] at ho
  refine dF 5 q.out ho.2 fun x hx=>?_
  have:=ho.1 x hx
  rw [aj (by omega) (by omega)] at this
  simp only [inR,Jq,Xj] at this
  omega
 ·have:=hat a hm
  simp only [b6,dc,Jq,inR,Xj] at this
  exact ⟨by omega,by omega⟩
def jl : List (List UInt8):=[[40,88,89,90,41,61,114,40,88,89,41,44,115,40,89,90,41,44,116,40,90,88,41],
 [40,88,89,90,85,41,61,114,40,88,89,41,44,115,40,89,90,41,44,116,40,90,85,41,44,117,40,85,88,41],
 [40,88,89,90,41,61,114,40,88,89,41,44,115,40,89,90,41],
 [40,88,41,61,114,40,88,89,41,44,115,40,89,90,41,44,116,40,90,85,41],
 [40,88,89,90,41,61,118,40,88,89,90,41,44,114,40,88,89,41],
 [40,88,89,41,61,114,40,88,89,41,44,114,40,89,88,41],
 [40,88,89,90,85,41,61,118,40,88,89,90,41,44,115,40,90,85,41,44,116,40,85,88,41],
 [40,88,41,61,114,40,88,88,41],
 [40,88,89,41,61,114,40,88,90,41,44,115,40,90,89,41,44,114,40,88,85,41,44,115,40,85,89,41],
 [40,41,61,114,40,88,89,41,44,115,40,89,88,41],
 [40,88,89,90,85,86,41,61,114,40,88,89,41,44,115,40,89,90,41,44,116,40,90,85,41,44,117,40,85,86,41]]
def jB : ab:=⟨5,[⟨[114],[0,1]⟩,⟨[115],[1,2]⟩,⟨[116],[2,3]⟩,⟨[117],[3,4]⟩],[0,1,2,3,4]⟩
def iE (q : ab) : Prop:=q.n <= 4 \/ q = jB
theorem zC : ∀ s ∈ jl,s.length <= 40:=by decide
theorem uk : ∀ s ∈ jl,iE (prsP s):=by
 have h : (jl.all fun s=>decide ((prsP s).n <= 4) || decide (prsP s = jB)) = true:=by decide +kernel
 intro s hs
 have:=Jk.1 h s hs
 simpa [iE] using this
theorem B4 : ∀ s ∈ jl,aw (prsP s) = true:=by
 have h : (jl.all fun s=>aw (prsP s)) = true:=by decide +kernel
 exact Jk.1 h
structure QA (q : ab) : Prop where
 sm : aw q = true -> iE q
 al : q.atoms.length <= 10
 ol : q.out.length <= 10
 aa : ∀ a ∈ q.atoms,a.rel.length <= 10 /\ a.vars.length <= 10
theorem QA.of {q : ab} (h : aw q = true) (hs : iE q) : QA q:=by
 have:=dG h
 exact ⟨fun _=>hs,by omega,by omega,fun a ha=>by have:=this.2.2 a ha; omega⟩
theorem mA {q : ab} (h : aw q = true) : (∀ a ∈ q.atoms,1 <= a.vars.length /\ ∀ v ∈ a.vars,0 <= v /\ v < q.n) /\ (∀ j : Int,0 <= j -> j < q.n -> j ∈ br q.atoms) /\ 1 <= q.atoms.length:=by
 have hn:=bq h
 simp only [aw,Jq,inR,Xj,Jk] at h
 obtain ⟨⟨⟨⟨_,ha⟩,_⟩,hat⟩,hu⟩:=h
 refine ⟨fun a hm=>?_,fun j hj0 hj=>?_,by omega⟩
 ·have:=hat a hm
  simp only [b6,Jq,Jk,inR,Xj] at this
  refine ⟨by omega,fun v hv=>?_⟩
  have h2:=this.2 v hv
  rw [aj (by omega) (by omega)] at h2
  omega
 ·simp only [eX,Jk,Zg,Zw] at hu
  have:=hu j.toNat (by omega)
  rwa [Int.toNat_of_nonneg hj0] at this
theorem QA.n {q : ab} (h : aw q = true) {m : Int} (hm : m ∈ [0,6,q.n + 1]) : QA ⟨m,q.atoms,q.out⟩:=by
 have:=dG h
 have hv:=mA h
 have hn:=bq h
 refine ⟨fun hk=>?_,by simp only; omega,by simp only; omega,fun a ha=>by have:=this.2.2 a ha; omega⟩
 have hn2:=bq hk
 have hv2:=(mA hk).2.1
 simp only at hn2 hv2
 simp only [Zz,List.not_mem_nil,or_false] at hm
 have e : m = q.n + 1:=by omega
 subst e
 have h3:=hv2 q.n (by omega) (by omega)
 simp only [br,List.mem_flatMap] at h3
 obtain ⟨a,ha,hva⟩:=h3
 have:=(hv.1 a ha).2 q.n hva
 omega
theorem QA.atom {q : ab} (h : aw q = true) (hs : iE q) {nm : List UInt8} (hl : nm.length <= 10) : QA ⟨q.n,q.atoms ++ [⟨nm,[0]⟩],q.out⟩:=by
 have:=dG h
 refine ⟨fun hk=>?_,by simp; omega,by simp only; omega,fun a ha=>?_⟩
 ·rcases hs with hs | rfl
  ·exact .inl hs
  ·have:=(dG hk).1
   simp [jB] at this
 ·rcases Qq.1 ha with ha | ha
  ·have:=this.2.2 a ha; omega
  ·rw [Qg.1 ha]; exact ⟨hl,by simp⟩
theorem QA.out {q : ab} (h : aw q = true) (hs : iE q) {v : Int} : QA ⟨q.n,q.atoms,q.out ++ [v]⟩:=by
 have:=dG h
 refine ⟨fun hk=>?_,by simp only; omega,by simp; omega,fun a ha=>by have:=this.2.2 a ha; omega⟩
 rcases hs with hs | rfl
 ·exact .inl hs
 ·have:=(dG hk).2.1
  simp [jB] at this
theorem QA.set {n : Int} {a a' : aH} {l : List aH} {o : List Int} (h : aw ⟨n,a :: l,o⟩ = true) (hs : iE ⟨n,a :: l,o⟩) (hr : a'.rel = a.rel) (hv : a'.vars.length <= a.vars.length) (hbad : a'.vars = [] \/ (∃ v ∈ a'.vars,v < 0 \/ 5 <= v)) : QA ⟨n,a' :: l,o⟩:=by
 have:=dG h
 simp only [Qv] at this
 refine ⟨fun hk=>?_,by simp only [Qv]; omega,by simp only; omega,fun x hx=>?_⟩
 ·have hn:=bq hk
  have h2:=(mA hk).1 a' (by simp)
  simp only at hn h2
  rcases hbad with hb | ⟨v,hm,hb⟩
  ·rw [hb] at h2; simp at h2
  ·have:=h2.2 v hm; omega
 ·rcases Zz.1 hx with hx | hx
  ·have:=this.2.2 a (by simp)
   rw [hx,hr]; omega
  ·have:=this.2.2 x (by simp [hx]); omega
def nbrB (q : ab) (v w : Int) : Bool:=!(decide (w = v)) && q.atoms.any fun a=>a.vars.contains v && a.vars.contains w
def nbrL (q : ab) (v : Int) : List Int:=if aw q then (aI q.n.toNat).filter (nbrB q v) else []
def comL (a b : List Int) : List Int:=a.filter fun x=>b.contains x
def iv (q : ab) (o : List Int) : Bool:=aw q && decide ((o.length : Int) = q.n) && cJ o q.n
def dcM (q : ab) (o : List Int) : Nat -> Int -> Int -> Bool
 | 0,a,b=>nbrB q a b
 | i + 1,a,b=>dcM q o i a b || (!(decide (a = b)) && (decide (a = o.getD i 0) || (dcM q o i (o.getD i 0) a && !(o.take i).contains a)) && (decide (b = o.getD i 0) || (dcM q o i (o.getD i 0) b && !(o.take i).contains b)))
def dcI (q : ab) (o : List Int) (i : Nat) (v : Int) : Bool:=decide (v = o.getD i 0) || (dcM q o i (o.getD i 0) v && !(o.take i).contains v)
def cw (q : ab) (o : List Int) (i : Nat) : List Int:=(aI q.n.toNat).filter (dcI q o i)
def xq (q : ab) (o : List Int) (i : Nat) : List Int:=(aI q.n.toNat).filter fun v=>dcM q o i (o.getD i 0) v && (o.drop (i + 1)).contains v
def fR (o l : List Int) : Nat -> Nat -> Option Nat
 | 0,_=>none
 | m + 1,k=>if l.contains (o.getD k 0) then some k else fR o l m (k + 1)
def dcUp (q : ab) (o : List Int) (i : Nat) : Int:=
 if i + 1 = o.length then -1 else match fR o (cw q o i) (o.length - (i + 1)) (i + 1) with
 | some k=>k
 | none=>i + 1
def dcP (q : ab) (o : List Int) : PDec:=if iv q o then ⟨(List.range o.length).map (cw q o),(List.range o.length).map (dcUp q o)⟩ else ⟨[],[]⟩
theorem l6 (q : ab) (o : List Int) (i : Nat) (a b : Int) : dcM q o (i + 1) a b = (dcM q o i a b || (!(decide (a = b)) && dcI q o i a && dcI q o i b)):=rfl
theorem xr (q : ab) (o : List Int) : ∀ i a,dcM q o i a a = false
 | 0,a=>by simp [dcM,nbrB]
 | i + 1,a=>by rw [l6,xr q o i a]; simp
theorem ni {n : Nat} {p : Int -> Bool} : ((aI n).filter p).Pairwise (· < ·):=List.Pairwise.filter _ (gy n)
structure Od (q : ab) (o : List Int) : Prop where
 qok : aw q = true
 len : (o.length : Int) = q.n
 nd : o.Nodup
 rng : ∀ v ∈ o,0 <= v /\ v < q.n
 n5 : 1 <= q.n /\ q.n <= 5
theorem xY {q : ab} {o : List Int} (h : iv q o = true) : Od q o:=by
 simp only [iv,Jq,Xj] at h
 obtain ⟨⟨h1,h2⟩,h3⟩:=h
 have hn : 1 <= q.n /\ q.n <= 5:=by
  simp only [aw,inR,Jq,Xj] at h1
  omega
 simp only [cJ,Jq,Jk,Xj] at h3
 refine ⟨h1,h2,h3.2,fun v hv=>?_,hn⟩
 have:=h3.1 v hv
 rw [aj (by omega) (by omega)] at this
 simp only [inR,Jq,Xj] at this
 omega
theorem Od.all {q : ab} {o : List Int} (h : Od q o) {v : Int} (h0 : 0 <= v) (h1 : v < q.n) : v ∈ o:=by
 refine Xv fun hn=>?_
 have:=dF (o.length) (v :: o) (List.nodup_cons.2 ⟨hn,h.nd⟩) fun x hx=>by
  rcases Zz.1 hx with rfl | hx
  ·have:=h.len; omega
  ·have:=h.rng x hx; have:=h.len; omega
 simp at this; omega
theorem Od.at {q : ab} {o : List Int} {i : Nat} (hi : i < o.length) : o.getD i 0 = o[i]:=by simp [List.getD_eq_getElem?_getD,Jw hi]
theorem Od.split {q : ab} {o : List Int} (h : Od q o) {i : Nat} (hi : i < o.length) {v : Int} (h0 : 0 <= v) (h1 : v < q.n) : v ∈ o.drop (i + 1) ↔ v ∉ o.take i /\ v ≠ o[i]:=by
 have e : o = o.take i ++ o[i] :: o.drop (i + 1):=by rw [<- List.drop_eq_getElem_cons hi,List.take_append_drop]
 have hnd:=h.nd
 rw [e] at hnd
 obtain ⟨n1,n2,n3⟩:=List.nodup_append.1 hnd
 obtain ⟨n4,n5⟩:=List.nodup_cons.1 n2
 have hm:=h.all h0 h1
 rw [e,Qq,Zz] at hm
 constructor
 ·intro hv
  exact ⟨fun ht=>n3 v ht v (List.mem_cons_of_mem _ hv) rfl,fun he=>n4 (he ▸ hv)⟩
 ·rintro ⟨h3,h4⟩
  rcases hm with hm | hm | hm
  ·exact absurd hm h3
  ·exact absurd hm h4
  ·exact hm
theorem ml {q : ab} {o : List Int} (h : Od q o) {i : Nat} (hi : i < o.length) (v : Int) : v ∈ xq q o i ↔ 0 <= v /\ v < q.n /\ dcM q o i o[i] v = true /\ v ∉ o.take i:=by
 rw [xq,List.mem_filter,b8,Od.at (q:=q) hi,Jq,Zw]
 constructor
 ·rintro ⟨h0,h1,h2⟩
  exact ⟨h0.1,by omega,h1,((h.split hi h0.1 (by omega)).1 h2).1⟩
 ·rintro ⟨h0,h1,h2,h3⟩
  refine ⟨⟨h0,by omega⟩,h2,(h.split hi h0 h1).2 ⟨h3,fun e=>?_⟩⟩
  rw [e,xr] at h2; cases h2
theorem fW {q : ab} {o : List Int} (h : Od q o) {i : Nat} (hi : i < o.length) (v : Int) : v ∈ cw q o i ↔ v = o[i] \/ v ∈ xq q o i:=by
 rw [ml h hi,cw,List.mem_filter,b8,dcI,Od.at (q:=q) hi]
 simp only [Xx,Xj,Jq,Bool.not_eq_true',<- Bool.not_eq_true,Zw]
 have:=h.rng o[i] (Jy hi)
 constructor
 ·rintro ⟨h0,h1 | h1⟩
  ·exact .inl h1
  ·exact .inr ⟨h0.1,by omega,h1.1,h1.2⟩
 ·rintro (h1 | h1)
  ·exact ⟨by omega,.inl h1⟩
  ·exact ⟨by omega,.inr h1.2.2⟩
theorem xp {q : ab} {o : List Int} (h : Od q o) {i : Nat} (hi : i < o.length) {v : Int} (h0 : 0 <= v) (h1 : v < q.n) : dcI q o i v = true ↔ v = o[i] \/ v ∈ xq q o i:=by
 rw [<- fW h hi,cw,List.mem_filter,b8]
 exact ⟨fun e=>⟨by omega,e⟩,fun e=>e.2⟩
theorem D4 {q : ab} (h : aw q = true) : ∀ a ∈ q.atoms,∀ w ∈ a.vars,0 <= w /\ w < q.n:=by
 have hn:=bq h
 intro a ha w hw
 simp only [aw,Jq,Jk] at h
 have:=h.1.2 a ha
 simp only [b6,Jq,Jk] at this
 have:=this.2 w hw
 rw [aj (by omega) (by omega)] at this
 simp only [inR,Jq,Xj] at this
 omega
def mtx (n : Nat) (f : Int -> Int -> Bool) : List Bool:=(List.range (n * n)).map fun k=>f ((k / n : Nat) : Int) ((k % n : Nat) : Int)
@[simp] theorem jm (n : Nat) (f : Int -> Int -> Bool) : (mtx n f).length = n * n:=by simp [mtx]
theorem Cd {n a b : Nat} (hn : n <= 5) (ha : a < n) (hb : b < n) : a * n + b < n * n /\ a * n <= 20:=by
 have h1 : a * n <= (n - 1) * n:=Zk n (by omega)
 have h2 : (n - 1) * n + n = n * n:=by
  have : (n - 1 + 1) * n = n * n:=by rw [show n - 1 + 1 = n by omega]
  rw [<- this,Nat.add_mul]; omega
 have h3 : n * n <= 5 * n:=Zk n hn
 refine ⟨by omega,?_⟩
 have h4 : (n - 1) * n <= 4 * n:=Zk n (by omega)
 omega
theorem Gv {n : Nat} (hn : n <= 5) : n * n <= 25:=by
 have h3 : n * n <= 5 * n:=Zk n hn
 omega
theorem Cc {n a b : Nat} (hb : b < n) : (a * n + b) / n = a /\ (a * n + b) % n = b:=by
 constructor
 ·rw [Nat.add_comm,Nat.add_mul_div_right _ _ (by omega),Nat.div_eq_of_lt hb]; omega
 ·rw [Nat.add_comm,Nat.add_mul_mod_self_right,Nat.mod_eq_of_lt hb]
theorem sw {n a b : Nat} {f : Int -> Int -> Bool} (hb : b < n) (h : a * n + b < (mtx n f).length) : (mtx n f)[a * n + b] = f a b:=by
 simp only [mtx,List.getElem_map,List.getElem_range,(Cc hb).1,(Cc hb).2]
theorem el {n : Nat} {f g : Int -> Int -> Bool} (h : ∀ a b : Nat,a < n -> b < n -> f a b = g a b) : mtx n f = mtx n g:=by
 refine List.map_congr_left fun k hk=>?_
 rw [Zg] at hk
 have hn : 0 < n:=by
  rcases Nat.eq_zero_or_pos n with h0 | h0
  ·subst h0; simp at hk
  ·exact h0
 exact h _ _ (Nat.div_lt_of_lt_mul hk) (Nat.mod_lt _ hn)
theorem xV {n a b : Nat} {f g : Int -> Int -> Bool} {c : Bool} (hb : b < n) (hc : g a b = c) (h : ∀ x y : Nat,x < n -> y < n -> ¬ (x = a /\ y = b) -> g x y = f x y) :
  (mtx n f).set (a * n + b) c = mtx n g:=by
 refine List.ext_getElem (by simp) fun k h1 h2=>?_
 rw [List.getElem_set]
 simp only [List.length_set,jm] at h1
 by_cases e : a * n + b = k
 ·subst e
  rw [if_pos rfl,sw hb,hc]
 ·rw [if_neg e]
  simp only [mtx,List.getElem_map,List.getElem_range]
  have hn : 0 < n:=by omega
  refine (h _ _ (Nat.div_lt_of_lt_mul h1) (Nat.mod_lt _ hn) fun he=>e ?_).symm
  rw [<- he.1,<- he.2,Nat.mul_comm]; exact Nat.div_add_mod k n
def jnA (q : ab) (i : Nat) (x y : Int) : Bool:=decide (x < i) && nbrB q x y
def jnB (q : ab) (i : Nat) (l : List Int) (j : Nat) (x y : Int) : Bool:=jnA q i x y || (decide (x = i) && (l.take j).contains y)
theorem BW (q : ab) (n : Nat) : mtx n (jnA q 0) = mtx n fun _ _=>false:=el fun a b _ _=>by
 have : ¬ ((a : Int) < (0 : Nat)):=by omega
 simp only [jnA,decide_eq_false this,Zh]
theorem BY (q : ab) (i n : Nat) (l : List Int) : mtx n (jnB q i l 0) = mtx n (jnA q i):=el fun a b _ _=>by simp [jnB]
theorem EB (q : ab) (o : List Int) (n : Nat) : mtx n (jnA q n) = mtx n (dcM q o 0):=el fun a b ha _=>by
 have : (a : Int) < (n : Nat):=by omega
 simp only [jnA,decide_eq_true this,Bool.true_and,dcM]
theorem BX {q : ab} {i n j b : Nat} {l : List Int} (hj : j < l.length) (hb : l[j] = (b : Int)) (hbn : b < n) : (mtx n (jnB q i l j)).set (i * n + b) true = mtx n (jnB q i l (j + 1)):=by
 refine xV hbn ?_ fun x y _ _ h=>?_
 ·simp only [jnB,Jz hj,hb]
  simp
 ·simp only [jnB,Jz hj,hb]
  by_cases e : (x : Int) = i
  ·have : ¬ (y : Int) = b:=fun e2=>h ⟨by omega,by omega⟩
   congr 2
   rw [Bool.eq_iff_iff]
   simp [show ¬ y = b by omega]
  ·simp [show ¬ x = i by omega]
theorem EC {q : ab} {i n : Nat} (hq : aw q = true) (hn : q.n = n) (hi : i < n) : mtx n (jnB q i (nbrL q i) (nbrL q i).length) = mtx n (jnA q (i + 1)):=by
 refine el fun x y hx hy=>?_
 rw [jnB,List.take_length,nbrL,if_pos hq,jnA,jnA]
 by_cases e : (x : Int) = i
 ·have hx' : x = i:=by omega
  subst hx'
  rw [decide_eq_false (show ¬ (x : Int) < (x : Nat) by omega),decide_eq_true (show (x : Int) < ((x + 1 : Nat) : Int) by omega)]
  simp only [Zh,Bool.false_or,decide_true,Bool.true_and]
  rw [Bool.eq_iff_iff,Zw,List.mem_filter,b8]
  constructor
  ·rintro ⟨_,h⟩; exact h
  ·intro h; exact ⟨by rw [hn]; omega,h⟩
 ·rw [decide_eq_false e,Zh,Bool.or_false]
  congr 2
  apply propext; omega
def ffA (bag : List Int) (f : Int -> Int -> Bool) (a : Nat) (x y : Int) : Bool:=f x y || ((bag.take a).contains x && bag.contains y && !(decide (x = y)))
def ffB (bag : List Int) (f : Int -> Int -> Bool) (a b : Nat) (x y : Int) : Bool:=ffA bag f a x y || (decide (x = bag.getD a 0) && (bag.take b).contains y && !(decide (x = y)))
theorem Bh (bag : List Int) (f : Int -> Int -> Bool) (n : Nat) : mtx n (ffA bag f 0) = mtx n f:=el fun a b _ _=>by simp [ffA]
theorem Bj (bag : List Int) (f : Int -> Int -> Bool) (n a : Nat) : mtx n (ffB bag f a 0) = mtx n (ffA bag f a):=el fun x y _ _=>by simp [ffB]
theorem En {bag : List Int} (f : Int -> Int -> Bool) (n : Nat) {a : Nat} (ha : a < bag.length) : mtx n (ffB bag f a bag.length) = mtx n (ffA bag f (a + 1)):=el fun x y _ _=>by
 simp only [ffB,ffA,List.take_length,ak _ ha,Jz ha]
 rw [Bool.eq_iff_iff]
 simp only [Xx,Jq,Zw,Qq,Qg,Xj]
 constructor
 ·rintro ((h | ⟨⟨h1,h2⟩,h3⟩) | ⟨⟨h1,h2⟩,h3⟩)
  ·exact .inl h
  ·exact .inr ⟨⟨.inl h1,h2⟩,h3⟩
  ·exact .inr ⟨⟨.inr h1,h2⟩,h3⟩
 ·rintro (h | ⟨⟨h1 | h1,h2⟩,h3⟩)
  ·exact .inl (.inl h)
  ·exact .inl (.inr ⟨⟨h1,h2⟩,h3⟩)
  ·exact .inr ⟨⟨h1,h2⟩,h3⟩
theorem iV {l : List Int} (h : l.Nodup) {i j : Nat} (hi : i < l.length) (hj : j < l.length) (e : l[i] = l[j]) : i = j:=by
 rw [List.Nodup,List.pairwise_iff_getElem] at h
 rcases Nat.lt_trichotomy i j with h1 | h1 | h1
 ·exact absurd e (h i j hi hj h1)
 ·exact h1
 ·exact absurd e.symm (h j i hj hi h1)
theorem Bi {bag : List Int} (hnd : bag.Nodup) (f : Int -> Int -> Bool) {n a b u v : Nat} (ha : a < bag.length) (hb : b < bag.length) (hu : bag[a] = (u : Int)) (hv : bag[b] = (v : Int)) (hvn : v < n) {c : Bool}
  (hc : c = (ffB bag f a b u v || !(decide (a = b)))) : (mtx n (ffB bag f a b)).set (u * n + v) c = mtx n (ffB bag f a (b + 1)):=by
 have hab : decide (a = b) = decide ((u : Int) = v):=by
  congr 1; apply propext
  rw [<- hu,<- hv]
  exact ⟨fun e=>by subst e; rfl,fun e=>iV hnd ha hb e⟩
 refine xV hvn ?_ fun x y _ _ h=>?_
 ·rw [hc,hab]
  simp only [ffB,ak _ ha,hu,Jz hb,hv]
  rw [Bool.eq_iff_iff]
  simp only [Xx,Jq,Zw,Qq,Qg,Xj]
  constructor
  ·rintro (h | ⟨⟨h1,_⟩,h3⟩)
   ·exact .inl (.inl h)
   ·exact .inr h3
  ·rintro ((h | ⟨⟨h1,h2⟩,h3⟩) | h)
   ·exact .inl h
   ·exact .inr ⟨⟨by trivial,.inr (by trivial)⟩,h3⟩
   ·exact .inr ⟨⟨by trivial,.inr (by trivial)⟩,h⟩
 ·simp only [ffB,ak _ ha,hu,Jz hb,hv]
  rw [Bool.eq_iff_iff]
  simp only [Xx,Jq,Zw,Qq,Qg,Xj]
  constructor
  ·rintro (h1 | ⟨⟨h1,h2 | h2⟩,h3⟩)
   ·exact .inl h1
   ·exact .inr ⟨⟨h1,h2⟩,h3⟩
   ·exact absurd ⟨by omega,by omega⟩ h
  ·rintro (h1 | ⟨⟨h1,h2⟩,h3⟩)
   ·exact .inl h1
   ·exact .inr ⟨⟨h1,.inl h2⟩,h3⟩
theorem Em {q : ab} {o : List Int} {n i : Nat} (hn : q.n = n) : mtx n (ffA (cw q o i) (dcM q o i) (cw q o i).length) = mtx n (dcM q o (i + 1)):=el fun x y hx hy=>by
 have hm : ∀ z : Nat,z < n -> (cw q o i).contains (z : Int) = dcI q o i z:=fun z hz=>by
  rw [Bool.eq_iff_iff,Zw,cw,List.mem_filter,b8]
  constructor
  ·exact fun h=>h.2
  ·exact fun h=>⟨by rw [hn]; omega,h⟩
 rw [ffA,List.take_length,l6,hm x hx,hm y hy]
 cases dcM q o i x y <;> cases dcI q o i x <;> cases dcI q o i y <;> simp
def upV (o bag : List Int) (i : Nat) : Nat:=match fR o bag (o.length - (i + 1)) (i + 1) with
 | some k=>k
 | none=>i + 1
theorem Ed (q : ab) (o : List Int) (i : Nat) : dcUp q o i = if i + 1 = o.length then -1 else ((upV o (cw q o i) i : Nat) : Int):=by
 rw [dcUp,upV]
 split
 ·rfl
 ·cases fR o (cw q o i) (o.length - (i + 1)) (i + 1) <;> rfl
structure UpI (o bag : List Int) (i : Nat) (p : Nat × Bool × Nat) : Prop where
 le : i + 1 <= p.2.2 /\ p.2.2 <= o.length
 go : p.2.1 = true -> p.1 = i + 1 /\ fR o bag (o.length - (i + 1)) (i + 1) = fR o bag (o.length - p.2.2) p.2.2
 fd : p.2.1 = false -> p.1 = upV o bag i
theorem UpI.zero {o bag : List Int} {i : Nat} (h : i < o.length) : UpI o bag i (i + 1,true,i + 1):=⟨⟨Jv _,h⟩,fun _=>⟨rfl,rfl⟩,nofun⟩
theorem BE {o bag : List Int} {k : Nat} (h : k < o.length) : fR o bag (o.length - k) k = if bag.contains o[k] then some k else fR o bag (o.length - (k + 1)) (k + 1):=by
 rw [show o.length - k = (o.length - (k + 1)) + 1 by omega,fR,ak _ h]
theorem UpI.hit {o bag : List Int} {i u k : Nat} (h : UpI o bag i (u,true,k)) (hk : k < o.length) (hb : bag.contains o[k] = true) : UpI o bag i (k,false,k + 1):=by
 have h1:=h.le
 have h2:=(h.go rfl).2
 simp only at h1 h2
 refine ⟨⟨by simp only; omega,hk⟩,nofun,fun _=>?_⟩
 rw [BE hk,if_pos hb] at h2
 rw [upV,h2]
theorem UpI.miss {o bag : List Int} {i u k : Nat} (h : UpI o bag i (u,true,k)) (hk : k < o.length) (hb : bag.contains o[k] = false) : UpI o bag i (u,true,k + 1):=by
 have h1:=h.le
 have h2:=h.go rfl
 simp only at h1 h2
 refine ⟨⟨by simp only; omega,hk⟩,fun _=>⟨h2.1,?_⟩,nofun⟩
 have h3:=h2.2
 rw [BE hk,if_neg (by simp only [hb]; simp)] at h3
 exact h3
theorem UpI.done {o bag : List Int} {i u k : Nat} {s : Bool} (h : UpI o bag i (u,s,k)) (hk : ¬ (k < o.length /\ s = true)) : u = upV o bag i:=by
 cases s with
 | false=>exact h.fd rfl
 | true =>
   have h1:=h.le
   have h2:=h.go rfl
   simp only at h1 h2
   have hk' : k = o.length:=by
    by_cases e : k < o.length
    ·exact absurd ⟨e,rfl⟩ hk
    ·omega
   rw [upV,h2.2,hk',Nat.sub_self,fR]; exact h2.1
theorem Hy (q : ab) {n S : Nat} (h : S = n * n) : List.replicate S [D.bool false] = (mtx n (jnA q 0)).map cB:=by
 rw [BW,h]
 refine List.ext_getElem (by simp) fun k h1 h2=>?_
 simp [mtx,cB]
theorem dcM0 (q : ab) (o : List Int) : dcM q o 0 = nbrB q:=rfl
theorem Gs : ∀ l : List Bool,idsLL (l.map cB) = []
 | []=>rfl
 | b :: l=>by simp [idsLL,idsL,D.ids,cB,Gs l]
def dotF : Nat -> (Nat -> Xw) -> (Nat -> Xw) -> Xw
 | 0,_,_=>0
 | n + 1,a,x=>dotF n a x + a n * x n
theorem b7 {a a' x x' : Nat -> Xw} : ∀ {n : Nat},(∀ k,k < n -> a k = a' k) -> (∀ k,k < n -> x k = x' k) -> dotF n a x = dotF n a' x'
 | 0,_,_=>rfl
 | n + 1, h, h' => by
   rw [dotF,dotF,b7 (n:=n) (fun k hk=>h k (by omega)) (fun k hk=>h' k (by omega)),h n (by omega),h' n (by omega)]
theorem iO (a x y : Nat -> Xw) : ∀ n : Nat,dotF n a (fun k=>x k + y k) = dotF n a x + dotF n a y
 | 0=>by simp only [dotF]; grind
 | n + 1 => by
   simp only [dotF,iO a x y n]
   grind
theorem gu (a x : Nat -> Xw) (t : Xw) : ∀ n : Nat,dotF n a (fun k=>t * x k) = t * dotF n a x
 | 0=>by simp [dotF]
 | n + 1 => by
   simp only [dotF,gu a x t n]
   grind
theorem cg (a x : Nat -> Xw) : ∀ n : Nat,dotF n a x = dotF n x a
 | 0=>rfl
 | n + 1=>by rw [dotF,dotF,cg a x n,Rat.mul_comm]
theorem dotF_zero {a x : Nat -> Xw} : ∀ {n : Nat},(∀ k,k < n -> a k * x k = 0) -> dotF n a x = 0
 | 0,_=>rfl
 | n + 1, h => by
   rw [dotF,dotF_zero (n:=n) (fun k hk=>h k (by omega)),h n (by omega)]
   grind
theorem jM {a x : Nat -> Xw} : ∀ {n : Nat},(∀ k,k < n -> 0 <= a k * x k) -> 0 <= dotF n a x
 | 0,_=>by simp [dotF]
 | n + 1, h => by
   have h1:=jM (n:=n) (fun k hk=>h k (by omega))
   have h2:=h n (by omega)
   rw [dotF]
   grind
theorem fB {a x : Nat -> Xw} {j : Nat} : ∀ {n : Nat},j < n -> (∀ k,k < n -> k ≠ j -> a k * x k = 0) -> dotF n a x = a j * x j
 | 0,h,_=>by omega
 | n + 1, h, hz => by
   rw [dotF]
   by_cases e : j = n
   ·subst e
    rw [dotF_zero fun k hk=>hz k (by omega) (by omega)]
    grind
   ·rw [fB (n:=n) (by omega) fun k hk=>hz k (by omega),hz n (by omega) (by omega)]
    grind
theorem qS (c : Nat -> Xw) (B : Nat -> Nat -> Xw) (y : Nat -> Xw) (n : Nat) : ∀ m : Nat,dotF m c (fun i=>dotF n (B i) y) = dotF n (fun k=>dotF m c (fun i=>B i k)) y
 | 0 => by rw [dotF_zero (n := n)]; · rfl
           intro k _; simp [dotF]
 | m + 1 => by
   rw [dotF,qS c B y n m]
   simp only [dotF]
   rw [cg (fun k=>dotF m c (fun i=>B i k) + c m * B m k),iO,gu,cg y,cg y]
theorem BI : ∀ (n : Nat) (A : List (Nat -> Xw)),A.length < n -> ∃ y : Nat -> Xw,(∃ k,k < n /\ y k ≠ 0) /\ ∀ a ∈ A,dotF n a y = 0
 | 0,_,h=>by omega
 | n + 1, A, h => by
   by_cases hA : ∀ a ∈ A,a n = 0
   ·refine ⟨fun k=>if k = n then 1 else 0,⟨n,by omega,by simp⟩,fun a ha=>?_⟩
    refine dotF_zero fun k hk=>?_
    by_cases e : k = n
    ·rw [e,hA a ha]; grind
    ·simp only [if_neg e]; grind
   ·have : ∃ a0,a0 ∈ A /\ a0 n ≠ 0:=by
     refine Xv fun hn=>hA fun a ha=>Xv fun h'=>hn ⟨a,ha,h'⟩
    obtain ⟨a0,h0,hne⟩:=this
    obtain ⟨s,t,rfl⟩:=List.append_of_mem h0
    obtain ⟨y,⟨k,hk,hy⟩,hz⟩:=BI n ((s ++ t).map fun a k=>a k - a n / a0 n * a0 k) (by simp at h ⊢; omega)
    have hd : ∀ a : Nat -> Xw,dotF (n + 1) a (fun k=>if k = n then - dotF n a0 y / a0 n else y k) = dotF n a y + a n * (- dotF n a0 y / a0 n):=fun a=>by
     rw [dotF]
     simp only [if_true]
     rw [b7 (a:=a) (a':=a) (x':=y) (fun _ _=>rfl) (fun k hk=>if_neg (by omega))]
    refine ⟨fun k=>if k = n then - dotF n a0 y / a0 n else y k,⟨k,by omega,by simp only [if_neg (show ¬ k = n by omega)]; exact hy⟩,fun a ha=>?_⟩
    rw [hd]
    have hsub : ∀ a ∈ s ++ t,dotF n a y = a n / a0 n * dotF n a0 y:=fun a ha=>by
     have h1:=hz _ (List.mem_map_of_mem ha)
     have h2 : dotF n (fun k=>a k - a n / a0 n * a0 k) y = dotF n a y - a n / a0 n * dotF n a0 y:=by
      rw [cg,cg a,cg a0,show (fun k=>a k - a n / a0 n * a0 k) = fun k=>a k + (-(a n / a0 n)) * a0 k from funext fun k=>by grind,iO,gu]
      grind
     rw [h2] at h1
     grind
    rcases Qq.1 ha with ha | ha
    ·rw [hsub a (List.mem_append_left _ ha)]; grind
    ·rcases Zz.1 ha with rfl | ha
     ·grind
     ·rw [hsub a (List.mem_append_right _ ha)]; grind
theorem gd {α : Type} {l : List α} {i : Nat} {d : α} (h : i < l.length) : l.getD i d = l[i]:=by simp [List.getD,h]
def Ker (n : Nat) (A : List (Nat -> Xw)) : Prop:=∀ y : Nat -> Xw,(∀ a ∈ A,dotF n a y = 0) -> ∀ k,k < n -> y k = 0
theorem xO {n : Nat} : ∀ (m : Nat) (A : List (Nat -> Xw)),A.length <= m -> Ker n A -> ∃ B : List (Nat -> Xw),B.Sublist A /\ B.length = n /\ Ker n B
 | m, A, hm, hA => by
   by_cases h1 : A.length < n
   ·obtain ⟨y,⟨k,hk,hy⟩,hz⟩:=BI n A h1
    exact absurd (hA y hz k hk) hy
   by_cases h2 : A.length = n
   ·exact ⟨A,.refl _,h2,hA⟩
   cases m with
   | zero=>omega
   | succ m =>
     obtain ⟨c,⟨j,hj,hc⟩,hz⟩:=BI A.length ((List.range n).map fun k i=>A.getD i (fun _=>0) k) (by simp; omega)
     have hz' : ∀ k,k < n -> dotF A.length c (fun i=>A.getD i (fun _=>0) k) = 0:=fun k hk=>by
      rw [cg]
      exact hz _ (Xz.2 ⟨k,Zg.2 hk,rfl⟩)
     have hK : Ker n (A.eraseIdx j):=fun y hy=>hA y fun a ha=>by
      obtain ⟨i,hi,rfl⟩:=List.mem_iff_getElem.1 ha
      by_cases e : i = j
      ·subst e
       have h3 : dotF A.length c (fun i=>dotF n (A.getD i (fun _=>0)) y) = 0:=by
        rw [qS]
        exact dotF_zero fun k hk=>by rw [hz' k hk]; grind
       have h4 : dotF A.length c (fun i=>dotF n (A.getD i (fun _=>0)) y) = c i * dotF n (A.getD i (fun _=>0)) y:=by
        refine fB hi fun k hk hki=>?_
        have h5 : A.getD k (fun _=>0) ∈ A.eraseIdx i:=by
         rw [gd hk,List.mem_eraseIdx_iff_getElem]
         exact ⟨k,hk,hki,rfl⟩
        rw [hy _ h5]; grind
       rw [h4,gd hi] at h3
       grind
      ·exact hy _ (List.mem_eraseIdx_iff_getElem.2 ⟨i,hi,e,rfl⟩)
     obtain ⟨B,hB,hl,hk⟩:=xO m (A.eraseIdx j) (by rw [List.length_eraseIdx]; split <;> omega) hK
     exact ⟨B,hB.trans (List.eraseIdx_sublist _ _),hl,hk⟩
theorem qV {α : Type} {q r : α -> Bool} : ∀ {l : List α},(∀ p ∈ l,q p = true -> r p = true) -> (∃ p,p ∈ l /\ r p = true /\ q p = false) -> (l.filter q).length < (l.filter r).length
 | [],_,⟨_,h,_⟩=>by simp at h
 | a :: l, h, ⟨p, hp, h1, h2⟩ => by
   have hle : ∀ l : List α,(∀ p ∈ l,q p = true -> r p = true) -> (l.filter q).length <= (l.filter r).length:=fun l hl=>by
    rw [<- List.countP_eq_length_filter,<- List.countP_eq_length_filter]
    exact List.countP_mono_left hl
   have hl:=hle l fun p hp=>h p (by simp [hp])
   have ha:=h a (by simp)
   rcases Zz.1 hp with rfl | hp
   ·simp only [List.filter_cons,h1,h2,if_true,Zv,if_false,Qv]; omega
   ·have ih:=qV (l:=l) (fun p hp=>h p (by simp [hp])) ⟨p,hp,h1,h2⟩
    simp only [List.filter_cons]
    by_cases e : q a = true
    ·rw [if_pos e,if_pos (ha e)]; simp; exact ih
    ·rw [if_neg e]
     split
     ·simp; omega
     ·exact ih
theorem Cb {α : Type} (f : α -> Xw) : ∀ {l : List α},l ≠ [] -> ∃ p,p ∈ l /\ ∀ p' ∈ l,f p <= f p'
 | [],h=>absurd rfl h
 | [a],_=>⟨a,by simp,fun p' hp=>by rw [Qg.1 hp]; exact Rat.le_refl⟩
 | a :: b :: l, _ => by
   obtain ⟨p,hp,hm⟩:=Cb f (l:=b :: l) (by simp)
   by_cases e : f a <= f p
   ·refine ⟨a,by simp,fun p' hp'=>?_⟩
    rcases Zz.1 hp' with rfl | hp'
    ·exact Rat.le_refl
    ·have:=hm p' hp'; grind
   ·refine ⟨p,by simp only [Zz] at hp ⊢; exact .inr hp,fun p' hp'=>?_⟩
    rcases Zz.1 hp' with rfl | hp'
    ·grind
    ·exact hm p' hp'
abbrev Cst:=(Nat -> Xw) × Xw
def xE (n : Nat) (C : List Cst) (x : Nat -> Xw) : Prop:=∀ p ∈ C,p.2 <= dotF n p.1 x
def tgt (n : Nat) (x : Nat -> Xw) (p : Cst) : Bool:=decide (dotF n p.1 x = p.2)
theorem Ho {n : Nat} {C : List Cst} {c x : Nat -> Xw} (hc : ∀ k,k < n -> 0 <= c k) (h : ¬ Ker n ((C.filter (tgt n x)).map Prod.fst)) :
  ∃ y : Nat -> Xw,(∀ p ∈ C,tgt n x p = true -> dotF n p.1 y = 0) /\ dotF n c y <= 0 /\ ∃ k,k < n /\ y k < 0:=by
 have : ∃ y : Nat -> Xw,(∀ a ∈ (C.filter (tgt n x)).map Prod.fst,dotF n a y = 0) /\ ∃ k,k < n /\ y k ≠ 0:=
  Xv fun hn=>h fun y hy k hk=>Xv fun h'=>hn ⟨y,hy,k,hk,h'⟩
 obtain ⟨y,hy,k,hk,hne⟩:=this
 have hy' : ∀ p ∈ C,tgt n x p = true -> dotF n p.1 y = 0:=fun p hp ht=>hy _ (List.mem_map_of_mem (List.mem_filter.2 ⟨hp,ht⟩))
 have hm : ∀ a : Nat -> Xw,dotF n a (fun k=>-1 * y k) = - dotF n a y:=fun a=>by rw [gu]; grind
 have hneg : ∀ y : Nat -> Xw,dotF n c y < 0 -> ∃ k,k < n /\ y k < 0:=fun y h0=>
  Xv fun hn=>by
   have : 0 <= dotF n c y:=jM fun k hk=>Rat.mul_nonneg (hc k hk) (by
    by_cases e : y k < 0
    ·exact absurd ⟨k,hk,e⟩ hn
    ·grind)
   grind
 by_cases h1 : dotF n c y < 0
 ·exact ⟨y,hy',by grind,hneg y h1⟩
 by_cases h2 : 0 < dotF n c y
 ·refine ⟨fun k=>-1 * y k,fun p hp ht=>by rw [hm,hy' p hp ht]; grind,by rw [hm]; grind,hneg _ (by rw [hm]; grind)⟩
 by_cases h3 : y k < 0
 ·exact ⟨y,hy',by grind,k,hk,h3⟩
 ·exact ⟨fun k=>-1 * y k,fun p hp ht=>by rw [hm,hy' p hp ht]; grind,by rw [hm]; grind,k,hk,by grind⟩
theorem yJ {n : Nat} {C : List Cst} {c : Nat -> Xw} (hc : ∀ k,k < n -> 0 <= c k) (hu : ∀ k,k < n -> ∃ p ∈ C,p.2 = 0 /\ ∀ x,dotF n p.1 x = x k) :
  ∀ (m : Nat) (x : Nat -> Xw),xE n C x -> (C.filter fun p=>!tgt n x p).length <= m -> ∃ v,xE n C v /\ dotF n c v <= dotF n c x /\ Ker n ((C.filter (tgt n v)).map Prod.fst)
 | m, x, hx, hm => by
   by_cases hK : Ker n ((C.filter (tgt n x)).map Prod.fst)
   ·exact ⟨x,hx,Rat.le_refl,hK⟩
   obtain ⟨y,hy,hcy,k,hk,hyk⟩:=Ho hc hK
   obtain ⟨pk,hpk,_,hek⟩:=hu k hk
   have hne : (C.filter fun p=>decide (dotF n p.1 y < 0)) ≠ []:=fun e=>by
    have : pk ∈ (C.filter fun p=>decide (dotF n p.1 y < 0)):=List.mem_filter.2 ⟨hpk,by rw [hek]; simpa using hyk⟩
    rw [e] at this; simp at this
   obtain ⟨p0,hp0,hmin⟩:=Cb (fun p : Cst=>(dotF n p.1 x - p.2) / (- dotF n p.1 y)) hne
   obtain ⟨hp0C,hp0n⟩:=List.mem_filter.1 hp0
   have hp0n : dotF n p0.1 y < 0:=by simpa using hp0n
   obtain ⟨t,ht⟩ : ∃ t,t = (dotF n p0.1 x - p0.2) / (- dotF n p0.1 y):=⟨_,rfl⟩
   simp only [<- ht] at hmin
   have hd : ∀ a : Nat -> Xw,dotF n a (fun k=>x k + t * y k) = dotF n a x + t * dotF n a y:=fun a=>by rw [iO,gu]
   have hdiv : ∀ a b : Xw,0 < b -> 0 <= a -> 0 <= a / b:=fun a b hb ha=>by
    rw [Rat.div_def]; exact Rat.mul_nonneg ha (Rat.le_of_lt (Rat.inv_pos.2 hb))
   have ht0 : 0 <= t:=by
    rw [ht]
    exact hdiv _ _ (by grind) (by have:=hx p0 hp0C; grind)
   have htp : t * (- dotF n p0.1 y) = dotF n p0.1 x - p0.2:=by
    rw [ht]
    have : (- dotF n p0.1 y) ≠ 0:=by grind
    grind
   have hx' : xE n C (fun k=>x k + t * y k):=fun p hp=>by
    rw [hd]
    have h1:=hx p hp
    by_cases e : dotF n p.1 y < 0
    ·have h2:=hmin p (List.mem_filter.2 ⟨hp,by simpa using e⟩)
     have h3:=Rat.mul_le_mul_of_nonneg_right h2 (c:=- dotF n p.1 y) (by grind)
     have h4 : (dotF n p.1 x - p.2) / (- dotF n p.1 y) * (- dotF n p.1 y) = dotF n p.1 x - p.2:=by
      have : (- dotF n p.1 y) ≠ 0:=by grind
      grind
     rw [h4] at h3
     grind
    ·have:=Rat.mul_nonneg ht0 (show 0 <= dotF n p.1 y by grind)
     grind
   have hlt : (C.filter fun p=>!tgt n (fun k=>x k + t * y k) p).length < (C.filter fun p=>!tgt n x p).length:=by
    refine qV (fun p hp hq=>?_) ⟨p0,hp0C,?_,?_⟩
    ·cases e : tgt n x p with
     | false=>rfl
     | true =>
       have h1:=hy p hp e
       simp only [tgt,hd,h1,Bool.not_eq_true',decide_eq_false_iff_not,Xj] at hq e
       grind
    ·cases e : tgt n x p0 with
     | false=>rfl
     | true=>have:=hy p0 hp0C e; grind
    ·simp only [tgt,hd,Bool.not_eq_false',Xj]
     grind
   cases m with
   | zero=>omega
   | succ m =>
     obtain ⟨v,h1,h2,h3⟩:=yJ hc hu m _ hx' (by omega)
     refine ⟨v,h1,?_,h3⟩
     rw [hd] at h2
     have h4:=Rat.mul_nonneg ht0 (show 0 <= - dotF n c y by grind)
     grind
def fnL (r : List Xw) : Nat -> Xw:=fun k=>r.getD k 0
def rowQ (m : List (List Xw)) (i : Nat) : Nat -> Xw:=fnL (m.getD i [])
def dL (p : Nat) (piv row : List Xw) : List Xw:=row.mapIdx fun k x=>if k < p then x else x - fnL row p / fnL piv p * fnL piv k
def fF (m : List (List Xw)) (p : Nat) : Nat:=p + (m.drop p).findIdx fun r=>decide (fnL r p ≠ 0)
def dW (m : List (List Xw)) (p k : Nat) : List (List Xw):=(m.set p (m.getD k [])).set k (m.getD p [])
def eV (p : Nat) (m : List (List Xw)) : List (List Xw):=m.mapIdx fun i r=>if i = p then r else dL p (m.getD p []) r
def nj (p : Nat) (m : List (List Xw)) : Option (List (List Xw)):=if fF m p < m.length then some (eV p (dW m p (fF m p))) else none
def gj (m0 : List (List Xw)) : Nat -> Option (List (List Xw))
 | 0=>some m0
 | p + 1=>(gj m0 p).bind (nj p)
def outM (n : Nat) (m : List (List Xw)) : List Xw:=(List.range n).map fun p=>rowQ m p n / rowQ m p p
def solQ (n : Nat) (m0 : List (List Xw)) : Option (List Xw):=(gj m0 n).map (outM n)
structure GJ (n p : Nat) (m0 m : List (List Xw)) : Prop where
 len : m.length = n
 row : ∀ r ∈ m,r.length = n + 1
 dia : ∀ i j,i < n -> j < p -> i ≠ j -> rowQ m i j = 0
 piv : ∀ i,i < p -> rowQ m i i ≠ 0
 sol : ∀ y,(∀ r ∈ m,dotF (n + 1) (fnL r) y = 0) ↔ (∀ r ∈ m0,dotF (n + 1) (fnL r) y = 0)
def bbQ : Nat -> Nat
 | 0=>1
 | p + 1=>2 * (bbQ p * bbQ p)
def cbQ : Nat -> Nat
 | 0=>1
 | p + 1=>cbQ p * bbQ p
theorem rW : ∀ p,1 <= bbQ p
 | 0=>Jv _
 | p + 1 => by
   have:=rW p
   have:=Nat.mul_le_mul this this
   simp only [bbQ]; omega
theorem AD (p : Nat) : bbQ p <= bbQ (p + 1):=by
 have:=rW p
 have:=Nat.mul_le_mul_left (bbQ p) this
 simp only [bbQ]; omega
theorem AP (p : Nat) : cbQ p <= cbQ (p + 1):=by
 have:=rW p
 have:=Nat.mul_le_mul_left (cbQ p) this
 simp only [cbQ]; omega
structure RowB (n : Nat) (c b : Nat) (r : Nat -> Xw) (s : Int) (M : Nat -> Int) : Prop where
 ne : s ≠ 0
 sc : s.natAbs <= c
 eq : ∀ k,k <= n -> r k * (s : Xw) = (M k : Xw)
 bd : ∀ k,k <= n -> (M k).natAbs <= b
def Bd (n p : Nat) (m : List (List Xw)) : Prop:=
 ∃ D : Int,D ≠ 0 /\ D.natAbs <= cbQ p /\ ∀ i,i < n -> ∃ (s : Int) (M : Nat -> Int),RowB n (cbQ p) (bbQ p) (rowQ m i) s M /\ (i < p -> ∃ e : Int,D = M i * e)
theorem A7 {x a d q s sp X A P Y : Xw} (hd : d ≠ 0) (h1 : x * s = X) (h2 : a * s = A) (h3 : d * sp = P) (h4 : q * sp = Y) : (x - a / d * q) * (s * P) = P * X - A * Y:=by grind
theorem el_f {a d s sp A P : Xw} (hd : d ≠ 0) (h2 : a * s = A) (h3 : d * sp = P) : a / d * (s * P) = A * sp:=by grind
theorem el_q {a d q s sp A P Y : Xw} (hd : d ≠ 0) (h2 : a * s = A) (h3 : d * sp = P) (h4 : q * sp = Y) : a / d * q * (s * P) = A * Y:=by grind
theorem getD_mem' {α : Type} {l : List α} {i : Nat} {d : α} (h : i < l.length) : l.getD i d ∈ l:=by rw [gd h]; exact Jy h
theorem qZ {α : Type} {l : List α} {i j : Nat} {a d : α} (h : i < l.length) : (l.set i a).getD j d = if i = j then a else l.getD j d:=by
 simp only [List.getD,List.getElem?_set]
 split
 ·rfl
 ·rfl
theorem iZ {m : List (List Xw)} {p k : Nat} (hp : p < m.length) (hk : k < m.length) (i : Nat) : (dW m p k).getD i [] = m.getD (if i = k then p else if i = p then k else i) []:=by
 rw [dW,qZ (by simpa using hk)]
 by_cases e : k = i
 ·subst e; simp
 ·rw [if_neg e,qZ hp]
  have e' : ¬ i = k:=fun h=>e h.symm
  by_cases e2 : p = i
  ·subst e2; simp [e']
  ·have e2' : ¬ i = p:=fun h=>e2 h.symm
   simp [e2,e',e2']
theorem C9 {m : List (List Xw)} {p k : Nat} (hp : p < m.length) (hk : k < m.length) (r : List Xw) : r ∈ dW m p k ↔ r ∈ m:=by
 have hl : (dW m p k).length = m.length:=by simp [dW]
 constructor
 ·intro h
  obtain ⟨i,hi,rfl⟩:=List.mem_iff_getElem.1 h
  rw [<- gd hi (d:=[]),iZ hp hk]
  exact getD_mem' (by split; · exact hp
                      split; · exact hk
                      omega)
 ·intro h
  obtain ⟨i,hi,rfl⟩:=List.mem_iff_getElem.1 h
  have e : m[i] = (dW m p k).getD (if i = k then p else if i = p then k else i) []:=by
   rw [iZ hp hk,<- gd hi (d:=[])]
   congr 1
   by_cases h1 : i = k
   ·subst h1
    simp only [if_true]
    split <;> simp_all
   ·by_cases h2 : i = p
    ·subst h2; simp [h1]
    ·simp [h1,h2]
  rw [e]
  exact getD_mem' (by rw [hl]; split; · exact hp
                      split; · exact hk
                      exact hi)
theorem j6 {m : List (List Xw)} {p i : Nat} (hi : i < m.length) : (eV p m).getD i [] = if i = p then m.getD p [] else dL p (m.getD p []) (m.getD i []):=by
 rw [eV,gd (by simpa using hi),List.getElem_mapIdx]
 split
 ·rename_i h; subst h; exact (gd hi).symm
 ·rw [gd hi]
theorem xz {p n : Nat} {piv row : List Xw} (hr : row.length = n + 1) (hz : ∀ j,j < p -> fnL piv j = 0) {k : Nat} (hk : k <= n) : fnL (dL p piv row) k = fnL row k - fnL row p / fnL piv p * fnL piv k:=by
 rw [fnL,dL,gd (by simp; omega),List.getElem_mapIdx]
 have : fnL row k = row[k]'(by omega):=by rw [fnL,gd (by omega)]
 rw [this]
 split
 ·rename_i h; rw [hz k h]; grind
 ·rfl
theorem A9 {p : Nat} {piv row : List Xw} : (dL p piv row).length = row.length:=by simp [dL]
theorem Cr {m : List (List Xw)} {p : Nat} (h : fF m p < m.length) : p <= fF m p /\ rowQ m (fF m p) p ≠ 0:=by
 have h1 : (m.drop p).findIdx (fun r=>decide (fnL r p ≠ 0)) < (m.drop p).length:=by
  rw [List.length_drop]; unfold fF at h; omega
 have h2:=List.findIdx_getElem (w:=h1)
 refine ⟨by unfold fF; omega,?_⟩
 simp only [List.getElem_drop,Xj] at h2
 rw [rowQ,gd h]
 exact h2
theorem Ct {m : List (List Xw)} {p : Nat} (h : ¬ fF m p < m.length) : ∀ k,p <= k -> k < m.length -> rowQ m k p = 0:=fun k h1 h2=>by
 have h3 : ¬ (m.drop p).findIdx (fun r=>decide (fnL r p ≠ 0)) < (m.drop p).length:=by
  rw [List.length_drop]; unfold fF at h; omega
 rw [List.findIdx_lt_length] at h3
 refine Xv fun hn=>h3 ⟨m[k],?_,?_⟩
 ·rw [List.mem_iff_getElem]
  exact ⟨k - p,by rw [List.length_drop]; omega,by simp only [List.getElem_drop]; congr 1; omega⟩
 ·rw [rowQ,gd h2] at hn
  simpa using hn
theorem GJ.swap {n p k : Nat} {m0 m : List (List Xw)} (h : GJ n p m0 m) (hp : p <= k) (hk : k < n) : GJ n p m0 (dW m p k):=by
 have hl:=h.len
 have hg:=iZ (m:=m) (p:=p) (k:=k) (by omega) (by omega)
 have hm:=C9 (m:=m) (p:=p) (k:=k) (by omega) (by omega)
 refine ⟨by simp [dW,hl],fun r hr=>h.row r ((hm r).1 hr),fun i j hi hj hij=>?_,fun i hi=>?_,fun y=>?_⟩
 ·rw [rowQ,hg]
  split
  ·exact h.dia p j (by omega) hj (by omega)
  ·split
   ·exact h.dia k j hk hj (by omega)
   ·exact h.dia i j hi hj hij
 ·rw [rowQ,hg,if_neg (by omega),if_neg (by omega)]
  exact h.piv i hi
 ·rw [<- h.sol y]
  exact ⟨fun hy r hr=>hy r ((hm r).2 hr),fun hy r hr=>hy r ((hm r).1 hr)⟩
theorem Bd.swap {n p k : Nat} {m0 m : List (List Xw)} (h : GJ n p m0 m) (hp : p <= k) (hk : k < n) (hb : Bd n p m) : Bd n p (dW m p k):=by
 have hl:=h.len
 have hg:=iZ (m:=m) (p:=p) (k:=k) (by omega) (by omega)
 obtain ⟨D,h1,h2,h3⟩:=hb
 refine ⟨D,h1,h2,fun i hi=>?_⟩
 obtain ⟨s, M, hs, hD⟩ := h3 (if i = k then p else if i = p then k else i) (by split; · omega
                                                                               split; · omega
                                                                               exact hi)
 refine ⟨s,M,?_,fun hip=>?_⟩
 ·have : rowQ (dW m p k) i = rowQ m (if i = k then p else if i = p then k else i):=by rw [rowQ,hg]; rfl
  rw [this]; exact hs
 ·rw [if_neg (by omega),if_neg (by omega)] at hD
  exact hD hip
theorem GJ.step {n p : Nat} {m0 m : List (List Xw)} (h : GJ n p m0 m) (hp : p < n) (hne : rowQ m p p ≠ 0) : GJ n (p + 1) m0 (eV p m):=by
 have hl:=h.len
 have hz : ∀ j,j < p -> fnL (m.getD p []) j = 0:=fun j hj=>h.dia p j hp hj (by omega)
 have hr : ∀ i,i < n -> (m.getD i []).length = n + 1:=fun i hi=>h.row _ (getD_mem' (by omega))
 have hrow : ∀ i,i < n -> i ≠ p -> ∀ k,k <= n -> rowQ (eV p m) i k = rowQ m i k - rowQ m i p / rowQ m p p * rowQ m p k:=fun i hi hip k hk=>by
  rw [rowQ,j6 (by omega),if_neg hip]
  exact xz (hr i hi) hz hk
 have hrp : rowQ (eV p m) p = rowQ m p:=by rw [rowQ,j6 (by omega),if_pos rfl]; rfl
 have hdot : ∀ i,i < n -> i ≠ p -> ∀ y,dotF (n + 1) (rowQ (eV p m) i) y = dotF (n + 1) (rowQ m i) y - rowQ m i p / rowQ m p p * dotF (n + 1) (rowQ m p) y:=fun i hi hip y=>by
  rw [cg,cg (rowQ m i),cg (rowQ m p),b7 (a:=y) (a':=y) (x':=fun k=>rowQ m i k + (-(rowQ m i p / rowQ m p p)) * rowQ m p k) (fun _ _=>rfl) (fun k hk=>by rw [hrow i hi hip k (by omega)]; grind),iO,gu]
  grind
 have hsl : (eV p m).length = n:=by simp [eV,hl]
 refine ⟨hsl,fun r hr'=>?_,fun i j hi hj hij=>?_,fun i hi=>?_,fun y=>?_⟩
 ·obtain ⟨i,hi,rfl⟩:=List.mem_iff_getElem.1 hr'
  rw [<- gd hi (d:=[]),j6 (by omega)]
  split
  ·exact hr p hp
  ·rw [A9]; exact hr i (by omega)
 ·by_cases e : i = p
  ·subst e; rw [hrp]; exact h.dia i j hi (by omega) hij
  ·rw [hrow i hi e j (by omega)]
   by_cases e2 : j = p
   ·subst e2; grind
   ·have:=h.dia i j hi (by omega) hij
    have:=h.dia p j hp (by omega) (by omega)
    grind
 ·by_cases e : i = p
  ·subst e; rw [hrp]; exact hne
  ·rw [hrow i (by omega) e i (by omega)]
   have:=h.piv i (by omega)
   have:=h.dia p i hp (by omega) (by omega)
   grind
 ·rw [<- h.sol y]
  have hm : ∀ i,i < n -> rowQ m i = fnL (m.getD i []):=fun _ _=>rfl
  constructor
  ·intro hy r hr'
   obtain ⟨i,hi,rfl⟩:=List.mem_iff_getElem.1 hr'
   rw [<- gd hi (d:=[])]
   have hpz : dotF (n + 1) (rowQ m p) y = 0:=by
    rw [<- hrp]; exact hy _ (getD_mem' (by omega))
   by_cases e : i = p
   ·subst e; exact hpz
   ·have h1:=hy _ (getD_mem' (l:=eV p m) (i:=i) (d:=[]) (by omega))
    have h2:=hdot i (by omega) e y
    rw [hpz] at h2
    show dotF (n + 1) (rowQ m i) y = 0
    have h3 : dotF (n + 1) (rowQ (eV p m) i) y = 0:=h1
    grind
  ·intro hy r hr'
   obtain ⟨i,hi,rfl⟩:=List.mem_iff_getElem.1 hr'
   rw [<- gd hi (d:=[])]
   show dotF (n + 1) (rowQ (eV p m) i) y = 0
   have hpz : dotF (n + 1) (rowQ m p) y = 0:=hy _ (getD_mem' (by omega))
   by_cases e : i = p
   ·subst e; rw [hrp]; exact hpz
   ·rw [hdot i (by omega) e y,hpz]
    have : dotF (n + 1) (rowQ m i) y = 0:=hy _ (getD_mem' (by omega))
    grind
theorem cG {a b : Int} {x y : Nat} (h1 : a.natAbs <= x) (h2 : b.natAbs <= y) : (a * b).natAbs <= x * y:=by rw [Int.natAbs_mul]; exact Nat.mul_le_mul h1 h2
theorem jU (a b : Int) : (a - b).natAbs <= a.natAbs + b.natAbs:=by omega
theorem Bd.step {n p : Nat} {m0 m : List (List Xw)} (h : GJ n p m0 m) (hp : p < n) (hne : rowQ m p p ≠ 0) (hb : Bd n p m) : Bd n (p + 1) (eV p m):=by
 have hl:=h.len
 have hz : ∀ j,j < p -> fnL (m.getD p []) j = 0:=fun j hj=>h.dia p j hp hj (by omega)
 have hr : ∀ i,i < n -> (m.getD i []).length = n + 1:=fun i hi=>h.row _ (getD_mem' (by omega))
 have hrow : ∀ i,i < n -> i ≠ p -> ∀ k,k <= n -> rowQ (eV p m) i k = rowQ m i k - rowQ m i p / rowQ m p p * rowQ m p k:=fun i hi hip k hk=>by
  rw [rowQ,j6 (by omega),if_neg hip]
  exact xz (hr i hi) hz hk
 have hrp : rowQ (eV p m) p = rowQ m p:=by rw [rowQ,j6 (by omega),if_pos rfl]; rfl
 obtain ⟨D,h1,h2,h3⟩:=hb
 obtain ⟨sp,P,rp,_⟩:=h3 p hp
 have hP : P p ≠ 0:=fun e=>by
  have:=rp.eq p (by omega)
  rw [e] at this
  have hs : (sp : Xw) ≠ 0:=fun e=>rp.ne (Rat.intCast_inj.1 (by simpa using e))
  have : rowQ m p p * (sp : Xw) = 0:=by simpa using this
  grind
 refine ⟨D * P p,Int.mul_ne_zero h1 hP,cG h2 (rp.bd p (by omega)),fun i hi=>?_⟩
 by_cases e : i = p
 ·subst e
  refine ⟨sp,P,⟨rp.ne,Zy rp.sc (AP _),fun k hk=>by rw [hrp]; exact rp.eq k hk,fun k hk=>Zy (rp.bd k hk) (AD _)⟩,fun _=>⟨D,Int.mul_comm _ _⟩⟩
 ·obtain ⟨s,M,ri,hD⟩:=h3 i hi
  refine ⟨s * P p,fun k=>P p * M k - M p * P k,⟨Int.mul_ne_zero ri.ne hP,cG ri.sc (rp.bd p (by omega)),fun k hk=>?_,fun k hk=>?_⟩,fun hip=>?_⟩
  ·rw [hrow i hi e k hk]
   have:=A7 hne (ri.eq k hk) (ri.eq p (by omega)) (rp.eq p (by omega)) (rp.eq k hk)
   rw [Rat.intCast_mul,Rat.intCast_sub,Rat.intCast_mul,Rat.intCast_mul]
   exact this
  ·have a1:=cG (rp.bd p (by omega)) (ri.bd k hk)
   have a2:=cG (ri.bd p (by omega)) (rp.bd k hk)
   have a3:=jU (P p * M k) (M p * P k)
   simp only [bbQ]; omega
  ·obtain ⟨x,hx⟩:=hD (by omega)
   have : P i = 0:=by
    have h4:=rp.eq i (by omega)
    have h5 : rowQ m p i = 0:=hz i (by omega)
    rw [h5] at h4
    have : ((P i : Int) : Xw) = ((0 : Int) : Xw):=by rw [<- h4]; simp
    exact Rat.intCast_inj.1 this
   refine ⟨x,?_⟩
   simp only [this,hx,Int.mul_zero,Int.sub_zero]
   rw [Int.mul_comm (P p),Int.mul_assoc,Int.mul_assoc,Int.mul_comm x]
theorem pf {a x : Nat -> Xw} {i j : Nat} : ∀ {n : Nat},i < n -> j < n -> i ≠ j -> (∀ k,k < n -> k ≠ i -> k ≠ j -> a k * x k = 0) -> dotF n a x = a i * x i + a j * x j
 | 0,h,_,_,_=>by omega
 | n + 1, hi, hj, hij, hz => by
   rw [dotF]
   by_cases e : i = n
   ·subst e
    rw [fB (j:=j) (by omega) fun k hk hkj=>hz k (by omega) (by omega) hkj]
    grind
   ·by_cases e2 : j = n
    ·subst e2
     rw [fB (j:=i) (by omega) fun k hk hki=>hz k (by omega) hki (by omega)]
    ·rw [pf (n:=n) (i:=i) (j:=j) (by omega) (by omega) hij fun k hk=>hz k (by omega),hz n (by omega) (by omega) (by omega)]
     grind
theorem lJ {n : Nat} {m0 : List (List Xw)} (hl : m0.length = n) (hr : ∀ r ∈ m0,r.length = n + 1) (hb : Bd n 0 m0) : ∀ p,p <= n -> ∀ m,gj m0 p = some m -> GJ n p m0 m /\ Bd n p m
 | 0, _, m, h => by
   simp only [gj,Jx] at h
   subst h
   exact ⟨⟨hl,hr,fun i j _ h=>by omega,fun i h=>by omega,fun y=>Iff.rfl⟩,hb⟩
 | p + 1, hp, m, h => by
   rw [gj] at h
   cases e : gj m0 p with
   | none=>rw [e] at h; cases h
   | some m1 =>
     obtain ⟨g1,b1⟩:=lJ hl hr hb p (by omega) m1 e
     rw [e,Option.bind_some,nj] at h
     split at h
     ·rename_i hlt
      simp only [Jx] at h
      subst h
      obtain ⟨h1,h2⟩:=Cr hlt
      have g2:=g1.swap h1 (by rw [<- g1.len]; exact hlt)
      have b2:=Bd.swap g1 h1 (by rw [<- g1.len]; exact hlt) b1
      have hne : rowQ (dW m1 p (fF m1 p)) p p ≠ 0:=by
       have hp' : p < m1.length:=by rw [g1.len]; omega
       rw [rowQ,iZ hp' hlt]
       split
       ·rename_i e; rw [<- e] at h2; exact h2
       ·rw [if_pos rfl]; exact h2
      exact ⟨g2.step (by omega) hne,Bd.step g2 (by omega) hne b2⟩
     ·cases h
theorem Gp {n : Nat} {m0 : List (List Xw)} (hl : m0.length = n) (hr : ∀ r ∈ m0,r.length = n + 1) (hb : Bd n 0 m0) (hK : Ker n (m0.map fnL)) : ∀ p,p <= n -> ∃ m,gj m0 p = some m
 | 0,_=>⟨m0,rfl⟩
 | p + 1, hp => by
   obtain ⟨m,hm⟩:=Gp hl hr hb hK p (by omega)
   obtain ⟨g,_⟩:=lJ hl hr hb p (by omega) m hm
   rw [gj,hm,Option.bind_some,nj]
   split
   ·exact ⟨_,rfl⟩
   ·rename_i hno
    exfalso
    have hpz:=Ct hno
    obtain ⟨y,hy⟩ : ∃ y : Nat -> Xw,y = fun k=>if k < p then - rowQ m k p / rowQ m k k else if k = p then 1 else 0:=⟨_,rfl⟩
    have y1 : ∀ k,k < p -> y k = - rowQ m k p / rowQ m k k:=fun k hk=>by rw [hy]; simp only [if_pos hk]
    have y2 : y p = 1:=by rw [hy]; simp
    have y3 : ∀ k,p < k -> y k = 0:=fun k hk=>by rw [hy]; simp only [if_neg (show ¬ k < p by omega),if_neg (show ¬ k = p by omega)]
    have hz : ∀ r ∈ m,dotF (n + 1) (fnL r) y = 0:=fun r hr'=>by
     obtain ⟨i,hi,rfl⟩:=List.mem_iff_getElem.1 hr'
     rw [<- gd hi (d:=[])]
     show dotF (n + 1) (rowQ m i) y = 0
     have hin : i < n:=by rw [<- g.len]; exact hi
     by_cases hip : i < p
     ·rw [pf (i:=i) (j:=p) (by omega) (by omega) (by omega) fun k hk hki hkp=>by
       by_cases hkl : k < p
       ·rw [g.dia i k hin hkl (by omega)]; grind
       ·rw [y3 k (by omega)]; grind]
      rw [y1 i hip,y2]
      have:=g.piv i hip
      grind
     ·refine dotF_zero fun k hk=>?_
      by_cases hkl : k < p
      ·rw [g.dia i k hin hkl (by omega)]; grind
      ·by_cases hkp : k = p
       ·subst hkp; rw [hpz i (by omega) hi]; grind
       ·rw [y3 k (by omega)]; grind
    have h0:=(g.sol y).1 hz
    have h1:=hK y (fun a ha=>by
     obtain ⟨r,hr',rfl⟩:=Xz.1 ha
     have:=h0 r hr'
     rw [dotF,y3 n (by omega)] at this
     grind) p (by omega)
    rw [y2] at h1
    grind
theorem C5 {n : Nat} {m0 : List (List Xw)} {v : Nat -> Xw} (hl : m0.length = n) (hr : ∀ r ∈ m0,r.length = n + 1) (hb : Bd n 0 m0) (hK : Ker n (m0.map fnL)) (hv : ∀ r ∈ m0,dotF n (fnL r) v = fnL r n) :
  solQ n m0 = some ((List.range n).map v):=by
 obtain ⟨m,hm⟩:=Gp hl hr hb hK n (Jv _)
 obtain ⟨g,_⟩:=lJ hl hr hb n (Jv _) m hm
 rw [solQ,hm,Jg,outM]
 congr 1
 refine List.map_congr_left fun p hp=>?_
 have hp:=Zg.1 hp
 obtain ⟨y,hy⟩ : ∃ y : Nat -> Xw,y = fun k=>if k < n then v k else -1:=⟨_,rfl⟩
 have y1 : ∀ k,k < n -> y k = v k:=fun k hk=>by rw [hy]; simp only [if_pos hk]
 have y2 : y n = -1:=by rw [hy]; simp
 have h0 : ∀ r ∈ m0,dotF (n + 1) (fnL r) y = 0:=fun r hr'=>by
  rw [dotF,y2,b7 (a':=fnL r) (x':=v) (fun _ _=>rfl) y1,hv r hr']
  grind
 have h1:=(g.sol y).2 h0 _ (getD_mem' (i:=p) (d:=[]) (by rw [g.len]; exact hp))
 have h2 : dotF (n + 1) (rowQ m p) y = 0:=h1
 rw [pf (i:=p) (j:=n) (by omega) (by omega) (by omega) fun k hk hkp hkn=>by rw [g.dia p k hp (by omega) (by omega)]; grind] at h2
 rw [y1 p hp,y2] at h2
 have:=g.piv p hp
 grind
def rbQ (N D : Nat) (q : Xw) : Prop:=∃ s M : Int,s ≠ 0 /\ q * (s : Xw) = (M : Xw) /\ M.natAbs <= N /\ s.natAbs <= D
theorem HT {N D : Nat} {q : Xw} (h : rbQ N D q) : q.num.natAbs <= N /\ q.den <= D:=by
 obtain ⟨s,M,hs,hq,hM,hD⟩:=h
 have hs' : (s : Xw) ≠ 0:=fun e=>hs (Rat.intCast_inj.1 (by simpa using e))
 have e : q = Rat.divInt M s:=by
  rw [Rat.divInt_eq_div]
  grind
 constructor
 ·rw [e,Rat.num_divInt]
  refine Zy ?_ hM
  rw [Int.natAbs_ediv_of_dvd (Int.dvd_trans (Int.gcd_dvd_right _ _) (Int.dvd_mul_left _ _)),Int.natAbs_mul]
  refine Zy (Nat.div_le_self _ _) ?_
  have : s.sign.natAbs <= 1:=by
   rcases Int.lt_trichotomy s 0 with h | h | h
   ·rw [Int.sign_eq_neg_one_of_neg h]; decide
   ·exact absurd h hs
   ·rw [Int.sign_eq_one_of_pos h]; decide
  have:=Zk M.natAbs this
  omega
 ·rw [e,Rat.den_divInt,if_neg hs]
  exact Zy (Nat.div_le_self _ _) hD
def smQ (q : Xw) : Prop:=q.num.natAbs <= 1000000000 /\ q.den <= 1000000000
theorem ry {N D : Nat} {q : Xw} (h : rbQ N D q) (h1 : N <= 1000000000) (h2 : D <= 1000000000) : smQ q:=by
 have:=HT h
 exact ⟨by omega,by omega⟩
theorem bb4 {p : Nat} (h : p <= 4) : bbQ p <= 32768 /\ cbQ p <= 2048:=by
 have : p = 0 \/ p = 1 \/ p = 2 \/ p = 3 \/ p = 4:=by omega
 rcases this with rfl | rfl | rfl | rfl | rfl <;> simp [bbQ,cbQ]
theorem bb3 {p : Nat} (h : p <= 3) : bbQ p <= 128 /\ cbQ p <= 16:=by
 have : p = 0 \/ p = 1 \/ p = 2 \/ p = 3:=by omega
 rcases this with rfl | rfl | rfl | rfl <;> simp [bbQ,cbQ]
structure xf (n p : Nat) (m : List (List Xw)) : Prop where
 at_ : ∀ i k,i < n -> k <= n -> smQ (rowQ m i k)
 f : ∀ i,i < n -> smQ (rowQ m i p / rowQ m p p)
 q : ∀ i k,i < n -> k <= n -> smQ (rowQ m i p / rowQ m p p * rowQ m p k)
 d : ∀ i k,i < n -> k <= n -> smQ (rowQ m i k - rowQ m i p / rowQ m p p * rowQ m p k)
theorem AE {n p : Nat} {m : List (List Xw)} (h : Bd n p m) (hp : p <= 4) {i k : Nat} (hi : i < n) (hk : k <= n) : smQ (rowQ m i k):=by
 obtain ⟨D,_,_,h3⟩:=h
 obtain ⟨s,M,r,_⟩:=h3 i hi
 have:=bb4 hp
 have:=r.sc
 have:=r.bd k hk
 exact ry (N:=32768) (D:=2048) ⟨s,M k,r.ne,r.eq k hk,by omega,by omega⟩ (by omega) (by omega)
theorem D5 {n p : Nat} {m : List (List Xw)} (h : Bd n p m) (hp : p <= 3) (hpn : p < n) (hne : rowQ m p p ≠ 0) : xf n p m:=by
 have h0:=h
 obtain ⟨D,_,_,h3⟩:=h
 obtain ⟨sp,P,rp,_⟩:=h3 p hpn
 have hb:=bb3 hp
 have hP : P p ≠ 0:=fun e=>by
  have:=rp.eq p (by omega)
  rw [e] at this
  have hs : (sp : Xw) ≠ 0:=fun e=>rp.ne (Rat.intCast_inj.1 (by simpa using e))
  have : rowQ m p p * (sp : Xw) = 0:=by simpa using this
  grind
 have cut : ∀ {a b : Int} {x y X Y : Nat},a.natAbs <= x -> b.natAbs <= y -> x <= X -> y <= Y -> (a * b).natAbs <= X * Y:=fun h1 h2 h3 h4=>Zy (cG h1 h2) (Nat.mul_le_mul h3 h4)
 refine ⟨fun i k hi hk=>AE h0 (by omega) hi hk,fun i hi=>?_,fun i k hi hk=>?_,fun i k hi hk=>?_⟩
 all_goals obtain ⟨s,M,ri,_⟩:=h3 i hi
 all_goals have hs:=Int.mul_ne_zero ri.ne hP
 all_goals have hsb : (s * P p).natAbs <= 16 * 128:=cut ri.sc (rp.bd p (by omega)) hb.2 hb.1
 ·exact ry (N:=128 * 16) (D:=16 * 128) ⟨s * P p,M p * sp,hs,by rw [Rat.intCast_mul,Rat.intCast_mul]; exact el_f hne (ri.eq p (by omega)) (rp.eq p (by omega)),cut (ri.bd p (by omega)) rp.sc hb.1 hb.2,hsb⟩ (by omega) (by omega)
 ·exact ry (N:=128 * 128) (D:=16 * 128) ⟨s * P p,M p * P k,hs,by rw [Rat.intCast_mul,Rat.intCast_mul]; exact el_q hne (ri.eq p (by omega)) (rp.eq p (by omega)) (rp.eq k hk),cut (ri.bd p (by omega)) (rp.bd k hk) hb.1 hb.1,hsb⟩ (by omega) (by omega)
 ·refine ry (N:=2 * (128 * 128)) (D:=16 * 128) ⟨s * P p,P p * M k - M p * P k,hs,by rw [Rat.intCast_mul,Rat.intCast_sub,Rat.intCast_mul,Rat.intCast_mul]; exact A7 hne (ri.eq k hk) (ri.eq p (by omega)) (rp.eq p (by omega)) (rp.eq k hk),?_,hsb⟩ (by omega) (by omega)
  have a1 : (P p * M k).natAbs <= 128 * 128:=cut (rp.bd p (by omega)) (ri.bd k hk) hb.1 hb.1
  have a2 : (M p * P k).natAbs <= 128 * 128:=cut (ri.bd p (by omega)) (rp.bd k hk) hb.1 hb.1
  have a3:=jU (P p * M k) (M p * P k)
  omega
structure SolB (n : Nat) (x : List Xw) : Prop where
 len : x.length = n
 ex : ∃ D : Int,D ≠ 0 /\ D.natAbs <= 2048 /\ ∀ k,k < n -> ∃ X : Int,fnL x k * (D : Xw) = (X : Xw) /\ X.natAbs <= 67108864
theorem wK {n : Nat} {m0 : List (List Xw)} {x : List Xw} (hn : n <= 4) (hl : m0.length = n) (hr : ∀ r ∈ m0,r.length = n + 1) (hb : Bd n 0 m0) (h : solQ n m0 = some x) : SolB n x:=by
 rw [solQ] at h
 cases e : gj m0 n with
 | none=>rw [e] at h; cases h
 | some m =>
   obtain ⟨g,b⟩:=lJ hl hr hb n (Jv _) m e
   rw [e,Jg,Jx] at h
   subst h
   obtain ⟨D,h1,h2,h3⟩:=b
   have hb:=bb4 hn
   refine ⟨by simp [outM],D,h1,by omega,fun k hk=>?_⟩
   obtain ⟨s,M,r,he⟩:=h3 k hk
   obtain ⟨x,hx⟩:=he hk
   have hxn : x ≠ 0:=fun e=>h1 (by rw [hx,e,Int.mul_zero])
   have hMn : M k ≠ 0:=fun e=>h1 (by rw [hx,e,Int.zero_mul])
   have hxb : x.natAbs <= 2048:=by
    have h4 : (M k * x).natAbs <= 2048:=by rw [<- hx]; omega
    rw [Int.natAbs_mul] at h4
    have h5:=Zk x.natAbs (show 1 <= (M k).natAbs by omega)
    omega
   refine ⟨M n * x,?_,?_⟩
   ·rw [fnL,gd (by simpa [outM] using hk)]
    simp only [outM,List.getElem_map,List.getElem_range]
    have e1:=r.eq k (by omega)
    have e2:=r.eq n (by omega)
    have e3:=g.piv k hk
    rw [hx,Rat.intCast_mul,Rat.intCast_mul]
    grind
   ·exact Zy (cG (Zy (r.bd n (by omega)) hb.1) hxb) (by omega)
def cq {α : Type} : Nat -> List α -> List (List α)
 | 0,_=>[[]]
 | _ + 1,[]=>[]
 | n + 1,a :: l=>(cq n l).map (a :: ·) ++ cq (n + 1) l
theorem qP {α : Type} : ∀ {n : Nat} {l M : List α},M ∈ cq n l ↔ M.Sublist l /\ M.length = n
 | 0, l, M => by
   simp only [cq,Qg]
   constructor
   ·rintro rfl; exact ⟨List.nil_sublist _,rfl⟩
   ·rintro ⟨_,h⟩; exact List.eq_nil_of_length_eq_zero h
 | n + 1, [], M => by
   simp only [cq,List.not_mem_nil,false_iff,not_and,List.sublist_nil]
   rintro rfl; simp
 | n + 1, a :: l, M => by
   simp only [cq,Qq,Xz,qP,List.sublist_cons_iff]
   constructor
   ·rintro (⟨x,⟨h1,h2⟩,rfl⟩ | ⟨h1,h2⟩)
    ·exact ⟨.inr ⟨x,rfl,h1⟩,by simp [h2]⟩
    ·exact ⟨.inl h1,h2⟩
   ·rintro ⟨h | ⟨x,rfl,h⟩,h2⟩
    ·exact .inr ⟨h,h2⟩
    ·exact .inl ⟨x,⟨h,by simpa using h2⟩,rfl⟩
def bG (n j : Nat) : List Xw:=(List.range n).map fun k=>if k = j then 1 else 0
def augR (A : List (List Xw)) (n : Nat) : List (List Xw):=A.map (· ++ [1]) ++ (List.range n).map fun j=>bG n j ++ [0]
def sumQ (x : List Xw) : Xw:=dotF x.length (fun _=>1) (fnL x)
def fQ (A : List (List Xw)) (x : List Xw) : Bool:=x.all (fun q=>decide (0 <= q)) && A.all fun r=>decide (1 <= dotF x.length (fnL r) (fnL x))
def lY (out : List (List Xw)) (x : List Xw) : List (List Xw):=if x ∈ out then out else out ++ [x]
def du (A : List (List Xw)) (n : Nat) (out : List (List Xw)) (M : List (List Xw)) : List (List Xw):=match solQ n M with
 | some x=>if fQ A x then lY out x else out
 | none=>out
def ptsQ (A : List (List Xw)) (n : Nat) : List (List Xw):=(cq n (augR A n)).foldl (du A n) []
def kZ (b : Option (List Xw × Xw)) (x : List Xw) : Option (List Xw × Xw):=match b with
 | none=>some (x,sumQ x)
 | some p=>if sumQ x < p.2 then some (x,sumQ x) else some p
def xk (l : List (List Xw)) : Option (List Xw × Xw):=l.foldl kZ none
def minQ (A : List (List Xw)) (n : Nat) : Option (List Xw × Xw):=xk (ptsQ A n)
theorem yM {out : List (List Xw)} {x y : List Xw} : y ∈ lY out x ↔ y ∈ out \/ y = x:=by
 rw [lY]
 split
 ·rename_i h
  constructor
  ·exact .inl
  ·rintro (h1 | rfl)
   ·exact h1
   ·exact h
 ·simp
theorem wB {A : List (List Xw)} {n : Nat} {out M : List (List Xw)} {y : List Xw} : y ∈ du A n out M ↔ y ∈ out \/ (solQ n M = some y /\ fQ A y = true):=by
 rw [du]
 cases h : solQ n M with
 | none=>simp
 | some x =>
   simp only [Jx]
   split
   ·rename_i hf
    rw [yM]
    constructor
    ·rintro (h | rfl)
     ·exact .inl h
     ·exact .inr ⟨rfl,hf⟩
    ·rintro (h | ⟨rfl,_⟩)
     ·exact .inl h
     ·exact .inr rfl
   ·rename_i hf
    constructor
    ·exact .inl
    ·rintro (h | ⟨rfl,h⟩)
     ·exact h
     ·exact absurd h hf
theorem uL {A : List (List Xw)} {n : Nat} {y : List Xw} : ∀ (l : List (List (List Xw))) (out : List (List Xw)),y ∈ l.foldl (du A n) out ↔ y ∈ out \/ ∃ M ∈ l,solQ n M = some y /\ fQ A y = true
 | [],out=>by simp
 | M :: l, out => by
   rw [List.foldl_cons,uL l,wB]
   simp only [Zz]
   constructor
   ·rintro ((h | h) | ⟨M',hM,h⟩)
    ·exact .inl h
    ·exact .inr ⟨M,.inl rfl,h⟩
    ·exact .inr ⟨M',.inr hM,h⟩
   ·rintro (h | ⟨M',rfl | hM,h⟩)
    ·exact .inl (.inl h)
    ·exact .inl (.inr h)
    ·exact .inr ⟨M',hM,h⟩
theorem sF {A : List (List Xw)} {n : Nat} {y : List Xw} : y ∈ ptsQ A n ↔ ∃ M,M.Sublist (augR A n) /\ M.length = n /\ solQ n M = some y /\ fQ A y = true:=by
 rw [ptsQ,uL]
 simp only [List.not_mem_nil,false_or,qP]
 constructor
 ·rintro ⟨M,⟨h1,h2⟩,h⟩; exact ⟨M,h1,h2,h⟩
 ·rintro ⟨M,h1,h2,h⟩; exact ⟨M,⟨h1,h2⟩,h⟩
theorem mV : ∀ (l : List (List Xw)) (b : Option (List Xw × Xw)),(∀ p,b = some p -> p.2 = sumQ p.1) ->
  (∀ p,l.foldl kZ b = some p -> p.2 = sumQ p.1 /\ (p.1 ∈ l \/ b = some p) /\ (∀ x ∈ l,p.2 <= sumQ x) /\ ∀ p',b = some p' -> p.2 <= p'.2) /\ (l.foldl kZ b = none -> b = none /\ l = [])
 | [], b, hb => by
   refine ⟨fun p hp=>⟨hb p hp,.inr hp,by simp,fun p' hp'=>?_⟩,fun h=>⟨h,rfl⟩⟩
   rw [List.foldl_nil] at hp
   rw [hp,Jx] at hp'
   subst hp'; exact Rat.le_refl
 | x :: l, b, hb => by
   have hs : ∃ p,kZ b x = some p /\ p.2 = sumQ p.1 /\ (p.1 = x \/ b = some p) /\ p.2 <= sumQ x /\ ∀ p',b = some p' -> p.2 <= p'.2:=by
    cases b with
    | none=>exact ⟨(x,sumQ x),rfl,rfl,.inl rfl,Rat.le_refl,fun p' h=>by cases h⟩
    | some q =>
      simp only [kZ]
      by_cases h : sumQ x < q.2
      ·rw [if_pos h]
       exact ⟨(x,sumQ x),rfl,rfl,.inl rfl,Rat.le_refl,fun p' h'=>by simp only [Jx] at h'; subst h'; exact Rat.le_of_lt h⟩
      ·rw [if_neg h]
       exact ⟨q,rfl,hb q rfl,.inr rfl,by grind,fun p' h'=>by simp only [Jx] at h'; subst h'; exact Rat.le_refl⟩
   obtain ⟨q,h1,h2,h3,h4,h5⟩:=hs
   rw [List.foldl_cons,h1]
   obtain ⟨i1,i2⟩:=mV l (some q) fun p hp=>by simp only [Jx] at hp; subst hp; exact h2
   refine ⟨fun p hp=>?_,fun h=>absurd (i2 h).1 (by simp)⟩
   obtain ⟨j1,j2,j3,j4⟩:=i1 p hp
   have j5:=j4 q rfl
   refine ⟨j1,?_,fun y hy=>?_,fun p' hp'=>by have:=h5 p' hp'; grind⟩
   ·rcases j2 with h | h
    ·exact .inl (List.mem_cons_of_mem _ h)
    ·simp only [Jx] at h
     subst h
     rcases h3 with h | h
     ·exact .inl (by rw [h]; simp)
     ·exact .inr h
   ·rcases Zz.1 hy with rfl | hy
    ·grind
    ·exact j3 y hy
theorem yR {l : List (List Xw)} (h : l ≠ []) : ∃ p,xk l = some p /\ p.2 = sumQ p.1 /\ p.1 ∈ l /\ ∀ x ∈ l,p.2 <= sumQ x:=by
 obtain ⟨h1,h2⟩:=mV l none (fun p h=>by cases h)
 cases e : l.foldl kZ none with
 | none=>exact absurd (h2 e).2 h
 | some p =>
   obtain ⟨a,b,c,_⟩:=h1 p e
   refine ⟨p,e,a,?_,c⟩
   rcases b with b | b
   ·exact b
   ·cases b
structure tg (A : List (List Xw)) (n : Nat) : Prop where
 len : ∀ r ∈ A,r.length = n
 z : ∀ r ∈ A,∀ q ∈ r,q = 0 \/ q = 1
 one : ∀ r ∈ A,∃ q ∈ r,q = 1
def pz (A : List (List Xw)) (n : Nat) (y : Nat -> Xw) : Prop:=(∀ k,k < n -> 0 <= y k) /\ ∀ r ∈ A,1 <= dotF n (fnL r) y
theorem jb {n j k : Nat} (hk : k < n) : fnL (bG n j) k = if k = j then 1 else 0:=by
 rw [fnL,gd (by simpa [bG] using hk)]; simp [bG]
theorem jh {r : List Xw} {n : Nat} {b : Xw} (hr : r.length = n) : (∀ k,k < n -> fnL (r ++ [b]) k = fnL r k) /\ fnL (r ++ [b]) n = b:=by
 constructor
 ·intro k hk
  rw [fnL,fnL,gd (by simp; omega),gd (by omega),List.getElem_append_left]
 ·rw [fnL,gd (by simp; omega)]
  simp [<- hr]
theorem kt {A : List (List Xw)} {n : Nat} {r : List Xw} : r ∈ augR A n ↔ (∃ a ∈ A,r = a ++ [1]) \/ ∃ j,j < n /\ r = bG n j ++ [0]:=by
 simp only [augR,Qq,Xz,Zg]
 constructor
 ·rintro (⟨a,h,rfl⟩ | ⟨j,h,rfl⟩)
  ·exact .inl ⟨a,h,rfl⟩
  ·exact .inr ⟨j,h,rfl⟩
 ·rintro (⟨a,h,rfl⟩ | ⟨j,h,rfl⟩)
  ·exact .inl ⟨a,h,rfl⟩
  ·exact .inr ⟨j,h,rfl⟩
theorem rU {A : List (List Xw)} {n : Nat} (h : tg A n) : ∀ r ∈ augR A n,r.length = n + 1:=fun r hr=>by
 rcases kt.1 hr with ⟨a,ha,rfl⟩ | ⟨j,_,rfl⟩
 ·simp [h.len a ha]
 ·simp [bG]
theorem vN {A : List (List Xw)} {n : Nat} (h : tg A n) : ∀ r ∈ augR A n,∀ q ∈ r,q = 0 \/ q = 1:=fun r hr q hq=>by
 rcases kt.1 hr with ⟨a,ha,rfl⟩ | ⟨j,_,rfl⟩
 ·rcases Qq.1 hq with hq | hq
  ·exact h.z a ha q hq
  ·exact .inr (Qg.1 hq)
 ·rcases Qq.1 hq with hq | hq
  ·obtain ⟨k,_,rfl⟩:=Xz.1 hq
   split
   ·exact .inr rfl
   ·exact .inl rfl
  ·exact .inl (Qg.1 hq)
theorem xj {n : Nat} {M : List (List Xw)} (hl : M.length = n) (h : ∀ r ∈ M,∀ q ∈ r,q = 0 \/ q = 1) : Bd n 0 M:=by
 refine ⟨1,by omega,by simp [cbQ],fun i hi=>⟨1,fun k=>if rowQ M i k = 1 then 1 else 0,⟨by omega,by simp [cbQ],fun k _=>?_,fun k _=>?_⟩,fun h=>by omega⟩⟩
 ·have hr:=h _ (getD_mem' (i:=i) (d:=[]) (by omega))
  have : rowQ M i k = 0 \/ rowQ M i k = 1:=by
   by_cases hk : k < (M.getD i []).length
   ·rw [rowQ,fnL,gd hk]
    exact hr _ (Jy hk)
   ·left
    rw [rowQ,fnL,List.getD,List.getElem?_eq_none (by omega)]; rfl
  rcases this with e | e
  ·rw [e,if_neg (by grind)]; simp
  ·rw [e,if_pos rfl]; simp
 ·simp only [bbQ]
  split <;> decide
theorem uO {n : Nat} {v : Nat -> Xw} {k : Nat} (hk : k < n) : fnL ((List.range n).map v) k = v k:=by
 rw [fnL,gd (by simpa using hk)]; simp
theorem EJ {A : List (List Xw)} {n : Nat} (h : tg A n) : ∃ p,minQ A n = some p /\ p.1.length = n /\ p.2 = dotF n (fun _=>1) (fnL p.1) /\ pz A n (fnL p.1) /\ ∀ y,pz A n y -> p.2 <= dotF n (fun _=>1) y:=by
 have hrow : ∀ r ∈ augR A n,r.length = n + 1:=rU h
 have key : ∀ y,pz A n y -> ∃ x ∈ ptsQ A n,x.length = n /\ sumQ x <= dotF n (fun _=>1) y:=fun y hy=>by
  obtain ⟨C,hC⟩ : ∃ C : List Cst,C = (augR A n).map fun r=>(fnL r,fnL r n):=⟨_,rfl⟩
  have hfe : ∀ y,xE n C y ↔ pz A n y:=fun y=>by
   constructor
   ·intro hf
    refine ⟨fun k hk=>?_,fun r hr=>?_⟩
    ·have h1:=hf (fnL (bG n k ++ [0]),fnL (bG n k ++ [0]) n) (by rw [hC]; exact Xz.2 ⟨_,kt.2 (.inr ⟨k,hk,rfl⟩),rfl⟩)
     have h2:=jh (r:=bG n k) (n:=n) (b:=0) (by simp [bG])
     simp only [h2.2] at h1
     rw [b7 (a':=fnL (bG n k)) (x':=y) h2.1 (fun _ _=>rfl),fB (j:=k) hk fun i hi hik=>by rw [jb hi,if_neg hik]; grind,jb hk,if_pos rfl] at h1
     grind
    ·have h1:=hf (fnL (r ++ [1]),fnL (r ++ [1]) n) (by rw [hC]; exact Xz.2 ⟨_,kt.2 (.inl ⟨r,hr,rfl⟩),rfl⟩)
     have h2:=jh (r:=r) (n:=n) (b:=1) (h.len r hr)
     simp only [h2.2] at h1
     rwa [b7 (a':=fnL r) (x':=y) h2.1 (fun _ _=>rfl)] at h1
   ·rintro ⟨h1,h2⟩ p hp
    rw [hC] at hp
    obtain ⟨r,hr,rfl⟩:=Xz.1 hp
    rcases kt.1 hr with ⟨a,ha,rfl⟩ | ⟨j,hj,rfl⟩
    ·have h3:=jh (r:=a) (n:=n) (b:=1) (h.len a ha)
     simp only [h3.2]
     rw [b7 (a':=fnL a) (x':=y) h3.1 (fun _ _=>rfl)]
     exact h2 a ha
    ·have h3:=jh (r:=bG n j) (n:=n) (b:=0) (by simp [bG])
     simp only [h3.2]
     rw [b7 (a':=fnL (bG n j)) (x':=y) h3.1 (fun _ _=>rfl),fB (j:=j) hj fun i hi hik=>by rw [jb hi,if_neg hik]; grind,jb hj,if_pos rfl]
     have:=h1 j hj
     grind
  obtain ⟨v,v1,v2,v3⟩:=yJ (n:=n) (C:=C) (c:=fun _=>1) (fun _ _=>by show (0 : Xw) <= 1; decide) (fun k hk=>by
   refine ⟨(fnL (bG n k ++ [0]),fnL (bG n k ++ [0]) n),by rw [hC]; exact Xz.2 ⟨_,kt.2 (.inr ⟨k,hk,rfl⟩),rfl⟩,?_,fun x=>?_⟩
   ·exact (jh (by simp [bG])).2
   ·have h2:=jh (r:=bG n k) (n:=n) (b:=0) (by simp [bG])
    simp only
    rw [b7 (a':=fnL (bG n k)) (x':=x) h2.1 (fun _ _=>rfl),fB (j:=k) hk fun i hi hik=>by rw [jb hi,if_neg hik]; grind,jb hk,if_pos rfl]
    grind) _ y ((hfe y).2 hy) (Jv _)
  obtain ⟨B,hB,hBl,hBk⟩:=xO _ _ (Jv _) v3
  have he : (C.filter (tgt n v)).map Prod.fst = ((augR A n).filter fun r=>tgt n v (fnL r,fnL r n)).map fnL:=by
   rw [hC,List.filter_map,List.map_map]
   rfl
  rw [he] at hB
  obtain ⟨M,hM,rfl⟩:=List.sublist_map_iff.1 hB
  have hMs : M.Sublist (augR A n):=hM.trans List.filter_sublist
  have hMt : ∀ r ∈ M,dotF n (fnL r) v = fnL r n:=fun r hr=>by
   have:=(List.mem_filter.1 (hM.subset hr)).2
   simpa [tgt] using this
  have hMl : M.length = n:=by simpa using hBl
  have hMr : ∀ r ∈ M,r.length = n + 1:=fun r hr=>hrow r (hMs.subset hr)
  have hMb : Bd n 0 M:=xj hMl fun r hr=>vN h r (hMs.subset hr)
  have hs:=C5 hMl hMr hMb hBk hMt
  have hvf:=(hfe v).1 v1
  have hsum : sumQ ((List.range n).map v) = dotF n (fun _=>1) v:=by
   rw [sumQ,List.length_map,List.length_range]
   exact b7 (fun _ _=>rfl) fun k hk=>uO hk
  refine ⟨(List.range n).map v,sF.2 ⟨M,hMs,hMl,hs,?_⟩,by simp,?_⟩
  ·simp only [fQ,Jq,Jk,Xj,List.length_map,List.length_range]
   refine ⟨fun q hq=>?_,fun r hr=>?_⟩
   ·obtain ⟨k,hk,rfl⟩:=Xz.1 hq
    exact hvf.1 k (Zg.1 hk)
   ·rw [b7 (a':=fnL r) (x':=v) (fun _ _=>rfl) fun k hk=>uO hk]
    exact hvf.2 r hr
  ·rw [hsum]; exact v2
 have h1 : pz A n (fun _=>1):=by
  refine ⟨fun _ _=>by show (0 : Xw) <= 1; decide,fun r hr=>?_⟩
  obtain ⟨q,hq,rfl⟩:=h.one r hr
  obtain ⟨i,hi,hqi⟩:=List.mem_iff_getElem.1 hq
  have hl:=h.len r hr
  have hz : ∀ k,k < n -> 0 <= fnL r k:=fun k hk=>by
   rw [fnL,gd (by omega)]
   rcases h.z r hr _ (Jy (show k < r.length by omega)) with e | e <;> rw [e] <;> decide
  have hd : dotF n (fnL r) (fun _=>1) = dotF n (fun k=>fnL r k - if k = i then 1 else 0) (fun _=>1) + dotF n (fun k=>if k = i then 1 else 0) (fun _=>1):=by
   rw [cg (fun k=>fnL r k - if k = i then 1 else 0),cg (fun k=>if k = i then (1 : Xw) else 0),<- iO,cg]
   exact b7 (fun _ _=>rfl) fun k _=>by grind
  have h2 : 0 <= dotF n (fun k=>fnL r k - if k = i then 1 else 0) (fun _=>1):=jM fun k hk=>by
   by_cases e : k = i
   ·subst e
    have : fnL r k = 1:=by rw [fnL,gd hi,hqi]
    rw [this,if_pos rfl]; grind
   ·have:=hz k hk
    rw [if_neg e]; grind
  have h3 : dotF n (fun k=>if k = i then (1 : Xw) else 0) (fun _=>1) = 1:=by
   rw [fB (j:=i) (by omega) fun k _ hk=>by rw [if_neg hk]; grind,if_pos rfl]
   grind
  rw [hd,h3]
  grind
 obtain ⟨x0,hx0,_⟩:=key _ h1
 obtain ⟨p,p1,p2,p3,p4⟩:=yR (List.ne_nil_of_mem hx0)
 obtain ⟨M,hM,hMl,hMs,hMf⟩:=sF.1 p3
 have hpl : p.1.length = n:=by
  rw [solQ] at hMs
  cases e : gj M n with
  | none=>rw [e] at hMs; cases hMs
  | some m=>rw [e,Jg,Jx] at hMs; rw [<- hMs]; simp [outM]
 refine ⟨p,p1,hpl,by rw [p2,sumQ,hpl],?_,fun y hy=>?_⟩
 ·simp only [fQ,Jq,Jk,Xj,hpl] at hMf
  exact ⟨fun k hk=>by rw [fnL,gd (by omega)]; exact hMf.1 _ (Jy _),hMf.2⟩
 ·obtain ⟨x,hx,_,hs⟩:=key y hy
  have:=p4 x hx
  grind
theorem u3 {a b : Int} (h : b ∣ a) : a.tdiv b = a / b:=Int.tdiv_eq_ediv_of_dvd h
theorem HQ (n d : Int) (hd : 0 < d) : (_root_.Rat.divInt n d).num = n.tdiv (Nat.gcd n.natAbs d.natAbs : Nat) /\ (((_root_.Rat.divInt n d).den : Nat) : Int) = d.tdiv (Nat.gcd n.natAbs d.natAbs : Nat):=by
 have e : _root_.Rat.divInt n d = _root_.Rat.normalize n d.natAbs (by omega):=by
  have : d = (d.natAbs : Int):=by omega
  conv=>lhs; rw [this]
  show _root_.mkRat n d.natAbs = _
  rw [_root_.Rat.normalize_eq_mkRat]
 rw [e,_root_.Rat.normalize_eq]
 simp only
 have h1 : ((Nat.gcd n.natAbs d.natAbs : Nat) : Int) ∣ n:=Int.ofNat_dvd_left.2 (Nat.gcd_dvd_left _ _)
 have h2 : ((Nat.gcd n.natAbs d.natAbs : Nat) : Int) ∣ d:=Int.ofNat_dvd_left.2 (Nat.gcd_dvd_right _ _)
 rw [u3 h1,u3 h2]
 refine ⟨rfl,?_⟩
 rw [Int.natCast_ediv]
 congr 1
 omega
theorem J2 (a b : Xw) : a + b = _root_.Rat.divInt (a.num * b.den + b.num * a.den) ((a.den : Int) * b.den):=by
 rw [_root_.Rat.add_def,_root_.Rat.normalize_eq_mkRat]
 rfl
theorem J4 (a b : Xw) : a * b = _root_.Rat.divInt (a.num * b.num) ((a.den : Int) * b.den):=by
 rw [_root_.Rat.mul_def,_root_.Rat.normalize_eq_mkRat]
 rfl
theorem HR (a : Xw) : _root_.Rat.divInt a.num a.den = a:=_root_.Rat.num_divInt_den a
theorem J3 (a b : Xw) : a / b = _root_.Rat.divInt (a.num * b.den) ((a.den : Int) * b.num):=by
 rw [_root_.Rat.div_def,_root_.Rat.inv_def]
 conv=>lhs; rw [<- HR a]
 rw [_root_.Rat.divInt_mul_divInt]
theorem HP (n d : Int) : _root_.Rat.divInt (-n) (-d) = _root_.Rat.divInt n d:=_root_.Rat.neg_divInt_neg n d
theorem uM (a : Xw) : (-a).num = - a.num /\ (-a).den = a.den:=⟨rfl,rfl⟩
theorem J5 (a b : Xw) : a - b = a + -b:=by grind
def r01 (b : Bool) : Xw:=if b then 1 else 0
def covM (atoms : List aH) (bag : List Int) : List (List Xw):=bag.map fun v=>atoms.map fun a=>r01 (a.vars.contains v)
def widQ (atoms : List aH) (bag : List Int) : Xw:=((minQ (covM atoms bag) atoms.length).map (·.2)).getD 0
def sf (atoms : List aH) (bag : List Int) : Prop:=∀ v ∈ bag,∃ a ∈ atoms,v ∈ a.vars
theorem xn {atoms : List aH} {bag : List Int} (h : sf atoms bag) : tg (covM atoms bag) atoms.length:=by
 refine ⟨fun r hr=>?_,fun r hr q hq=>?_,fun r hr=>?_⟩
 ·obtain ⟨v,_,rfl⟩:=Xz.1 hr; simp
 ·obtain ⟨v,_,rfl⟩:=Xz.1 hr
  obtain ⟨a,_,rfl⟩:=Xz.1 hq
  simp only [r01]; split <;> simp
 ·obtain ⟨v,hv,rfl⟩:=Xz.1 hr
  obtain ⟨a,ha,hva⟩:=h v hv
  exact ⟨1,Xz.2 ⟨a,ha,by simp [r01,hva]⟩,rfl⟩
theorem F5 {atoms : List aH} {bag : List Int} (h : sf atoms bag) : ∃ p,minQ (covM atoms bag) atoms.length = some p /\ p.2 = widQ atoms bag /\ p.1.length = atoms.length /\
  p.2 = dotF atoms.length (fun _=>1) (fnL p.1) /\ pz (covM atoms bag) atoms.length (fnL p.1) /\ ∀ y,pz (covM atoms bag) atoms.length y -> p.2 <= dotF atoms.length (fun _=>1) y:=by
 obtain ⟨p,h1,h2,h3,h4,h5⟩:=EJ (xn h)
 exact ⟨p,h1,by simp [widQ,h1],h2,h3,h4,h5⟩
def qR (q : Xw) : PRat:=⟨q.num,q.den⟩
theorem HO {a b : Xw} : qR a = qR b ↔ a = b:=by
 constructor
 ·intro h
  have h1 : a.num = b.num:=congrArg PRat.num h
  have h2 : (a.den : Int) = b.den:=congrArg PRat.den h
  exact _root_.Rat.ext h1 (by omega)
 ·rintro rfl; rfl
def cmpQ (a b : Xw) : Int:=if a < b then -1 else if b < a then 1 else 0
theorem oq {a b : Xw} : cmpQ a b < 0 ↔ a < b:=by
 unfold cmpQ
 split
 ·simp [*]
 ·split <;> simp [*]
theorem Eb {a b : Xw} : cmpQ a b = (if a.num * b.den < b.num * a.den then -1 else if b.num * a.den < a.num * b.den then 1 else 0):=by
 unfold cmpQ
 simp only [_root_.Rat.lt_iff]
theorem mulB {a b : Int} {x y : Nat} (ha : a.natAbs <= x) (hb : b.natAbs <= y) : (a * b).natAbs <= x * y:=cG ha hb
theorem HB {q : Xw} (h : q ≠ 0) : q.num ≠ 0:=fun e=>h (_root_.Rat.num_eq_zero.1 e)
theorem wJ {q : Xw} : 0 < (q.den : Int):=by have:=q.den_pos; omega
theorem H2 (q : Xw) : Nat.gcd q.num.natAbs q.den = 1:=q.reduced
theorem H3 {q : Xw} (h : smQ q) : smQ (-q):=⟨by have:=h.1; simp [(uM q).1]; exact this,by have:=h.2; simp [(uM q).2]; exact this⟩
theorem yv : smQ 0:=by constructor <;> decide
theorem wI : smQ 1:=by constructor <;> decide
theorem sM {a b : Xw} (ha : smQ a) (hb : smQ b) : (a.num * b.den).natAbs <= 1000000000000000000 /\ (b.num * a.den).natAbs <= 1000000000000000000 /\ (a.num * b.num).natAbs <= 1000000000000000000 /\ ((a.den : Int) * b.den).natAbs <= 1000000000000000000 /\ ((a.den : Int) * b.num).natAbs <= 1000000000000000000:=by
 have h1:=ha.1
 have h2:=ha.2
 have h3:=hb.1
 have h4:=hb.2
 exact ⟨mulB h1 (y:=1000000000) (by omega),mulB h3 (y:=1000000000) (by omega),mulB h1 h3,mulB (x:=1000000000) (y:=1000000000) (by omega) (by omega),mulB (x:=1000000000) (by omega) h3⟩
theorem xy {a b : Xw} : (0 : Int) < (a.den : Int) * b.den:=Int.mul_pos wJ wJ
theorem uC {n d : Int} {q : Xw} (hq : q = _root_.Rat.divInt n d) (hd : 0 < d) : n.tdiv (Nat.gcd n.natAbs d.natAbs : Nat) = q.num /\ d.tdiv (Nat.gcd n.natAbs d.natAbs : Nat) = q.den:=by
 subst hq
 have:=HQ n d hd
 exact ⟨this.1.symm,this.2.symm⟩
theorem BF {n d : Int} (hd : 0 < d) : 1 <= Nat.gcd n.natAbs d.natAbs /\ ((Nat.gcd n.natAbs d.natAbs : Nat) : Int) <= d:=by
 have h1 : 0 < d.natAbs:=by omega
 have h2:=Nat.gcd_pos_of_pos_right n.natAbs h1
 have h3:=Nat.gcd_le_right n.natAbs h1
 omega
theorem Dj (a b : Nat) : ((a : Int).tmod (b : Int)) = ((a % b : Nat) : Int):=by
 rw [Int.tmod_eq_emod_of_nonneg (by omega)]; simp
theorem sm_i {q : Xw} (h : smQ q) : -1000000000 <= q.num /\ q.num <= 1000000000 /\ (1 : Int) <= q.den /\ (q.den : Int) <= 1000000000:=by
 have h1:=h.1
 have h2:=h.2
 have h3:=q.den_pos
 omega
def eQ (q : Xw) : List D:=eRat (qR q)
def cR (T : TypeId × Nat) (r : Nat × List Xw) : List D:=[.sl (some r.1) (some T) (r.2.map eQ)]
theorem fj (q : Xw) : eQ q = [.int .i64 q.num,.int .i64 (q.den : Int)]:=rfl
@[simp] theorem Hs (q : Xw) : (eQ q).length = 2:=rfl
@[simp] theorem ids_eQ (q : Xw) : idsL (eQ q) = []:=rfl
@[simp] theorem ids_eQs (l : List _root_.Rat) : idsLL (l.map eQ) = [] := by
  induction l with
  | nil=>rfl
  | cons a r ih=>simp [idsLL,ih]
@[simp] theorem hp_eQs (l : List _root_.Rat) : hpLL (l.map eQ) = false := by
  induction l with
  | nil=>rfl
  | cons a r ih=>simp [hpLL,hpL,eQ,eRat,cI,D.hp] at ih ⊢
@[simp] theorem tk_eQs (l : List _root_.Rat) : tkLL (l.map eQ) = true := by
  induction l with
  | nil=>rfl
  | cons a r ih=>simp [tkLL,ih,eQ,eRat,cI,tkL,D.tk]
@[simp] theorem re_eQs (φ : Nat → Option D) (l : List _root_.Rat) : reLL φ (l.map eQ) = some (l.map eQ) := by
  induction l with
  | nil=>rfl
  | cons a r ih=>simp [reLL,ih,eQ,eRat,cI,reL,reD]
@[simp] theorem Hw (T : TypeId × Nat) (r : Nat × List Xw) : idsL (cR T r) = [r.1]:=by simp [cR,idsL,D.ids]
@[simp] theorem ids_cRs (T : TypeId × Nat) (l : List (Nat × List _root_.Rat)) : idsLL (l.map (cR T)) = l.map (·.1) := by
  induction l with
  | nil=>rfl
  | cons a r ih=>simp [idsLL,ih]
@[simp] theorem cR_len (T : TypeId × Nat) (r : Nat × List Xw) : (cR T r).length = 1:=rfl
@[simp] theorem hp_cRs (T : TypeId × Nat) (l : List (Nat × List _root_.Rat)) : hpLL (l.map (cR T)) = false := by
  induction l with
  | nil=>rfl
  | cons a r ih=>simp [hpLL,hpL,cR,D.hp] at ih ⊢
@[simp] theorem tk_cRs (T : TypeId × Nat) (l : List (Nat × List _root_.Rat)) : tkLL (l.map (cR T)) = true := by
  induction l with
  | nil=>rfl
  | cons a r ih=>simp [tkLL,ih,cR,tkL,D.tk]
theorem xP {l l' : List Xw} (h : l'.length = l.length) : (l'.map eQ).map List.length = (l.map eQ).map List.length:=by
 simp only [List.map_map,Function.comp_def,Hs,List.map_const',h]
theorem Ch {α : Type} {l : List α} (h : l.Nodup) {i j : Nat} {a : α} (hi : l[i]? = some a) (hj : l[j]? = some a) : i = j:=by
 obtain ⟨hi',ei⟩:=Qx.1 hi
 obtain ⟨hj',ej⟩:=Qx.1 hj
 have h1:=List.pairwise_iff_getElem.1 h
 refine Xv fun hne=>?_
 rcases Nat.lt_or_gt_of_ne hne with hlt | hlt
 ·exact h1 i j hi' hj' hlt (ei.trans ej.symm)
 ·exact h1 j i hj' hi' hlt (ej.trans ei.symm)
theorem E2 {φ : Nat -> Option D} {gm : Nat} {TM : Option (TypeId × Nat)} {T : TypeId × Nat} {rows : List (Nat × List Xw)} {i : Nat} {g : Nat} {r r' : List Xw} (hi : rows[i]? = some (g,r)) (hl : r'.length = r.length)
  (hnd : (rows.map (·.1)).Nodup) (hgm : φ gm = none) (hg : φ g = some (.sl (some g) (some T) (r'.map eQ))) (ho : ∀ q ∈ rows.map (·.1),q ≠ g -> φ q = none) :
  reV φ (.d (.sl (some gm) TM (rows.map (cR T)))) = .d (.sl (some gm) TM ((rows.set i (g,r')).map (cR T))):=by
 obtain ⟨hlt,he⟩:=Qx.1 hi
 have h1 : rows.map (cR T) = (rows.map (cR T)).set i (cR T (g,r)):=by
  rw [<- he,p9 (by simp [hlt])]
 rw [h1,<- mH]
 refine CN hgm ?_ (fun j e hji hj q hq=>?_) (by simp)
 ·simp only [cR,reL,reD,hg]
  rw [if_pos ⟨trivial,rfl,trivial,xP hl⟩]
 ·rw [List.getElem?_map] at hj
  cases hr : rows[j]? with
  | none=>simp [hr] at hj
  | some p =>
    simp only [hr,Jg,Jx] at hj
    subst hj
    simp only [Hw,Qg] at hq
    subst hq
    have hpm : p ∈ rows:=Qk hr
    refine ho _ (Xz.2 ⟨p,hpm,rfl⟩) fun e=>hji ?_
    obtain ⟨hj',hjp⟩:=Qx.1 hr
    have a1 : (rows.map (·.1))[j]? = some g:=by simp [hr,e]
    have a2 : (rows.map (·.1))[i]? = some g:=by simp [hi]
    exact Ch hnd a1 a2
theorem VC.erase {P : Program} {f : FuncId} {args : List V} {post : Nat -> V -> Prop} {v : V} (h : VC P f args post) (hv : ∀ n r,post n r -> rp (fun _=>none) r = some v) : VC P f args (fun _ r=>r = v):=by
 refine ⟨h.1,fun w vals A hg hLR=>(h.2 w vals A hg hLR).mono fun e w' he=>?_⟩
 obtain ⟨val,r,rfl,hb,hvr,_,hp⟩:=he
 have hr:=hv _ _ hp
 exact ⟨val,v,rfl,hb,VR.er _ _ _ hvr hr,yp _ _ hr,rfl⟩
theorem cE {l : List Xw} {i : Nat} (h : i < l.length) : fnL l i = l[i]:=by rw [fnL,gd h]
structure DotS (n : Nat) (a x : Nat -> Xw) : Prop where
 sa : ∀ k,k < n -> smQ (a k)
 sx : ∀ k,k < n -> smQ (x k)
 sm : ∀ k,k < n -> smQ (a k * x k)
 ss : ∀ k,k <= n -> smQ (dotF k a x)
theorem yu {q : Xw} (h : q = 0 \/ q = 1) : smQ q:=by
 rcases h with rfl | rfl
 ·exact yv
 ·exact wI
theorem mI {n : Nat} {x : List Xw} (h : SolB n x) (hn : n <= 4) {a : Nat -> Xw} (ha : ∀ k,k < n -> a k = 0 \/ a k = 1) : DotS n a (fnL x):=by
 obtain ⟨_,D,hD,hDb,hX⟩:=h
 have hx : ∀ k,k < n -> smQ (fnL x k):=fun k hk=>by
  obtain ⟨X,h1,h2⟩:=hX k hk
  exact ry (N:=67108864) (D:=2048) ⟨D,X,hD,h1,h2,hDb⟩ (by omega) (by omega)
 obtain ⟨c,hc⟩ : ∃ c : Nat,c = 67108864:=⟨_,rfl⟩
 rw [<- hc] at hX
 have hs : ∀ k,k <= n -> ∃ M : Int,dotF k a (fnL x) * (D : Xw) = (M : Xw) /\ M.natAbs <= k * c:=by
  intro k
  induction k with
  | zero=>intro _; exact ⟨0,by simp [dotF],by simp⟩
  | succ k ih =>
    intro hk
    obtain ⟨M,h1,h2⟩:=ih (by omega)
    obtain ⟨X,h3,h4⟩:=hX k (by omega)
    rcases ha k (by omega) with e | e
    ·refine ⟨M,?_,by rw [Nat.succ_mul]; omega⟩
     rw [dotF,e]; grind
    ·refine ⟨M + X,?_,by rw [Nat.succ_mul]; omega⟩
     rw [dotF,e,Rat.intCast_add]; grind
 refine ⟨fun k hk=>yu (ha k hk),hx,fun k hk=>?_,fun k hk=>?_⟩
 ·rcases ha k hk with e | e
  ·rw [e,_root_.Rat.zero_mul]; exact yv
  ·rw [e,_root_.Rat.one_mul]; exact hx k hk
 ·obtain ⟨M,h1,h2⟩:=hs k hk
  have h3 : k * c <= 4 * c:=Zk c (by omega)
  exact ry (N:=268435456) (D:=2048) ⟨D,M,hD,h1,by omega,hDb⟩ (by omega) (by omega)
structure LPok (A : List (List Xw)) (n : Nat) : Prop where
 m01 : tg A n
 n1 : 1 <= n
 n4 : n <= 4
 m1 : 1 <= A.length
 m5 : A.length <= 5
theorem LPok.sm {A : List (List Xw)} {n : Nat} (h : LPok A n) {r : List Xw} (hr : r ∈ A) : ∀ q ∈ r,smQ q:=fun q hq=>yu (h.m01.z r hr q hq)
theorem CS {m : Nat} : ∀ q ∈ List.replicate m (1 : Xw),smQ q:=fun q hq=>by rw [List.eq_of_mem_replicate hq]; exact wI
theorem LPok.dots {A : List (List Xw)} {n : Nat} {x : List Xw} (h : LPok A n) (hx : SolB n x) {r : List Xw} (hr : r ∈ A) : DotS n (fnL r) (fnL x):=
 mI hx h.n4 fun k hk=>by
  have hl:=h.m01.len r hr
  rw [cE (by omega)]
  exact h.m01.z r hr _ (Jy _)
theorem H4 {n : Nat} {x : List Xw} (h : SolB n x) (hn : n <= 4) : ∀ q ∈ x,smQ q:=fun q hq=>by
 obtain ⟨i,hi,rfl⟩:=List.mem_iff_getElem.1 hq
 have:=(mI h hn (a:=fun _=>1) fun _ _=>.inr rfl).sx i (by rw [<- h.len]; exact hi)
 rwa [cE hi] at this
theorem one_at {n k : Nat} (h : k < n) : fnL (List.replicate n (1 : Xw)) k = 1:=by rw [cE (by simpa using h)]; simp
theorem uD {n : Nat} {x : List Xw} (hx : SolB n x) (hn : n <= 4) : DotS n (fnL (List.replicate n (1 : Xw))) (fnL x):=
 mI hx hn fun k hk=>.inr (one_at hk)
theorem uB {q : Xw} : 0 <= q ↔ 0 <= q.num:=_root_.Rat.num_nonneg.symm
theorem yB {n : Nat} {x : List Xw} (h : x.length = n) : dotF n (fnL (List.replicate n (1 : Xw))) (fnL x) = sumQ x:=by
 rw [sumQ,h]; exact b7 (fun k hk=>one_at hk) fun _ _=>rfl
def gJ (p k : Nat) (piv row : List Xw) : List Xw:=row.mapIdx fun i x=>if p <= i /\ i < k then x - fnL row p / fnL piv p * fnL piv i else x
@[simp] theorem I4 {p k : Nat} {piv row : List Xw} : (gJ p k piv row).length = row.length:=by simp [gJ]
theorem vY {p : Nat} {piv row : List Xw} : gJ p p piv row = row:=by
 apply List.ext_getElem (by simp)
 intro i h1 h2
 simp only [gJ,List.getElem_mapIdx]
 rw [if_neg (by omega)]
theorem za {p k : Nat} {piv row : List Xw} (h : row.length <= k) : gJ p k piv row = dL p piv row:=by
 apply List.ext_getElem (by simp [dL])
 intro i h1 h2
 have hi : i < row.length:=by simpa using h1
 simp only [gJ,dL,List.getElem_mapIdx]
 by_cases e : i < p
 ·rw [if_neg (by omega),if_pos e]
 ·rw [if_pos (by omega),if_neg e]
theorem A8 {p k : Nat} {piv row : List Xw} (h : k < row.length) : (gJ p k piv row)[k]'(by simpa using h) = row[k]:=by
 simp only [gJ,List.getElem_mapIdx]
 rw [if_neg (by omega)]
theorem vX {p k : Nat} {piv row : List Xw} (hp : p <= k) (h : k < row.length) : gJ p (k + 1) piv row = (gJ p k piv row).set k (row[k] - fnL row p / fnL piv p * fnL piv k):=by
 apply List.ext_getElem (by simp)
 intro i h1 h2
 have hi : i < row.length:=by simpa using h1
 rw [List.getElem_set]
 simp only [gJ,List.getElem_mapIdx]
 by_cases e : k = i
 ·subst e; rw [if_pos rfl,if_pos (by omega)]
 ·rw [if_neg e]
  by_cases e2 : p <= i /\ i < k
  ·rw [if_pos e2,if_pos (by omega)]
  ·rw [if_neg e2,if_neg (by omega)]
structure Gg (n p : Nat) (piv row : List Xw) : Prop where
 lr : row.length = n + 1
 lv : piv.length = n + 1
 hp : p <= n
 ne : fnL piv p ≠ 0
 f : smQ (fnL row p / fnL piv p)
 r : ∀ k,k <= n -> smQ (fnL row k)
 v : ∀ k,k <= n -> smQ (fnL piv k)
 q : ∀ k,k <= n -> smQ (fnL row p / fnL piv p * fnL piv k)
 d : ∀ k,k <= n -> smQ (fnL row k - fnL row p / fnL piv p * fnL piv k)
theorem zb {p : Nat} {piv row : List Xw} (h : fnL row p = 0) : dL p piv row = row:=by
 apply List.ext_getElem (by simp [dL])
 intro i h1 h2
 simp only [dL,List.getElem_mapIdx]
 split
 ·rfl
 ·simp only [h]; grind
def dV (p i : Nat) (m : List (List Xw)) : List (List Xw):=m.mapIdx fun j r=>if j < i /\ j ≠ p then dL p (m.getD p []) r else r
@[simp] theorem Ji {p i : Nat} {m : List (List Xw)} : (dV p i m).length = m.length:=by simp [dV]
theorem wM {p : Nat} {m : List (List Xw)} : dV p 0 m = m:=by
 apply List.ext_getElem (by simp)
 intro i h1 h2
 simp only [dV,List.getElem_mapIdx]
 rw [if_neg (by omega)]
theorem zV {p i : Nat} {m : List (List Xw)} (h : m.length <= i) : dV p i m = eV p m:=by
 apply List.ext_getElem (by simp [eV])
 intro j h1 h2
 have hj : j < m.length:=by simpa using h1
 simp only [dV,eV,List.getElem_mapIdx]
 by_cases e : j = p
 ·rw [if_neg (by omega),if_pos e]
 ·rw [if_pos ⟨by omega,e⟩,if_neg e]
theorem uY {p i : Nat} {m : List (List Xw)} (h : i < m.length) : (dV p i m)[i]'(by simpa using h) = m[i]:=by
 simp only [dV,List.getElem_mapIdx]
 rw [if_neg (by omega)]
theorem zW {p i : Nat} {m : List (List Xw)} (h : p < m.length) : (dV p i m)[p]'(by simpa using h) = m[p]:=by
 simp only [dV,List.getElem_mapIdx]
 rw [if_neg (by simp)]
theorem Ff {p : Nat} {m : List (List Xw)} : dV p (p + 1) m = dV p p m:=by
 apply List.ext_getElem (by simp)
 intro j h1 h2
 simp only [dV,List.getElem_mapIdx]
 by_cases e : j < p
 ·rw [if_pos (by omega),if_pos (by omega)]
 ·rw [if_neg (by omega),if_neg (by omega)]
theorem wL {p i : Nat} {m : List (List Xw)} (h : i < m.length) (hp : p < m.length) (hne : i ≠ p) : dV p (i + 1) m = (dV p i m).set i (dL p m[p] m[i]):=by
 apply List.ext_getElem (by simp)
 intro j h1 h2
 rw [List.getElem_set]
 simp only [dV,List.getElem_mapIdx,gd hp]
 by_cases e : i = j
 ·subst e; rw [if_pos ⟨by omega,hne⟩,if_pos rfl]
 ·rw [if_neg e]
  by_cases e2 : j < i /\ j ≠ p
  ·rw [if_pos ⟨by omega,e2.2⟩,if_pos e2]
  ·rw [if_neg (fun h=>e2 ⟨by omega,h.2⟩),if_neg e2]
theorem xf.elim {n p i : Nat} {m : List (List Xw)} (h : xf n p m) (hl : m.length = n) (hr : ∀ r ∈ m,r.length = n + 1) (hp : p < n) (hi : i < n) (hne : rowQ m p p ≠ 0) : Gg n p (m[p]'(by omega)) (m[i]'(by omega)):=by
 have e1 : ∀ j (hj : j < n),rowQ m j = fnL (m[j]'(by omega)):=fun j hj=>by rw [rowQ,gd]
 have:=e1 p hp
 have:=e1 i hi
 refine ⟨hr _ (Jy _),hr _ (Jy _),by omega,?_,?_,fun k hk=>?_,fun k hk=>?_,fun k hk=>?_,fun k hk=>?_⟩
 ·rw [<- e1 p hp]; exact hne
 ·rw [<- e1 p hp,<- e1 i hi]; exact h.f i hi
 ·rw [<- e1 i hi]; exact h.at_ i k hi hk
 ·rw [<- e1 p hp]; exact h.at_ p k hp hk
 ·rw [<- e1 p hp,<- e1 i hi]; exact h.q i k hi hk
 ·rw [<- e1 p hp,<- e1 i hi]; exact h.d i k hi hk
theorem E3 {g : Nat} {T : TypeId × Nat} {l l' : List Xw} (h : l'.length = l.length) : reV (one g (.sl (some g) (some T) (l'.map eQ))) (.d (.sl (some g) (some T) (l.map eQ))) = .d (.sl (some g) (some T) (l'.map eQ)):=by
 refine CK ?_
 simp only [reD,one,if_true]
 rw [if_pos ⟨trivial,rfl,trivial,xP h⟩]
theorem Cq {m : List (List Xw)} {p k : Nat} (hp : p <= k) (hz : ∀ j,p <= j -> j < k -> rowQ m j p = 0) (h : k = m.length \/ (k < m.length /\ rowQ m k p ≠ 0)) : fF m p = k:=by
 have hk : k <= m.length:=by omega
 have key : (m.drop p).findIdx (fun r=>decide (fnL r p ≠ 0)) = k - p:=by
  rcases h with h | ⟨h1,h2⟩
  ·have : (m.drop p).findIdx (fun r=>decide (fnL r p ≠ 0)) = (m.drop p).length:=by
    rw [List.findIdx_eq_length]
    intro x hx
    obtain ⟨j,hj,rfl⟩:=List.mem_iff_getElem.1 hx
    rw [List.length_drop] at hj
    have:=hz (p + j) (by omega) (by omega)
    rw [rowQ,gd (by omega)] at this
    simp only [List.getElem_drop,this,ne_eq,not_true_eq_false,decide_false]
   rw [this,List.length_drop]; omega
  ·rw [List.findIdx_eq (by rw [List.length_drop]; omega)]
   constructor
   ·simp only [List.getElem_drop,Xj]
    rw [rowQ,gd h1] at h2
    have : p + (k - p) = k:=by omega
    simp only [this]; exact h2
   ·intro j hj
    have:=hz (p + j) (by omega) (by omega)
    rw [rowQ,gd (by omega)] at this
    simp only [List.getElem_drop,this,ne_eq,not_true_eq_false,decide_false]
 unfold fF
 rw [key]; omega
theorem xG {m0 : List (List Xw)} {p : Nat} (h : gj m0 p = none) : ∀ q,p <= q -> gj m0 q = none
 | 0, hq => by have : p = 0 := by omega
               subst this; exact h
 | q + 1, hq => by
   by_cases e : p = q + 1
   ·subst e; exact h
   ·rw [gj,xG h q (by omega)]; rfl
theorem xH {m0 m : List (List Xw)} {p : Nat} (h : gj m0 p = some m) : gj m0 (p + 1) = nj p m:=by rw [gj,h]; rfl
theorem C4 {n p : Nat} {m0 m : List (List Xw)} (h : gj m0 p = some m) (hk : ¬ fF m p < m.length) (hp : p < n) : solQ n m0 = none:=by
 rw [solQ,xG (p:=p + 1) (by rw [xH h,nj,if_neg hk]) n hp]; rfl
structure StpI (n p k : Nat) (R M : List (List Xw)) : Prop where
 kn : k < n
 pk : p <= k
 safe : xf n p (dW M p k)
 len : (dW M p k).length = n
 row : ∀ r ∈ dW M p k,r.length = n + 1
 ne : rowQ (dW M p k) p p ≠ 0
 nxt : gj R (p + 1) = some (eV p (dW M p k))
theorem H5 {n p k : Nat} {R M : List (List Xw)} (hn : n <= 4) (hl : R.length = n) (hr : ∀ r ∈ R,r.length = n + 1) (hb : Bd n 0 R) (h : gj R p = some M) (hp : p < n) (hk : fF M p = k) (hkn : k < n) : StpI n p k R M:=by
 obtain ⟨g,b⟩:=lJ hl hr hb p (by omega) M h
 have hM:=g.len
 have hpl : fF M p < M.length:=by omega
 obtain ⟨h1,h2⟩:=Cr hpl
 rw [hk] at h1 h2
 have g2:=g.swap h1 hkn
 have b2:=Bd.swap g h1 hkn b
 have hne : rowQ (dW M p k) p p ≠ 0:=by
  rw [rowQ,iZ (by omega) (by omega)]
  by_cases e : p = k
  ·rw [if_pos e]; subst e; exact h2
  ·rw [if_neg e,if_pos rfl]; exact h2
 refine ⟨hkn,h1,D5 b2 (by omega) hp hne,g2.len,g2.row,hne,?_⟩
 rw [xH h,nj,if_pos hpl,hk]
theorem Fc {n : Nat} {R M : List (List Xw)} (hn : n <= 4) (hl : R.length = n) (hr : ∀ r ∈ R,r.length = n + 1) (hb : Bd n 0 R) (h : gj R n = some M) :
  M.length = n /\ (∀ r ∈ M,r.length = n + 1) /\ solQ n R = some (outM n M) /\ SolB n (outM n M) /\ (∀ p (hp : p < M.length),fnL M[p] p ≠ 0 /\ smQ (fnL M[p] p) /\ smQ (fnL M[p] n) /\ smQ (fnL M[p] n / fnL M[p] p)):=by
 obtain ⟨g,b⟩:=lJ hl hr hb n (Jv _) M h
 have hs : solQ n R = some (outM n M):=by rw [solQ,h]; rfl
 have hB:=wK hn hl hr hb hs
 refine ⟨g.len,g.row,hs,hB,fun p hp=>?_⟩
 have hpn : p < n:=by rw [<- g.len]; exact hp
 have e : rowQ M p = fnL M[p]:=by rw [rowQ,gd hp]
 refine ⟨by rw [<- e]; exact g.piv p hpn,by rw [<- e]; exact AE b hn hpn (by omega),by rw [<- e]; exact AE b hn hpn (Jv _),?_⟩
 have:=(mI hB hn (a:=fun _=>1) fun _ _=>.inr rfl).sx p hpn
 rw [fnL,gd (by simpa [outM] using hpn)] at this
 simpa [outM,e] using this
theorem wv {g : Nat} {T : Option (TypeId × Nat)} {es : List (List D)} : phi [g] [.sl (some g) T es] = one g (.sl (some g) T es):=by
 funext j
 by_cases e : j = g
 ·subst e; simp [phi,one,lookL,lookD]
 ·simp [phi,one,e]
theorem rz {φ : Nat -> Option D} {g : Nat} {T : Option (TypeId × Nat)} {l : List Xw} (h : φ g = none) : reV φ (.d (.sl (some g) T (l.map eQ))) = .d (.sl (some g) T (l.map eQ)):=by
 simp [reV,reD,h]
theorem yh {gm : Nat} {TM : TypeId × Nat} {es : List (List D)} {i : Nat} {e' : List D} (h : i < es.length) (h1 : e'.length = es[i].length) : reV (one gm (.sl (some gm) (some TM) (es.set i e'))) (.d (.sl (some gm) (some TM) es)) = .d (.sl (some gm) (some TM) (es.set i e')):=
 re_oneSet2 (by simp [List.getD,h,h1])
def ll (R : List (Nat × List Xw)) (p k : Nat) : List (Nat × List Xw):=(R.set p (R.getD k (0,[]))).set k (R.getD p (0,[]))
theorem zZ {R : List (Nat × List Xw)} {p k : Nat} : (ll R p k).map (·.2) = dW (R.map (·.2)) p k:=by
 simp only [ll,dW,List.map_set]
 have e : ∀ i,(R.map (·.2)).getD i [] = (R.getD i (0,[])).2:=fun i=>by
  simp only [List.getD_eq_getElem?_getD,List.getElem?_map]
  cases R[i]? <;> rfl
 rw [e,e]
theorem zX {R : List (Nat × List Xw)} {p k : Nat} : (ll R p k).length = R.length:=by simp [ll]
theorem wN {R : List (Nat × List Xw)} {p k : Nat} (hp : p < R.length) (hk : k < R.length) : (ll R p k).Perm R:=by
 have : ll R p k = (R.set p R[k]).set k R[p]:=by rw [ll,gd hp,gd hk]
 rw [this]
 exact List.set_set_perm hp hk
theorem Ay {r : List Xw} {n : Nat} (h : r.length = n + 1) : r.take n ++ [fnL r n] = r:=by
 rw [cE (by omega),List.take_append_getElem (by omega)]
 exact Jj (by omega)
theorem zY {R : List (Nat × List Xw)} {p k : Nat} (hp : p < R.length) (hk : k < R.length) : ll R p k = (R.set p R[k]).set k R[p]:=by rw [ll,gd hp,gd hk]
theorem lD {α : Type} : ∀ {n : Nat} {l : List α},l.length < n -> cq n l = []
 | 0,_,h=>by omega
 | n + 1,[],_=>rfl
 | n + 1, a :: l, h => by
   simp only [Qv] at h
   rw [cq,lD (n:=n) (by omega),lD (n:=n + 1) (by omega)]; rfl
theorem mY {α β : Type} (f : α -> β) : ∀ (n : Nat) (l : List α),cq n (l.map f) = (cq n l).map (·.map f)
 | 0,_=>by simp [cq]
 | n + 1,[]=>rfl
 | n + 1, a :: l => by
   rw [Qz,cq,cq,mY f n l,mY f (n + 1) l,Zj,List.map_map,List.map_map]
   rfl
theorem mX {α : Type} : ∀ (n : Nat) (l : List α),(cq n l).length <= 2 ^ l.length
 | 0,l=>by simp [cq,Nat.one_le_two_pow]
 | n + 1,[]=>by simp [cq]
 | n + 1, a :: l => by
   have h1:=mX n l
   have h2:=mX (n + 1) l
   rw [cq,Qw,List.length_map,Qv,Nat.pow_succ]
   omega
def rgF (a b : Nat) : List Nat:=List.range' a (b - a)
theorem CT {a b : Nat} (h : a < b) : rgF a b = a :: rgF (a + 1) b:=by
 unfold rgF
 obtain ⟨k,hk⟩ : ∃ k,b - a = k + 1:=⟨b - a - 1,by omega⟩
 rw [hk,List.range'_succ]
 congr 2; omega
theorem yj {a b : Nat} : (rgF a b).length = b - a:=by simp [rgF]
theorem tN {n a b : Nat} (h : a < b) : cq (n + 1) (rgF a b) = (cq n (rgF (a + 1) b)).map (a :: ·) ++ cq (n + 1) (rgF (a + 1) b):=by
 rw [CT h,cq]
theorem yZ {n a b : Nat} (h : b < a + n) (h0 : 0 < n) : cq n (rgF a b) = []:=lD (by rw [yj]; omega)
theorem AS {n a b : Nat} (h : b <= 9) : (cq n (rgF a b)).length <= 512:=by
 have h1:=mX n (rgF a b)
 rw [yj] at h1
 have h2 : 2 ^ (b - a) <= 2 ^ 9:=Nat.pow_le_pow_right (by omega) (by omega)
 omega
def lf (c : List Nat) : List Int:=c.map Int.ofNat
@[simp] theorem I7 (c : List Nat) : (lf c).length = c.length:=by simp [lf]
theorem BU {c : List Nat} {i : Nat} (h : i < c.length) : (lf c)[i]'(by simpa using h) = (c[i] : Int):=by simp [lf]
def mF (AR : List (List Xw)) (c : List Nat) : List (List Xw):=c.map fun i=>AR.getD i []
theorem zS {AR : List (List Xw)} {c : List Nat} : (mF AR c).length = c.length:=by simp [mF]
theorem zU {AR : List (List Xw)} {c : List Nat} (h : ∀ i ∈ c,i < AR.length) {r : List Xw} (hr : r ∈ mF AR c) : r ∈ AR:=by
 obtain ⟨i,hi,rfl⟩:=Xz.1 hr
 exact getD_mem' (h i hi)
theorem HY (AR : List (List Xw)) : (rgF 0 AR.length).map (fun i=>AR.getD i []) = AR:=by
 apply List.ext_getElem (by simp [rgF])
 intro i h1 h2
 simp [rgF,List.getD,h2]
theorem AQ (n : Nat) (AR : List (List Xw)) : cq n AR = (cq n (rgF 0 AR.length)).map (mF AR):=by
 conv=>lhs; rw [<- HY AR]
 rw [mY]
 rfl
theorem tl {A : List (List Xw)} {n : Nat} : (augR A n).length = A.length + n:=by simp [augR]
theorem mL {r : List Xw} {n : Nat} {b : Xw} (h : r.length = n) : (r ++ [b]).take n = r /\ fnL (r ++ [b]) n = b:=
 ⟨by rw [List.take_append_of_le_length (by omega),Jj (by omega)],(jh h).2⟩
theorem kN {n j : Nat} : (bG n j).length = n:=by simp [bG]
def eF (A : List (List Xw)) (n : Nat) (c : List Nat) (a : Nat) (out : List (List Xw)) : List (List Xw):=
 ((cq (n - c.length) (rgF a (A.length + n))).map fun s=>mF (augR A n) (c ++ s)).foldl (du A n) out
theorem vZ {A : List (List Xw)} {n : Nat} {c : List Nat} {a : Nat} {out : List (List Xw)} (h : c.length = n) : eF A n c a out = du A n out (mF (augR A n) c):=by
 unfold eF
 rw [show n - c.length = 0 by omega]
 simp [cq]
theorem v5 {A : List (List Xw)} {n : Nat} {c : List Nat} {a : Nat} {out : List (List Xw)} (h : c.length < n) (ha : a < A.length + n) : eF A n c a out = eF A n c (a + 1) (eF A n (c ++ [a]) (a + 1) out):=by
 unfold eF
 obtain ⟨k,hk⟩ : ∃ k,n - c.length = k + 1:=⟨n - c.length - 1,by omega⟩
 rw [hk,tN ha,Zj,List.foldl_append,List.map_map]
 have e : n - (c ++ [a]).length = k:=by simp; omega
 rw [e]
 congr 2
 apply List.map_congr_left
 intro s _
 simp
theorem zq {A : List (List Xw)} {n : Nat} {c : List Nat} {a : Nat} {out : List (List Xw)} (h : c.length < n) (ha : A.length + n <= a) : eF A n c a out = out:=by
 unfold eF
 rw [yZ (by omega) (by omega)]; rfl
theorem qX (A : List (List Xw)) (n : Nat) : eF A n [] 0 [] = ptsQ A n:=by
 unfold eF ptsQ
 rw [AQ,tl]
 simp
theorem wA {A : List (List Xw)} {n : Nat} {out M : List (List Xw)} : (du A n out M).length <= out.length + 1:=by
 unfold du
 split
 ·split
  ·unfold lY; split <;> simp
  ·omega
 ·omega
theorem tX {A : List (List Xw)} {n : Nat} : ∀ (l : List (List (List Xw))) (out : List (List Xw)),(l.foldl (du A n) out).length <= out.length + l.length
 | [],out=>by simp
 | M :: l, out => by
   have:=tX (A:=A) (n:=n) l (du A n out M)
   have:=wA (A:=A) (n:=n) (out:=out) (M:=M)
   simp only [List.foldl_cons,Qv]
   omega
def cntC (A : List (List Xw)) (n : Nat) (c : List Nat) (a : Nat) : Nat:=(cq (n - c.length) (rgF a (A.length + n))).length
theorem yY {A : List (List Xw)} {n : Nat} {c : List Nat} {a : Nat} (h : c.length < n) (ha : a < A.length + n) : cntC A n c a = cntC A n (c ++ [a]) (a + 1) + cntC A n c (a + 1):=by
 unfold cntC
 obtain ⟨k,hk⟩ : ∃ k,n - c.length = k + 1:=⟨n - c.length - 1,by omega⟩
 have e : n - (c ++ [a]).length = k:=by simp; omega
 rw [hk,tN ha,e]
 simp
theorem qY {A : List (List Xw)} {n : Nat} {c : List Nat} {a : Nat} {out : List (List Xw)} : (eF A n c a out).length <= out.length + cntC A n c a:=by
 unfold eF cntC
 have:=tX (A:=A) (n:=n) ((cq (n - c.length) (rgF a (A.length + n))).map fun s=>mF (augR A n) (c ++ s)) out
 simpa using this
theorem yX {A : List (List Xw)} {n : Nat} {c : List Nat} {a : Nat} (h : c.length = n) : cntC A n c a = 1:=by
 unfold cntC
 rw [show n - c.length = 0 by omega]
 simp [cq]
theorem tL {A : List (List Xw)} {n : Nat} (h : A.length + n <= 9) : cntC A n [] 0 <= 512:=by
 unfold cntC
 exact AS h
theorem EZ {A : List (List Xw)} {n : Nat} (h : LPok A n) : ∀ x ∈ ptsQ A n,SolB n x:=fun x hx=>by
 obtain ⟨M,h1,h2,h3,_⟩:=sF.1 hx
 have hr : ∀ r ∈ M,r.length = n + 1:=fun r hr=>rU h.m01 r (h1.subset hr)
 have h01 : ∀ r ∈ M,∀ q ∈ r,q = 0 \/ q = 1:=fun r hr=>vN h.m01 r (h1.subset hr)
 exact wK h.n4 h2 hr (xj h2 h01) h3
theorem yc {A : List (List Xw)} {n : Nat} (h : LPok A n) : (ptsQ A n).length <= 512:=by
 have h1:=h.n4
 have h2:=h.m5
 have:=qY (A:=A) (n:=n) (c:=[]) (a:=0) (out:=[])
 rw [qX] at this
 have:=tL (A:=A) (n:=n) (by omega)
 simp at *
 omega
theorem C8 {n : Nat} {x : List Xw} (hx : SolB n x) (hn : n <= 4) : smQ (sumQ x):=by
 rw [<- yB hx.len]
 exact (uD hx hn).ss n (Jv _)
def jz (l : List (List Xw)) (i : Nat) : Option (List Xw × Xw):=(l.take i).foldl kZ none
theorem oO {l : List (List Xw)} : jz l 0 = none:=rfl
theorem vO {l : List (List Xw)} {i : Nat} (h : i < l.length) : jz l (i + 1) = kZ (jz l i) l[i]:=by
 rw [jz,Jz h,List.foldl_append]; rfl
theorem yP {l : List (List Xw)} : jz l l.length = xk l:=by rw [jz,Jj (Jv _)]; rfl
theorem yQ {l : List (List Xw)} {i : Nat} {p : List Xw × Xw} (h : jz l i = some p) : p.2 = sumQ p.1 /\ p.1 ∈ l.take i:=by
 have:=(mV (l.take i) none (fun p h=>by cases h)).1 p h
 exact ⟨this.1,this.2.1.resolve_right (by simp)⟩
theorem HS (b : Bool) : eQ (r01 b) = [.int .i64 (if b then 1 else 0),.int .i64 1]:=by cases b <;> rfl
theorem mU {q : ab} {b : List Int} (hq : aw q = true) (hb : bagI q.n b = true) : 1 <= b.length /\ b.length <= 5 /\ 1 <= q.atoms.length /\ q.atoms.length <= 4 /\ sf q.atoms b:=by
 simp only [aw,Jq] at hq
 obtain ⟨⟨⟨⟨h1,h2⟩,_⟩,_⟩,h5⟩:=hq
 simp only [bagI,Jq,Xj] at hb
 obtain ⟨⟨b1,_⟩,b3⟩:=hb
 simp only [cJ,Jq,Xj,Jk] at b3
 obtain ⟨b4,b5⟩:=b3
 simp only [inR,Jq,Xj] at h1 h2
 have hw : IntKind.i64.wrap (q.n - 1) = q.n - 1:=aj (by omega) (by omega)
 have hr : ∀ x ∈ b,0 <= x /\ x < q.n:=fun x hx=>by
  have:=b4 x hx
  simp only [inR,Jq,Xj,hw] at this
  omega
 have hlen:=dF q.n.toNat b b5 (fun x hx=>by have:=hr x hx; omega)
 refine ⟨b1,by omega,by omega,by omega,fun v hv=>?_⟩
 have hv2:=hr v hv
 simp only [eX,Jk,Zg] at h5
 have h6:=h5 v.toNat (by omega)
 rw [show ((v.toNat : Nat) : Int) = v by omega,List.contains_eq_mem,Xj,br,List.mem_flatMap] at h6
 obtain ⟨a,ha,hva⟩:=h6
 exact ⟨a,ha,hva⟩
theorem Hj {q : ab} {b : List Int} (hq : aw q = true) (hb : bagI q.n b = true) : LPok (covM q.atoms b) q.atoms.length:=by
 obtain ⟨h1,h2,h3,h4,h5⟩:=mU hq hb
 exact ⟨xn h5,h3,h4,by simpa [covM] using h1,by simpa [covM] using h2⟩
theorem DP {q : ab} {b : List Int} (hq : aw q = true) (hb : bagI q.n b = true) : ∃ p,minQ (covM q.atoms b) q.atoms.length = some p /\ p.2 = widQ q.atoms b:=by
 obtain ⟨p,h1,h2,_⟩:=F5 (mU hq hb).2.2.2.2
 exact ⟨p,h1,h2⟩
def bcwV (q : ab) (b : List Int) : V:=if aw q && bagI q.n b then .tup [.agg [.d (.int .i64 (widQ q.atoms b).num),.d (.int .i64 ((widQ q.atoms b).den : Int))],.d (.bool true)] else .tup [.agg [.d (.int .i64 0),.d (.int .i64 0)],.d (.bool false)]
def mxS (a w : Xw) : Xw:=if a < w then w else a
def mxT (q : ab) (l : List (List Int)) (i : Nat) : Xw:=((l.take i).map (widQ q.atoms)).foldl mxS 0
def decW (q : ab) (d : PDec) : Xw:=mxT q d.bags d.bags.length
theorem y7 {q : ab} {d : PDec} (h : bH q d = true) : aw q = true /\ ∀ b ∈ d.bags,bagI q.n b = true:=by
 simp only [bH,Jq,Jk] at h
 exact ⟨h.1.1.1.1.1,h.1.1.2⟩
theorem Hn {q : ab} (h : aw q = true) : 1 <= q.n /\ q.n <= 5:=by
 simp only [aw,Jq] at h
 obtain ⟨⟨⟨⟨h1,_⟩,_⟩,_⟩,_⟩:=h
 simp only [inR,Jq,Xj] at h1
 exact h1
theorem ub {o l : List Int} : ∀ (m k r : Nat),fR o l m k = some r -> k <= r /\ r < k + m /\ o.getD r 0 ∈ l /\ ∀ j,k <= j -> j < r -> o.getD j 0 ∉ l
 | 0,_,_,h=>by simp [fR] at h
 | m + 1, k, r, h => by
   simp only [fR] at h
   by_cases hc : l.contains (o.getD k 0) = true
   ·rw [if_pos hc] at h
    obtain rfl:=Option.some.inj h
    exact ⟨Jv _,by omega,by simpa using hc,fun j h1 h2=>by omega⟩
   ·rw [if_neg hc] at h
    obtain ⟨h1,h2,h3,h4⟩:=ub m (k + 1) r h
    refine ⟨by omega,by omega,h3,fun j h5 h6=>?_⟩
    by_cases he : j = k
    ·subst he; simpa using hc
    ·exact h4 j (by omega) h6
theorem ua {o l : List Int} : ∀ (m k : Nat),fR o l m k = none -> ∀ j,k <= j -> j < k + m -> o.getD j 0 ∉ l
 | 0,_,_,j,h1,h2=>by omega
 | m + 1, k, h, j, h1, h2 => by
   simp only [fR] at h
   by_cases hc : l.contains (o.getD k 0) = true
   ·rw [if_pos hc] at h; cases h
   ·rw [if_neg hc] at h
    by_cases he : j = k
    ·subst he; simpa using hc
    ·exact ua m (k + 1) h j (by omega) (by omega)
theorem j8 (q : ab) (o : List Int) {i : Nat} (hi : i < o.length) : (i + 1 = o.length /\ dcUp q o i = -1) \/
  ∃ j : Nat,dcUp q o i = j /\ i < j /\ j < o.length /\ i + 1 < o.length /\ ∀ k,i < k -> k < o.length -> o.getD k 0 ∈ cw q o i -> o.getD j 0 ∈ cw q o i /\ j <= k:=by
 by_cases he : i + 1 = o.length
 ·exact .inl ⟨he,by rw [dcUp,if_pos he]⟩
 ·refine .inr ?_
  cases hf : fR o (cw q o i) (o.length - (i + 1)) (i + 1) with
  | none =>
    refine ⟨i + 1,by rw [dcUp,if_neg he,hf]; rfl,by omega,by omega,by omega,fun k h1 h2 h3=>?_⟩
    exact absurd h3 (ua _ _ hf k (by omega) (by omega))
  | some r =>
    obtain ⟨h1,h2,h3,h4⟩:=ub _ _ _ hf
    refine ⟨r,by rw [dcUp,if_neg he,hf],by omega,by omega,by omega,fun k h5 h6 h7=>⟨h3,?_⟩⟩
    refine Nat.le_of_not_lt fun hlt=>?_
    exact h4 k (by omega) hlt h7
def upsL (q : ab) (o : List Int) : List Int:=(List.range o.length).map (dcUp q o)
def nO (q : ab) (o : List Int) : List (List Int):=(List.range o.length).map (cw q o)
theorem sV (q : ab) (o : List Int) : (upsL q o).length = o.length:=by simp [upsL]
theorem wQ (q : ab) (o : List Int) {i : Nat} (hi : i < o.length) : (upsL q o).getD i 0 = dcUp q o i:=by
 simp [upsL,List.getD_eq_getElem?_getD,hi]
theorem rV (q : ab) (o : List Int) {i : Nat} (hi : i < o.length) : (nO q o).getD i [] = cw q o i:=by
 simp [nO,List.getD_eq_getElem?_getD,hi]
theorem GO (q : ab) (o : List Int) {i : Nat} (hi : i < o.length) : inR (dcUp q o i) (-1) (((upsL q o).length : Int) - 1) = true:=by
 rw [sV]
 simp only [inR,Jq,Xj]
 rcases j8 q o hi with ⟨h1,h2⟩ | ⟨j,h1,h2,h3,_,_⟩
 ·omega
 ·omega
theorem Dz (q : ab) (o : List Int) : ∀ (m i : Nat),i < o.length -> o.length - i < m -> jj (upI (upsL q o) m (i : Int)) = true
 | 0,i,_,h=>by omega
 | m + 1, i, hi, h => by
   have hx : nxP (upsL q o) (i : Int) = dcUp q o i:=by rw [nxP]; simpa using wQ q o hi
   rw [upI,if_neg (by omega),hx,if_pos (GO q o hi)]
   rcases j8 q o hi with ⟨h1,h2⟩ | ⟨j,h1,h2,h3,_,_⟩
   ·rw [h2]
    obtain ⟨m,rfl⟩ : ∃ k,m = k + 1:=⟨m - 1,by omega⟩
    rfl
   ·rw [h1]
    exact Dz q o m j h3 (by omega)
theorem FN (q : ab) (o : List Int) (h : 0 < o.length) : eW (upsL q o) = true:=by
 simp only [eW,Jq,Jk,Zg,Xj]
 refine ⟨fun i hi=>?_,?_⟩
 ·rw [sV] at hi
  have hx : nxP (upsL q o) (i : Int) = dcUp q o i:=by rw [nxP]; simpa using wQ q o hi
  simp only [cU,Jq]
  exact ⟨by rw [hx]; exact GO q o hi,Dz q o _ i hi (by rw [sV]; omega)⟩
 ·obtain ⟨n,hn⟩ : ∃ k,o.length = k + 1:=⟨o.length - 1,by omega⟩
  rw [sJ,upsL,hn,List.range_succ,Zj,List.filter_append,Qw]
  have h1 : (List.map (dcUp q o) (List.range n)).filter (fun p=>decide (p < 0)) = []:=by
   rw [List.filter_eq_nil_iff]
   intro a ha
   obtain ⟨i,hi,rfl⟩:=Xz.1 ha
   have hi:=Zg.1 hi
   rcases j8 q o (i:=i) (by omega) with ⟨h1,h2⟩ | ⟨j,h1,h2,h3,_,_⟩
   ·omega
   ·simp [h1]
  have h2 : dcUp q o n = -1:=by rw [dcUp,if_pos (by omega)]
  rw [h1]
  simp [h2]
theorem pc (q : ab) (o : List Int) (a b : Int) {i : Nat} : ∀ {j : Nat},i <= j -> dcM q o i a b = true -> dcM q o j a b = true
 | 0,h,e=>by rw [Nat.le_zero.1 h] at e; exact e
 | j + 1, h, e => by
   by_cases he : i = j + 1
   ·rw [<- he]; exact e
   ·rw [l6,pc q o a b (by omega) e]; rfl
theorem HN {b : List Int} (h : b.Pairwise (· < ·)) : ascB b = true:=by
 simp only [ascB,Jk,Zg]
 intro i hi
 simp only [iL,Xx,Xj]
 by_cases h0 : i = 0
 ·exact .inl h0
 ·refine .inr ?_
  rw [ak _ hi,ak _ (show i - 1 < b.length by omega)]
  exact List.pairwise_iff_getElem.1 h (i - 1) i (by omega) hi (by omega)
theorem AZ {q : ab} {o : List Int} (h : Od q o) {i : Nat} (hi : i < o.length) : bagI q.n (cw q o i) = true:=by
 have h5:=h.n5
 simp only [bagI,Jq,Xj]
 refine ⟨⟨?_,HN ni⟩,?_⟩
 ·have : o[i] ∈ cw q o i:=(fW h hi _).2 (.inl rfl)
  exact List.length_pos_of_mem this
 ·simp only [cJ,Jq,Jk,Xj]
  refine ⟨fun x hx=>?_,cC ni⟩
  have:=b8.1 (List.mem_filter.1 hx).1
  rw [aj (by omega) (by omega)]
  simp only [inR,Jq,Xj]
  omega
theorem JN (P : Nat -> Prop) : ∀ n,P n -> ∃ i,P i /\ i <= n /\ ∀ k,k < i -> ¬ P k:=by
 intro n
 induction n using Nat.strongRecOn with
 | ind n ih =>
   intro hn
   by_cases hk : ∃ k,k < n /\ P k
   ·obtain ⟨k,h1,h2⟩:=hk
    obtain ⟨i,h3,h4,h5⟩:=ih k h1 h2
    exact ⟨i,h3,by omega,h5⟩
   ·exact ⟨n,hn,Jv _,fun k h1 h2=>hk ⟨k,h1,h2⟩⟩
theorem A2 {q : ab} {o : List Int} (h : Od q o) {a : aH} (ha : a ∈ q.atoms) : gE (nO q o) a = true:=by
 have h5:=h.n5
 have hao : b6 q.n a = true:=by
  have:=h.qok
  simp only [aw,Jq,Jk] at this
  exact this.1.2 a ha
 have hlen : 0 < o.length:=by have:=h.len; omega
 have hrg:=fun w hw=>D4 h.qok a ha w hw
 have key : ∃ i,i < o.length /\ insD a (cw q o i) = true:=by
  by_cases hv : a.vars = []
  ·exact ⟨0,hlen,by simp [insD,hv]⟩
  ·obtain ⟨v,hv⟩:=List.exists_mem_of_ne_nil _ hv
   obtain ⟨p,hp,hpv⟩:=List.mem_iff_getElem.1 (h.all (hrg v hv).1 (hrg v hv).2)
   obtain ⟨i,h1,h2,h3⟩:=JN (fun k=>o.getD k 0 ∈ a.vars) p (by show _ ∈ _; rw [ak _ hp,hpv]; exact hv)
   have hi : i < o.length:=by omega
   rw [ak _ hi] at h1
   refine ⟨i,hi,?_⟩
   simp only [insD,Jk,Zw]
   intro w hw
   rw [fW h hi,ml h hi]
   by_cases he : w = o[i]
   ·exact .inl he
   ·refine .inr ⟨(hrg w hw).1,(hrg w hw).2,pc q o _ _ (Nat.zero_le i) ?_,fun ht=>?_⟩
    ·show nbrB q o[i] w = true
     simp only [nbrB,Jq,Bool.not_eq_true',decide_eq_false_iff_not,List.any_eq_true,Zw]
     exact ⟨he,a,ha,h1,hw⟩
    ·obtain ⟨k,hk,hkw⟩:=List.mem_iff_getElem.1 ht
     rw [Zq] at hk
     rw [List.getElem_take] at hkw
     have:=h3 k (by omega)
     rw [ak _ (by omega),hkw] at this
     exact this hw
 obtain ⟨i,hi,hb⟩:=key
 simp only [gE,List.any_eq_true]
 exact ⟨cw q o i,Xz.2 ⟨i,Zg.2 hi,rfl⟩,by rw [sr h5 hao]; exact hb⟩
theorem x5 (p : Nat) : ∀ n,((List.range n).filter fun i=>decide (i = p)).length = if p < n then 1 else 0
 | 0=>by simp
 | n + 1 => by
   rw [List.range_succ,List.filter_append,Qw,x5 p n]
   by_cases h : n = p
   ·subst h; simp
   ·by_cases h2 : p < n
    ·simp [h,h2]; omega
    ·simp [h,h2]; omega
theorem sP {o : List Int} (h : o.Nodup) {p i : Nat} (hp : p < o.length) : o[p] ∈ o.take i ↔ p < i:=by
 constructor
 ·intro hm
  obtain ⟨k,hk,e⟩:=List.mem_iff_getElem.1 hm
  rw [Zq] at hk
  rw [List.getElem_take] at e
  have:=iV h (by omega) hp e
  omega
 ·intro hlt
  exact List.mem_iff_getElem.2 ⟨p,by rw [Zq]; omega,List.getElem_take⟩
theorem Hm {q : ab} {o : List Int} (h : Od q o) {p : Nat} (hp : p < o.length) {i : Nat} (hi : i < o.length) : bR (nO q o) (upsL q o) o[p] i = decide (i = p):=by
 have hrp:=h.rng _ (Jy hp)
 rw [bR,rV q o hi,wQ q o hi]
 by_cases he : i = p
 ·subst he
  rw [decide_eq_true rfl,Jq,Zw,Xx,Xj]
  refine ⟨(fW h hi _).2 (.inl rfl),?_⟩
  rcases j8 q o hi with ⟨_,h2⟩ | ⟨j,h1,h2,h3,_,_⟩
  ·exact .inl (by omega)
  ·refine .inr ?_
   rw [h1,Int.toNat_natCast,rV q o h3,Bool.not_eq_true',<- Bool.not_eq_true,Zw,fW h h3,ml h h3]
   rintro (e | ⟨_,_,_,e⟩)
   ·have:=iV h.nd hi h3 e; omega
   ·exact e ((sP h.nd hi).2 h2)
 ·rw [decide_eq_false he]
  by_cases hb : o[p] ∈ cw q o i
  ·have hlt : i < p:=by
    rcases (fW h hi _).1 hb with e | e
    ·exact absurd (iV h.nd hp hi e).symm he
    ·have:=((ml h hi _).1 e).2.2.2
     rw [sP h.nd hp] at this
     omega
   rcases j8 q o hi with ⟨h1,h2⟩ | ⟨j,h1,h2,h3,_,h6⟩
   ·omega
   ·obtain ⟨h7,h8⟩:=h6 p hlt hp (by rw [ak _ hp]; exact hb)
    rw [ak _ h3] at h7
    have : o[p] ∈ cw q o j:=by
     rw [fW h h3,ml h h3]
     by_cases e : j = p
     ·subst e; exact .inl rfl
     ·have hne : ¬ o[j] = o[p]:=fun e'=>e (iV h.nd h3 hp e')
      refine .inr ⟨hrp.1,hrp.2,pc q o _ _ (show i + 1 <= j by omega) ?_,by rw [sP h.nd hp]; omega⟩
      rw [l6]
      have hj:=h.rng _ (Jy h3)
      have e1:=(xp h hi hj.1 hj.2).2 ((fW h hi _).1 h7)
      have e2:=(xp h hi hrp.1 hrp.2).2 ((fW h hi _).1 hb)
      rw [e1,e2,decide_eq_false hne]
      simp
    rw [h1,Int.toNat_natCast,rV q o h3]
    simp [this]
  ·simp [hb]
theorem JB {q : ab} {o : List Int} (h : iv q o = true) : bH q (dcP q o) = true:=by
 have hd:=xY h
 have hlen : 0 < o.length:=by have:=hd.len; have:=hd.n5; omega
 have hdc : dcP q o = ⟨nO q o,upsL q o⟩:=by rw [dcP,if_pos h]; rfl
 rw [hdc]
 simp only [bH,Jq,Xj,Jk,Zg]
 refine ⟨⟨⟨⟨⟨hd.qok,by simp [nO,upsL]⟩,FN q o hlen⟩,fun b hb=>?_⟩,fun a ha=>A2 hd ha⟩,fun v hv=>?_⟩
 ·obtain ⟨i,hi,rfl⟩:=Xz.1 hb
  exact AZ hd (Zg.1 hi)
 ·obtain ⟨p,hp,e⟩:=List.mem_iff_getElem.1 (hd.all (v:=(v : Int)) (by omega) (by have:=hd.n5; omega))
  have hbl : (nO q o).length = o.length:=by simp [nO]
  rw [topN,hbl,<- e,List.filter_congr (q:=fun i=>decide (i = p)) fun i hi=>Hm hd hp (Zg.1 hi),x5,if_pos hp]
def frO (n : Nat) (p : List Int) : List Int:=(aI n).filter fun v=>!p.contains v
def extO (n : Nat) (p : List Int) : List (List Int):=(frO n p).map fun v=>p ++ [v]
def levO (n : Nat) : Nat -> List (List Int)
 | 0=>[[]]
 | k + 1=>(levO n k).flatMap (extO n)
def allO (q : ab) : List (List Int):=if aw q then levO q.n.toNat q.n.toNat else []
def bdS (q : ab) (s : Option (List Int)) (o : List Int) : Option (List Int):=match s with
 | none=>some o
 | some c=>if decW q (dcP q o) < decW q (dcP q c) then some o else some c
def bdT (q : ab) (i : Nat) : Option (List Int):=((allO q).take i).foldl (bdS q) none
def bdD (q : ab) : Option (List Int) -> PDec
 | none=>⟨[],[]⟩
 | some o=>dcP q o
def bdR (q : ab) : Option (List Int) -> List V
 | none=>[.d (.int .i64 0),.d (.int .i64 0)]
 | some o=>[.d (.int .i64 (decW q (dcP q o)).num),.d (.int .i64 ((decW q (dcP q o)).den : Int))]
theorem tP {q : ab} {o : List Int} (h : iv q o = true) : (∀ b ∈ (dcP q o).bags,bagI q.n b = true) /\ (dcP q o).bags.length = o.length /\ (dcP q o).par.length = o.length /\ 0 < o.length /\ o.length <= 5:=by
 have hd:=xY h
 have h1:=(y7 (JB h)).2
 have h2:=hd.len
 have h3:=hd.n5
 refine ⟨h1,?_,?_,by omega,by omega⟩ <;> simp [dcP,h]
theorem rj : ∀ (l m : List Int),l.Nodup -> (∀ x ∈ l,x ∈ m) -> l.length <= m.length
 | [],_,_,_=>Nat.zero_le _
 | a :: r, m, hn, hs => by
   obtain ⟨h1,h2⟩:=List.nodup_cons.1 hn
   have ha:=hs a (by simp)
   have ih:=rj r (m.erase a) h2 fun x hx=>(List.mem_erase_of_ne (by rintro rfl; exact h1 hx)).2 (hs x (List.mem_cons_of_mem _ hx))
   have:=List.length_pos_of_mem ha
   rw [List.length_erase_of_mem ha] at ih
   simp only [Qv]; omega
def ones (l : List (List Int)) : List (List Int × Int):=l.map fun r=>(r,1)
section
variable {S : Nat -> Prop} {w : World}
end
theorem zD {σ : St} (k : Nat) {T sz : Nat} {es : List (List D)} (hm : σ.m k = some (.row T sz es)) : Lead (fun σ'=>σ' = { σ with m:=upd σ.m k (some (.row T sz (erLL es))) }) σ:=by
 intro A0 N w0 ρ a w h
 refine ⟨_,ρ,h.setBlk (b':=.row T sz (erLL es)) hm rfl h.below (Jv _) (fun _ _=>rfl) (fun j=>?_) (fun hS _=>?_),rfl⟩
 ·unfold KC
  by_cases hj : j = k
  ·subst hj
   simp only [upd,if_true]
   exact ⟨trivial,T,es,hm,by rw [jQ]; exact Jv _⟩
  ·simp only [upd,if_neg hj]
   cases hb : σ.m j with
   | none=>trivial
   | some b => cases b with
     | box cs=>exact ⟨trivial,cs,rfl⟩
     | row T' sz' es'=>exact ⟨trivial,T',es',rfl,Jv _⟩
 ·have hb:=h.mem k _ hm
  simp only [BlkR] at hb ⊢
  refine ⟨hb.1,?_⟩
  cases hr : ρ k with
  | none =>
    rw [hr] at hb
    have:=hb.2
    simp only at this
    subst this
    simp [erLL]
  | some p =>
    obtain ⟨g,cap⟩:=p
    rw [hr] at hb
    obtain ⟨_,h1,h2,h3,cur,h4,h5,h6⟩:=hb
    refine ⟨h1,h2,by rw [jQ]; exact h3,cur,h4,h5,fun i e he=>?_⟩
    obtain ⟨e0,he0,rfl⟩:=pt es i e he
    obtain ⟨h7,h8⟩:=h6 i e0 he0
    refine ⟨by rw [ou]; exact h7,fun j u hu=>?_⟩
    obtain ⟨u0,hu0,rfl⟩:=ot e0 j u hu
    obtain ⟨v,hv,hd⟩:=h8 j u0 hu0
    exact ⟨v,hv,(hd.mono (fun g hg=>hS g hg) (fun _ _=>rfl)).er⟩
def vrOk (b : aG) : Bool:=(List.range b.vars.length).all (cp 5 b.vars) && (aL b.rel.ar b.rel.rows && decide (b.rel.ar = b.vars.length))
def njL (a b : aG) : List (List Int):=cO (uniL a.vars b.vars) a.vars a.rel.rows b.vars b.rel.rows
def njB (a b : aG) : Bool:=vrOk a && vrOk b && decide ((njL a b).length <= 4000)
def njP (a b : aG) : aG:=if njB a b then ⟨uniL a.vars b.vars,⟨(uniL a.vars b.vars).length,srtU (njL a b)⟩⟩ else ⟨[],⟨0,[]⟩⟩
def prG (r : bE) (cols : List Int) : Bool:=aL r.ar r.rows && eA r.ar cols
def prL (r : bE) (cols : List Int) : List (List Int):=r.rows.map (bp cols)
def prB (r : bE) (cols : List Int) : Bool:=prG r cols && newB cols.length (prL r cols)
def prP (r : bE) (cols : List Int) : bE:=if prG r cols then newR cols.length (prL r cols) else ⟨0,[]⟩
def comC (a b : List Int) : List Int:=(comL a b).map (idxL a)
def pjV (b : aG) (bag : List Int) : aG:=⟨comL b.vars bag,prP b.rel (comC b.vars bag)⟩
def abV (d : PDb) (a : aH) : aG:=⟨aS a.vars,⟨(aS a.vars).length,abR d a⟩⟩
def brS (d : PDb) (bag : List Int) (s : Option aG) (a : aH) : Option aG:=match s with
 | none=>none
 | some v=>if comL (aS a.vars) bag = [] then some v else if njB v (pjV (abV d a) bag) then some (njP v (pjV (abV d a) bag)) else none
def brT (d : PDb) (q : ab) (bag : List Int) (i : Nat) : Option aG:=(q.atoms.take i).foldl (brS d bag) (some ⟨[],⟨0,[[]]⟩⟩)
def brO (d : PDb) (q : ab) (bag : List Int) : Option aG:=if cf d q && bagI q.n bag then brT d q bag q.atoms.length else none
def ovR : Option aG -> aG
 | none=>⟨[],⟨0,[]⟩⟩
 | some v=>v
theorem oR (d : PDb) (q : ab) (bag : List Int) : brT d q bag 0 = some ⟨[],⟨0,[[]]⟩⟩:=rfl
theorem oQ (d : PDb) (q : ab) (bag : List Int) {i : Nat} (h : i < q.atoms.length) : brT d q bag (i + 1) = brS d bag (brT d q bag i) q.atoms[i]:=by
 rw [brT,Jz h,List.foldl_append]; rfl
theorem AF {d : PDb} {q : ab} {bag : List Int} {i : Nat} (h : brT d q bag i = none) : ∀ j,i <= j -> brT d q bag j = none:=by
 intro j hj
 have key : ∀ l : List aH,l.foldl (brS d bag) none = none:=fun l=>by
  induction l with
  | nil=>rfl
  | cons a r ih=>simpa [brS] using ih
 have e : q.atoms.take j = q.atoms.take i ++ (q.atoms.take j).drop i:=by
  have:=(List.take_append_drop i (q.atoms.take j)).symm
  rwa [List.take_take,Nat.min_eq_left hj] at this
 rw [brT,e,List.foldl_append,<- brT,h,key]
theorem FQ {l : List Int} (h : (List.range l.length).all (cp 5 l) = true) : l.Pairwise (· < ·) /\ ∀ x ∈ l,0 <= x /\ x < 5:=by
 simp only [cp,Jk,Jq,Zg] at h
 refine ⟨vM (by simp only [ascB,Jk,Zg]; exact fun i hi=>(h i hi).2),fun x hx=>?_⟩
 obtain ⟨i,hi,rfl⟩:=List.getElem_of_mem hx
 have:=(h i hi).1
 rw [ak _ hi,show IntKind.i64.wrap (5 - 1) = 4 by decide] at this
 simp only [inR,Jq,Xj] at this
 omega
theorem yd {l : List Int} (h : l.Pairwise (· < ·)) (hm : ∀ x ∈ l,0 <= x /\ x < 5) : (List.range l.length).all (cp 5 l) = true:=by
 simp only [cp,Jk,Jq,Zg]
 intro i hi
 have:=hm _ (Jy hi)
 refine ⟨?_,?_⟩
 ·rw [ak _ hi,show IntKind.i64.wrap (5 - 1) = 4 by decide]
  simp only [inR,Jq,Xj]
  omega
 ·simp only [iL,Xx,Xj]
  rcases Nat.eq_zero_or_pos i with h0 | h0
  ·exact .inl h0
  ·right
   rw [ak _ hi,ak _ (show i - 1 < l.length by omega)]
   exact List.pairwise_iff_getElem.1 h (i - 1) i (by omega) hi (by omega)
structure VrF (b : aG) : Prop where
 pw : b.vars.Pairwise (· < ·)
 rng : ∀ x ∈ b.vars,0 <= x /\ x < 5
 len : b.vars.length <= 5
 ar : b.rel.ar = b.vars.length
 rl : ∀ r ∈ b.rel.rows,r.length = b.vars.length /\ aZ r = true
 nr : b.rel.rows.length <= 4000
 srt : Srt b.rel.rows
theorem ck {b : aG} (h : vrOk b = true) : VrF b:=by
 simp only [vrOk,Jq,Xj] at h
 obtain ⟨h1,h2,h3⟩:=h
 obtain ⟨p1,p2⟩:=FQ h1
 have hs:=wH h2
 have hm : ∀ r ∈ b.rel.rows,(r.length : Int) = b.rel.ar /\ aZ r = true:=fun r hr=>bK h2 hr
 refine ⟨p1,p2,mz p1 p2,h3,fun r hr=>?_,?_,hs⟩
 ·have:=hm r hr; exact ⟨by omega,this.2⟩
 ·simp only [aL,Jq,Xj] at h2; exact h2.1.2
theorem wo {α : Type} [BEq α] [LawfulBEq α] : ∀ (l m : List α),l.Nodup -> (∀ x ∈ l,x ∈ m) -> l.length <= m.length
 | [],_,_,_=>Nat.zero_le _
 | a :: r, m, hn, hs => by
   obtain ⟨h1,h2⟩:=List.nodup_cons.1 hn
   have ha:=hs a (by simp)
   have ih:=wo r (m.erase a) h2 fun x hx=>(List.mem_erase_of_ne (by rintro rfl; exact h1 hx)).2 (hs x (List.mem_cons_of_mem _ hx))
   have:=List.length_pos_of_mem ha
   rw [List.length_erase_of_mem ha] at ih
   simp only [Qv]; omega
theorem Fe {l : List (List Int)} (h : l.Nodup) : (srtU l).length = l.length:=
 Nat.le_antisymm (dB l) (wo l _ h fun x hx=>(bZ l x).2 hx)
theorem yy {l : List (List Int)} (h : Srt l) : l.Nodup:=h.imp fun {a b} h e=>by subst e; rw [cK] at h; omega
theorem iT {a r : List Int} {v : Int} (hv : v ∈ a) (hl : r.length = a.length) : bX a r v ∈ r:=by
 have:=(iS hv).1
 rw [bX,ak _ (show (idxL a v).toNat < r.length by omega)]
 exact Jy _
theorem BG {u a r b s x : List Int} (ha : a.Nodup) (hb : b.Nodup) (hu : ∀ v,v ∈ u ↔ v ∈ a \/ v ∈ b) (hr : r.length = a.length) (hs : s.length = b.length) (h : glO u a r b s = some x) :
  r = a.map (bX u x) /\ s = b.map (bX u x):=by
 rw [glO] at h
 split at h
 ·rename_i hg
  obtain rfl:=Option.some.inj h
  have hgv : ∀ v ∈ u,v ∈ a -> v ∈ b -> bX a r v = bX b s v:=fun v h1 h2 h3=>by
   have:=(Jk.1 hg) v h1
   simpa [glV,Zw,h2,h3] using this
  constructor
  ·conv=>lhs; rw [<- gx ha hr]
   refine aY.2 fun v hv=>?_
   rw [glR,dn _ ((hu v).2 (.inl hv))]
   simp [Zw,hv]
  ·conv=>lhs; rw [<- gx hb hs]
   refine aY.2 fun v hv=>?_
   rw [glR,dn _ ((hu v).2 (.inr hv))]
   by_cases hva : v ∈ a
   ·simp [Zw,hva,hgv v ((hu v).2 (.inr hv)) hva hv]
   ·simp [Zw,hva]
 ·cases h
theorem gg {a b : aG} (fa : VrF a) (x : Int) : x ∈ uniL a.vars b.vars ↔ x ∈ a.vars \/ x ∈ b.vars:=(fw b.vars fa.pw).2 x
theorem uA {a b : aG} (fa : VrF a) (fb : VrF b) : (njL a b).Nodup:=by
 have hu:=gg (b:=b) fa
 have na:=cC fa.pw
 have nb:=cC fb.pw
 have bk : ∀ r ∈ a.rel.rows,∀ s ∈ b.rel.rows,∀ x,glO (uniL a.vars b.vars) a.vars r b.vars s = some x -> r = a.vars.map (bX (uniL a.vars b.vars) x) /\ s = b.vars.map (bX (uniL a.vars b.vars) x):=
  fun r hr s hs x h=>BG na nb hu (fa.rl r hr).1 (fb.rl s hs).1 h
 have n1:=yy fa.srt
 have n2:=yy fb.srt
 rw [njL,cO]
 refine List.pairwise_flatMap.2 ⟨fun r hr=>?_,?_⟩
 ·refine List.pairwise_filterMap.2 (n2.imp_of_mem fun {s s'} hs hs' hne x hx y hy e=>?_)
  subst e
  exact hne ((bk r hr s hs x hx).2.trans (bk r hr s' hs' x hy).2.symm)
 ·refine n1.imp_of_mem fun {r r'} hr hr' hne x hx y hy e=>?_
  subst e
  obtain ⟨s,hs,h1⟩:=List.mem_filterMap.1 hx
  obtain ⟨s',hs',h2⟩:=List.mem_filterMap.1 hy
  exact hne ((bk r hr s hs x h1).1.trans (bk r' hr' s' hs' x h2).1.symm)
theorem wu {a b : aG} (fa : VrF a) (fb : VrF b) : ∀ x ∈ njL a b,x.length = (uniL a.vars b.vars).length /\ aZ x = true:=fun x hx=>by
 refine ⟨uh x hx,?_⟩
 rw [njL,cO] at hx
 simp only [List.mem_flatMap,List.mem_filterMap,glO] at hx
 obtain ⟨r,hr,s,hs,h⟩:=hx
 split at h
 ·obtain rfl:=Option.some.inj h
  obtain ⟨l1,v1⟩:=fa.rl r hr
  obtain ⟨l2,v2⟩:=fb.rl s hs
  simp only [aZ,Jk] at v1 v2 ⊢
  intro y hy
  rw [glR,Xz] at hy
  obtain ⟨v,hv,rfl⟩:=hy
  rcases (gg fa v).1 hv with h' | h'
  ·simp only [Zw,h',if_true]
   exact v1 _ (iT h' l1)
  ·split
   ·rename_i hc; exact v1 _ (iT (Zw.1 hc) l1)
   ·exact v2 _ (iT h' l2)
 ·cases h
theorem qd {a b : aG} (fa : VrF a) (fb : VrF b) : (uniL a.vars b.vars).length <= 5:=
 mz (fw b.vars fa.pw).1 fun x hx=>by
  rcases (gg fa x).1 hx with h | h
  ·exact fa.rng x h
  ·exact fb.rng x h
theorem HA {a b : aG} (fa : VrF a) (fb : VrF b) : newB (uniL a.vars b.vars).length (njL a b) = decide ((njL a b).length <= 4000):=by
 have h5:=qd fa fb
 rw [ov (by simp only [inR,Jq,Xj]; omega) (fun x hx=>by
  have:=wu fa fb x hx; exact ⟨by omega,this.2⟩),Fe (uA fa fb)]
theorem Cj {a b : aG} (ha : vrOk a = true) (hb : vrOk b = true) : njB a b = newB (uniL a.vars b.vars).length (njL a b) /\
  njP a b = if newB (uniL a.vars b.vars).length (njL a b) then ⟨uniL a.vars b.vars,newR (uniL a.vars b.vars).length (njL a b)⟩ else ⟨[],⟨0,[]⟩⟩:=by
 have h:=HA (ck ha) (ck hb)
 have e : njB a b = newB (uniL a.vars b.vars).length (njL a b):=by rw [h,njB,ha,hb]; rfl
 refine ⟨e,?_⟩
 rw [njP,e]
 split
 ·rename_i hn; rw [newR,if_pos hn]
 ·rfl
theorem pN {a b r : List Int} : bp (comC a b) r = (comL a b).map (bX a r):=by
 rw [bp,comC,List.map_map]; rfl
def abF (vs row : List Int) : List Int:=(aS vs).map (bX vs row)
def abZ (vs : List Int) (rows : List (List Int)) : List (List Int):=(rows.filter (fitR vs)).map (abF vs)
theorem xi (vs : List Int) (rows : List (List Int)) : (abZ vs rows).length <= rows.length:=by
 rw [abZ,List.length_map]; exact Xy _ _
theorem GZ {vs : List Int} (hv : ∀ v ∈ vs,0 <= v /\ v < 5) (rows : List (List Int)) : abZ vs rows = abL vs rows:=by
 rw [abZ,abL]
 refine List.map_congr_left fun row hr=>?_
 have hf : row = vs.map (bX vs row):=(of_decide_eq_true (List.mem_filter.1 hr).2).symm
 rw [abF,qg (bX vs row) hf hv]
theorem DW (vs row : List Int) : (abF vs row).length = (aS vs).length:=by simp [abF]
theorem G6 {d : PDb} {nm : List UInt8} {vs : List Int} (hlk : lkB d nm = true) (har : (lkR d nm).ar = vs.length) (hv5 : vs.length <= 5) (hv : ∀ v ∈ vs,0 <= v /\ v < 5) :
  newB (aS vs).length (abZ vs (lkR d nm).rows) = true /\ newR (aS vs).length (abZ vs (lkR d nm).rows) = ⟨(aS vs).length,abR d ⟨nm,vs⟩⟩:=by
 have hr:=um hlk
 have h16:=kH hlk
 have ha5:=jf vs
 have hl:=xi vs (lkR d nm).rows
 have hb : newB (aS vs).length (abZ vs (lkR d nm).rows) = true:=by
  rw [ov (by simp only [inR,Jq,Xj]; omega) (fun x hx=>?_)]
  ·have:=dB (abZ vs (lkR d nm).rows)
   exact decide_eq_true (by omega)
  ·rw [abZ,Xz] at hx
   obtain ⟨row,hrow,rfl⟩:=hx
   have hm:=bK hr (List.mem_filter.1 hrow).1
   refine ⟨by rw [DW],?_⟩
   simp only [aZ,Jk] at hm ⊢
   intro y hy
   rw [abF,Xz] at hy
   obtain ⟨v,hvv,rfl⟩:=hy
   exact hm.2 _ (iT (gl.1 hvv).1 (by omega))
 refine ⟨hb,?_⟩
 rw [newR,if_pos hb,GZ hv]; rfl
structure VI (b : List Int) (i : Nat) : Prop where
 le : i <= b.length
 al : ∀ j,j < i -> cp 5 b j = true
theorem VI.zero {b : List Int} : VI b 0:=⟨by omega,fun j h=>by omega⟩
theorem VI.step {b : List Int} {i : Nat} (h : VI b i) (hi : i < b.length) (hb : cp 5 b i = true) : VI b (i + 1):=
 ⟨by omega,fun j hj=>by
  rcases Nat.lt_succ_iff_lt_or_eq.1 hj with h' | h'
  ·exact h.al j h'
  ·exact h' ▸ hb⟩
theorem VI.done {b : aG} {i : Nat} (h : VI b.vars i) (hi : b.vars.length <= i) : vrOk b = (aL b.rel.ar b.rel.rows && decide (b.rel.ar = b.vars.length)):=by
 have : (List.range b.vars.length).all (cp 5 b.vars) = true:=by
  simp only [Jk,Zg]; exact fun j hj=>h.al j (by omega)
 rw [vrOk,this,Bool.true_and]
theorem DK {b : aG} {i : Nat} (hi : i < b.vars.length) (hb : cp 5 b.vars i = false) : vrOk b = false:=by
 have : (List.range b.vars.length).all (cp 5 b.vars) = false:=by
  rw [List.all_eq_false]; exact ⟨i,Zg.2 hi,by simp [hb]⟩
 rw [vrOk,this,Zh]
theorem tM (a b : List Int) : (comL a b).length <= a.length:=Xy _ _
theorem Hx {u a : List Int} {rows : List (List Int)} {b : List Int} {list : List (List Int)} {k j : Nat} (hk : k <= 4000) (hj : j <= 4000) (hl : list.length <= 4000) : (jnI u a rows b list k j).length <= 16004000:=by
 rw [jnI,Qw]
 have h1:=zA (u:=u) (a:=a) (b:=b) (rows:=rows.take k) (list:=list)
 have h2:=List.length_filterMap_le (fun s=>glO u a (rows.getD k []) b s) (list.take j)
 have h3 : (rows.take k).length <= 4000:=by rw [Zq]; omega
 have h4 : (list.take j).length <= 4000:=by rw [Zq]; omega
 have h5:=Nat.mul_le_mul h3 hl
 omega
theorem zy {u a b : List Int} {rows list : List (List Int)} (k : Nat) : (cO u a (rows.take k) b list).length <= (cO u a rows b list).length:=by
 conv=>rhs; rw [<- List.take_append_drop k rows]
 rw [cO,cO,List.flatMap_append,Qw]
 omega
theorem Ck {a b : aG} (h : njB a b = true) : vrOk (njP a b) = true:=by
 have h':=h
 simp only [njB,Jq] at h'
 have fa:=ck h'.1.1
 have fb:=ck h'.1.2
 have hs:=Cj h'.1.1 h'.1.2
 rw [h] at hs
 have hn:=hs.1.symm
 rw [njP,if_pos h]
 simp only [newB,Jq] at hn
 have hu:=fw b.vars fa.pw
 simp only [vrOk,Jq,Xj]
 refine ⟨yd hu.1 fun x hx=>?_,hn.2,trivial⟩
 rcases (hu.2 x).1 hx with h1 | h1
 ·exact fa.rng x h1
 ·exact fb.rng x h1
theorem AG {d : PDb} {q : ab} {bag : List Int} : ∀ {i : Nat} {v : aG},i <= q.atoms.length -> brT d q bag i = some v -> vrOk v = true
 | 0, v, _, h => by
   rw [oR] at h
   obtain rfl:=Option.some.inj h
   decide
 | i + 1, v, hi, h => by
   rw [oQ d q bag (by omega)] at h
   cases hb : brT d q bag i with
   | none=>rw [hb] at h; cases h
   | some c =>
     rw [hb] at h
     simp only [brS] at h
     split at h
     ·obtain rfl:=Option.some.inj h; exact AG (by omega) hb
     ·split at h
      ·rename_i hn; obtain rfl:=Option.some.inj h; exact Ck hn
      ·cases h
theorem JA {d : PDb} {q : ab} {bag : List Int} {v : aG} (h : brO d q bag = some v) : vrOk v = true:=by
 rw [brO] at h
 split at h
 ·exact AG (Jv _) h
 ·cases h
def rlS (d : PDb) (q : ab) (s : Option (List aG)) (b : List Int) : Option (List aG):=match s with
 | none=>none
 | some l => match brO d q b with
   | none=>none
   | some v=>some (l ++ [v])
def rlT (d : PDb) (q : ab) (bs : List (List Int)) (i : Nat) : Option (List aG):=(bs.take i).foldl (rlS d q) (some [])
def rlO (d : PDb) (q : ab) (x : PDec) : Option (List aG):=if bH q x then rlT d q x.bags x.bags.length else none
def ovL : Option (List aG) -> List aG
 | none=>[]
 | some l=>l
theorem pX (d : PDb) (q : ab) (bs : List (List Int)) : rlT d q bs 0 = some []:=rfl
theorem jZ (d : PDb) (q : ab) {bs : List (List Int)} {i : Nat} (h : i < bs.length) : rlT d q bs (i + 1) = rlS d q (rlT d q bs i) bs[i]:=by
 rw [rlT,Jz h,List.foldl_append]; rfl
theorem uS {d : PDb} {q : ab} {bs : List (List Int)} {i : Nat} (h : rlT d q bs i = none) : ∀ j,i <= j -> rlT d q bs j = none:=by
 intro j hj
 have key : ∀ l : List (List Int),l.foldl (rlS d q) none = none:=fun l=>by
  induction l with
  | nil=>rfl
  | cons a r ih=>simpa [rlS] using ih
 have e : bs.take j = bs.take i ++ (bs.take j).drop i:=by
  have:=(List.take_append_drop i (bs.take j)).symm
  rwa [List.take_take,Nat.min_eq_left hj] at this
 rw [rlT,e,List.foldl_append,<- rlT,h,key]
theorem oA {d : PDb} {q : ab} {bs : List (List Int)} : ∀ {i : Nat} {l : List aG},i <= bs.length -> rlT d q bs i = some l -> l.length = i
 | 0,l,_,h=>by obtain rfl:=Option.some.inj (h.symm.trans (pX d q bs)) ; rfl
 | i + 1, l, hi, h => by
   rw [jZ d q (by omega)] at h
   cases hb : rlT d q bs i with
   | none=>rw [hb] at h; cases h
   | some c =>
     rw [hb] at h
     have:=oA (by omega) hb
     simp only [rlS] at h
     split at h
     ·cases h
     ·obtain rfl:=Option.some.inj h; simp [this]
theorem yk {d : PDb} {q : ab} {bs : List (List Int)} : ∀ {i : Nat} {l : List aG},i <= bs.length -> rlT d q bs i = some l -> ∀ j (h1 : j < i) (h2 : j < l.length) (h3 : j < bs.length),brO d q bs[j] = some l[j]
 | 0,l,_,h=>by intro j h1; omega
 | i + 1, l, hi, h => by
   intro j h1 h2 h3
   rw [jZ d q (by omega)] at h
   cases hb : rlT d q bs i with
   | none=>rw [hb] at h; cases h
   | some c =>
     rw [hb] at h
     have hl:=oA (by omega) hb
     have ih:=yk (by omega) hb
     simp only [rlS] at h
     split at h
     ·cases h
     ·rename_i v hv
      obtain rfl:=Option.some.inj h
      by_cases hj : j < i
      ·rw [ih j hj (by omega) h3,List.getElem_append_left (by omega)]
      ·have : j = i:=by omega
       subst this
       rw [hv,List.getElem_append_right (by omega)]
       simp [hl]
theorem wF {d : PDb} {q : ab} {x : PDec} {l : List aG} (h : rlO d q x = some l) : bH q x = true /\ l.length = x.bags.length:=by
 rw [rlO] at h
 split at h
 ·rename_i hd; exact ⟨hd,oA (Jv _) h⟩
 ·cases h
theorem J9 {d : PDb} {q : ab} {x : PDec} {l : List aG} (h : rlO d q x = some l) : ∀ v ∈ l,vrOk v = true:=fun v hv=>by
 have hl:=(wF h).2
 rw [rlO] at h
 split at h
 ·obtain ⟨j,hj,rfl⟩:=List.getElem_of_mem hv
  exact JA (yk (Jv _) h j (by omega) hj (by omega))
 ·cases h
section
variable {α : Type} [Inhabited α]
def cx (f : α -> α -> Option α) (V : Nat -> Option α) (ks : List Nat) (s : Option α) : Option α:=ks.foldl (fun acc k=>acc.bind fun a=>(V k).bind (f a)) s
omit [Inhabited α] in
theorem gK (f : α -> α -> Option α) (V : Nat -> Option α) (ks : List Nat) : cx f V ks none = none:=by
 induction ks with
 | nil=>rfl
 | cons k r ih=>simpa [cx] using ih
omit [Inhabited α] in
theorem lI (f : α -> α -> Option α) (V : Nat -> Option α) (k : Nat) (ks : List Nat) (a : α) : cx f V (k :: ks) (some a) = cx f V ks ((V k).bind (f a)):=rfl
omit [Inhabited α] in
theorem nQ {f : α -> α -> Option α} {V V' : Nat -> Option α} {ks : List Nat} (h : ∀ k ∈ ks,V k = V' k) (s : Option α) : cx f V ks s = cx f V' ks s:=by
 induction ks generalizing s with
 | nil=>rfl
 | cons k r ih =>
   rw [cx,cx,List.foldl_cons,List.foldl_cons,h k (by simp)]
   exact ih (fun x hx=>h x (by simp [hx])) _
omit [Inhabited α] in
theorem v7 {f : α -> α -> Option α} {V : Nat -> Option α} {ks : List Nat} {s : Option α} {a : α} (h : cx f V ks s = some a) : ∀ k ∈ ks,(V k).isSome = true:=by
 induction ks generalizing s with
 | nil=>simp
 | cons k r ih =>
   intro j hj
   rw [cx,List.foldl_cons] at h
   cases s with
   | none=>have:=gK f V r; rw [cx] at this; simp [this] at h
   | some b =>
     cases hk : V k with
     | none=>have:=gK f V r; rw [cx] at this; simp [hk,this] at h
     | some c =>
       rcases Zz.1 hj with rfl | hj
       ·simp [hk]
       ·exact ih h j hj
def treV (f : α -> α -> Option α) (kids : Nat -> List Nat) (L0 : List α) : Nat -> Nat -> Option α
 | 0,_=>none
 | m + 1,i=>cx f (treV f kids L0 m) (kids i) (some (L0.getD i default))
theorem Fz {f : α -> α -> Option α} {kids : Nat -> List Nat} {L0 : List α} {r : Nat -> Nat} (hr : ∀ i,∀ k ∈ kids i,r k < r i) : ∀ (n i m : Nat),r i <= n -> r i < m -> treV f kids L0 m i = treV f kids L0 (r i + 1) i:=by
 intro n
 induction n with
 | zero =>
   intro i m hi hm
   have hk : kids i = []:=by
    cases h : kids i with
    | nil=>rfl
    | cons k t=>have:=hr i k (by rw [h]; simp); omega
   obtain ⟨m,rfl⟩ : ∃ m',m = m' + 1:=⟨m - 1,by omega⟩
   simp [treV,hk,cx]
 | succ n ih =>
   intro i m hi hm
   obtain ⟨m,rfl⟩ : ∃ m',m = m' + 1:=⟨m - 1,by omega⟩
   rw [treV,treV]
   refine nQ (fun k hk=>?_) _
   have h1:=hr i k hk
   rw [ih k m (by omega) (by omega),ih k (r i) (by omega) (by omega)]
def trW (f : α -> α -> Option α) (kids : Nat -> List Nat) (L0 : List α) (r : Nat -> Nat) (i : Nat) : Option α:=treV f kids L0 (r i + 1) i
theorem Dk {f : α -> α -> Option α} {kids : Nat -> List Nat} {L0 : List α} {r : Nat -> Nat} (hr : ∀ i,∀ k ∈ kids i,r k < r i) (i : Nat) :
  trW f kids L0 r i = cx f (trW f kids L0 r) (kids i) (some (L0.getD i default)):=by
 rw [trW,treV]
 refine nQ (fun k hk=>?_) _
 exact Fz hr (r k) k (r i) (Jv _) (hr i k hk)
def setA (l : List Nat) (W : Nat -> Option α) (L : List α) : List α:=(List.range L.length).map fun i=>if l.contains i then (W i).getD default else L.getD i default
theorem bY (l : List Nat) (W : Nat -> Option α) (L : List α) : (setA l W L).length = L.length:=by simp [setA]
theorem iX {l : List Nat} {W : Nat -> Option α} {L : List α} {i : Nat} (h : i < L.length) : (setA l W L).getD i default = if l.contains i then (W i).getD default else L.getD i default:=by
 simp [setA,h]
theorem cF {L M : List α} (hl : L.length = M.length) (h : ∀ i,i < L.length -> L.getD i default = M.getD i default) : L = M:=by
 refine List.ext_getElem hl fun i h1 h2=>?_
 have:=h i h1
 simpa [h1,h2] using this
theorem eG {L : List α} {p i : Nat} {v : α} (hi : i < L.length) : (L.set p v).getD i default = if p = i then v else L.getD i default:=by
 by_cases h : p = i
 ·subst h; simp [hi]
 ·simp [h]
def twK (f : α -> α -> Option α) (p : Nat) : List Nat -> List α -> Option (List α)
 | [],L=>some L
 | c :: r,L=>(f (L.getD p default) (L.getD c default)).bind fun v=>twK f p r (L.set p v)
theorem oE {f : α -> α -> Option α} {p : Nat} : ∀ {ks : List Nat} {L M : List α},twK f p ks L = some M -> M.length = L.length
 | [],L,M,h=>by obtain rfl:=Option.some.inj h; rfl
 | c :: r, L, M, h => by
   rw [twK] at h
   cases hv : f (L.getD p default) (L.getD c default) with
   | none=>rw [hv] at h; cases h
   | some v=>rw [hv] at h; have:=oE h; simpa using this
theorem Dt {f : α -> α -> Option α} {V : Nat -> Option α} {p : Nat} : ∀ (ks : List Nat) (L : List α),p < L.length -> (∀ k ∈ ks,k ≠ p /\ V k = some (L.getD k default)) ->
  twK f p ks L = (cx f V ks (some (L.getD p default))).map fun v=>L.set p v
 | [], L, hp, _ => by
   simp only [twK,cx,List.foldl_nil,Jg,Jx]
   exact cF (by simp) fun i hi=>by
    rw [eG hi]; split
    ·rename_i h; rw [h]
    ·rfl
 | c :: r, L, hp, h => by
   rw [twK,lI]
   have hc:=h c (by simp)
   rw [hc.2]
   simp only [Option.bind_some]
   cases hv : f (L.getD p default) (L.getD c default) with
   | none=>simp [gK]
   | some v =>
     simp only [Option.bind_some]
     rw [Dt r (L.set p v) (by simpa using hp) fun k hk=>?_]
     ·have e : (L.set p v).getD p default = v:=by rw [eG hp]; simp
      rw [e]
      cases cx f V r (some v) with
      | none=>rfl
      | some u=>simp
     ·have:=h k (by simp [hk])
      refine ⟨this.1,?_⟩
      by_cases hk2 : k < L.length
      ·rw [eG hk2,if_neg (Ne.symm this.1)]; exact this.2
      ·have e1 : (L.set p v).getD k default = L.getD k default:=by simp [List.getD,List.getElem?_eq_none (Nat.le_of_not_lt hk2),hk2]
       rw [e1]; exact this.2
def twB (f : α -> α -> Option α) (kids : Nat -> List Nat) : List Nat -> List α -> Option (List α)
 | [],L=>some L
 | i :: r,L=>(twK f i (kids i) L).bind (twB f kids r)
theorem uW {l : List Nat} {W : Nat -> Option α} {L : List α} {i : Nat} {v : α} (hi : i < L.length) (hv : W i = some v) : (setA l W L).set i v = setA (l ++ [i]) W L:=by
 refine cF (by simp [setA]) fun j hj=>?_
 have hj' : j < L.length:=by simpa [setA] using hj
 rw [eG (by rw [bY]; exact hj'),iX hj',iX hj']
 by_cases h : i = j
 ·subst h; simp [hv]
 ·by_cases h2 : j ∈ l
  ·simp [h,Zw,h2]
  ·simp [h,Zw,h2,Ne.symm h]
theorem Ds {f : α -> α -> Option α} {kids : Nat -> List Nat} {L0 : List α} {W : Nat -> Option α} (hW : ∀ i,W i = cx f W (kids i) (some (L0.getD i default))) :
  ∀ (o done : List Nat),(done ++ o).Nodup -> (∀ i ∈ done ++ o,i < L0.length) -> (∀ A i B,o = A ++ i :: B -> ∀ k ∈ kids i,k ∈ done ++ A) -> (∀ i ∈ done,(W i).isSome = true) ->
  twB f kids o (setA done W L0) = if (∀ i ∈ o,(W i).isSome = true) then some (setA (done ++ o) W L0) else none
 | [],done,_,_,_,_=>by simp [twB]
 | i :: r, done, hn, hl, hk, hd => by
   rw [twB]
   have hi:=hl i (by simp)
   have hni : i ∉ done:=fun h=>(List.nodup_append.1 hn).2.2 i h i (by simp) rfl
   have hkd:=hk [] i r rfl
   simp only [List.append_nil] at hkd
   have hin : (setA done W L0).getD i default = L0.getD i default:=by rw [iX hi]; simp [hni]
   rw [Dt (V:=W) (kids i) (setA done W L0) (by rw [bY]; exact hi) (fun k hkk=>⟨fun (e : k = i)=>hni (by have:=hkd k hkk; rwa [e] at this),by
    have h1:=hkd k hkk
    have h2:=hd k h1
    have hk2:=hl k (List.mem_append_left _ h1)
    rw [iX hk2]
    simp only [Zw,h1,if_true]
    cases hw : W k with
    | none=>rw [hw] at h2; cases h2
    | some u=>rfl⟩),hin,<- hW i]
   cases hv : W i with
   | none =>
     rw [if_neg]
     ·rfl
     ·intro h; have:=h i (by simp); rw [hv] at this; cases this
   | some v =>
     simp only [Jg,Option.bind_some]
     rw [uW hi hv]
     have ih:=Ds hW r (done ++ [i]) (by simpa using hn) (by simpa using hl) (fun A j B e k hkk=>by
      have:=hk (i :: A) j B (by rw [e]; rfl) k hkk
      simpa using this) (fun j hj=>by
       rcases Qq.1 hj with h | h
       ·exact hd j h
       ·rw [Qg.1 h,hv]; rfl)
     rw [ih]
     simp [hv]
def twS (f : α -> α -> Option α) (par : Nat -> Nat) : List Nat -> List α -> Option (List α)
 | [],L=>some L
 | c :: r,L=>(f (L.getD (par c) default) (L.getD c default)).bind fun v=>twS f par r (L.set (par c) v)
theorem yI (f : α -> α -> Option α) (par : Nat -> Nat) : ∀ (l m : List Nat) (L : List α),twS f par (l ++ m) L = (twS f par l L).bind (twS f par m)
 | [],m,L=>rfl
 | c :: r, m, L => by
   rw [List.cons_append,twS,twS]
   cases f (L.getD (par c) default) (L.getD c default) with
   | none=>rfl
   | some v=>simp only [Option.bind_some]; exact yI f par r m _
def bw (kids : Nat -> List Nat) : Nat -> Nat -> List Nat
 | 0,k=>[k]
 | m + 1,k=>(kids k).flatMap (bw kids m) ++ [k]
def preF (kids : Nat -> List Nat) : Nat -> Nat -> List Nat
 | 0,_=>[]
 | m + 1,k=>(kids k).flatMap (bw kids m)
theorem gP (kids : Nat -> List Nat) (m k : Nat) : bw kids m k = preF kids m k ++ [k]:=by cases m <;> rfl
theorem gf {l : List Nat} {W : Nat -> Option α} {L : List α} {i : Nat} (h : i < L.length) (hi : i ∈ l) : (setA l W L).getD i default = (W i).getD default:=by
 rw [iX h]; simp [Zw,hi]
theorem fI {l : List Nat} {W : Nat -> Option α} {L : List α} {i : Nat} (h : i < L.length) (hi : i ∉ l) : (setA l W L).getD i default = L.getD i default:=by
 rw [iX h]; simp [Zw,hi]
theorem vc {f : α -> α -> Option α} {kids : Nat -> List Nat} {par : Nat -> Nat} {L0 : List α} {W : Nat -> Option α} {r : Nat -> Nat} (hW : ∀ i,W i = cx f W (kids i) (some (L0.getD i default)))
  (hp : ∀ i,∀ k ∈ kids i,par k = i) (hr : ∀ i,∀ k ∈ kids i,r k < r i) :
  ∀ (m k : Nat) (L : List α),r k <= m -> (∀ i ∈ bw kids m k,i < L.length /\ L.getD i default = L0.getD i default) -> (bw kids m k).Nodup ->
  twS f par (preF kids m k) L = if (W k).isSome = true then some (setA (bw kids m k) W L) else none:=by
 intro m
 induction m with
 | zero =>
   intro k L hm hL _
   have hk : kids k = []:=by
    cases h : kids k with
    | nil=>rfl
    | cons j t=>have:=hr k j (by rw [h]; simp); omega
   have hw : W k = some (L0.getD k default):=by rw [hW,hk]; rfl
   have h1:=hL k (by simp [bw])
   rw [preF,twS,hw]
   simp only [Option.isSome_some,if_true,Jx,bw]
   refine cF (by rw [bY]) fun i hi=>?_
   by_cases e : i = k
   ·subst e; rw [gf hi (by simp),hw,h1.2]; rfl
   ·rw [fI hi (by simpa using e)]
 | succ m ih =>
   intro k L hm hL hn
   have key : ∀ (ks ds : List Nat) (a : α),kids k = ds ++ ks -> cx f W ds (some (L0.getD k default)) = some a ->
     twS f par (ks.flatMap (bw kids m)) ((setA (ds.flatMap (bw kids m)) W L).set k a) = (cx f W ks (some a)).map fun v=>(setA ((kids k).flatMap (bw kids m)) W L).set k v:=by
    intro ks
    induction ks with
    | nil =>
      intro ds a he ha
      simp only [List.append_nil] at he
      simp [twS,cx,he]
    | cons j ks ihk =>
      intro ds a he ha
      have hkl:=(hL k (by simp [bw])).1
      have hjk : j ∈ kids k:=by rw [he]; simp
      have hn' : ((ds.flatMap (bw kids m)) ++ (bw kids m j ++ ks.flatMap (bw kids m)) ++ [k]).Nodup:=by
       have:=hn
       rw [bw,he] at this
       simpa using this
      obtain ⟨hn1,_,hn2⟩:=List.nodup_append.1 hn'
      obtain ⟨_,hn3,hn4⟩:=List.nodup_append.1 hn1
      have hnj:=(List.nodup_append.1 hn3).1
      have hsub : ∀ i ∈ bw kids m j,i ∈ bw kids (m + 1) k /\ i ∉ ds.flatMap (bw kids m) /\ i ≠ k:=fun i hi=>
       ⟨by rw [bw,he]; simp only [List.flatMap_append,List.flatMap_cons,Qq]; exact .inl (.inr (.inl hi)),
        fun h=>hn4 i h i (List.mem_append_left _ hi) rfl,fun e=>hn2 i (List.mem_append_right _ (List.mem_append_left _ hi)) k (by simp) e⟩
      obtain ⟨L1,hL1⟩ : ∃ L1,L1 = (setA (ds.flatMap (bw kids m)) W L).set k a:=⟨_,rfl⟩
      have hl1 : L1.length = L.length:=by rw [hL1]; simp [bY]
      have hv:=ih j L1 (by have:=hr k j hjk; omega) (fun i hi=>by
       obtain ⟨h1,h2,h3⟩:=hsub i hi
       have h4:=hL i h1
       refine ⟨by omega,?_⟩
       rw [hL1,eG (by rw [bY]; exact h4.1),if_neg (Ne.symm h3),fI h4.1 h2,h4.2]) hnj
      rw [List.flatMap_cons,gP,List.append_assoc,yI,<- hL1,hv,lI]
      cases hw : W j with
      | none=>simp [gK]
      | some b =>
        have hjm : j ∈ bw kids m j:=by rw [gP]; simp
        obtain ⟨h1,h2,h3⟩:=hsub j hjm
        have hjl:=(hL j h1).1
        have hkn : k ∉ bw kids m j:=fun h=>(hsub k h).2.2 rfl
        have e1 : (setA (bw kids m j) W L1).getD j default = b:=by rw [gf (by omega) hjm,hw]; rfl
        have e2 : (setA (bw kids m j) W L1).getD k default = a:=by rw [fI (by omega) hkn,hL1,eG (by rw [bY]; exact hkl)]; simp
        simp only [Option.isSome_some,if_true,Option.bind_some,List.singleton_append,twS,hp k j hjk,e1,e2]
        cases hf : f a b with
        | none=>simp [gK]
        | some v =>
          simp only [Option.bind_some]
          have e3 : (setA (bw kids m j) W L1).set k v = (setA ((ds ++ [j]).flatMap (bw kids m)) W L).set k v:=by
           refine cF (by simp [bY,hl1]) fun i hi=>?_
           have hi' : i < L.length:=by simpa [bY,hl1] using hi
           rw [eG (by rw [bY]; omega),eG (by rw [bY]; exact hi')]
           by_cases hik : k = i
           ·simp [hik]
           ·rw [if_neg hik,if_neg hik]
            by_cases hij : i ∈ bw kids m j
            ·rw [gf (by omega) hij,gf hi' (by simp only [List.flatMap_append,Qq]; exact .inr (by simpa using hij))]
            ·rw [fI (by omega) hij,hL1,eG (by rw [bY]; exact hi'),if_neg hik]
             by_cases hid : i ∈ ds.flatMap (bw kids m)
             ·rw [gf hi' hid,gf hi' (by simp only [List.flatMap_append,Qq]; exact .inl hid)]
             ·rw [fI hi' hid,fI hi' (by
               simp only [List.flatMap_append,Qq,not_or]
               exact ⟨hid,by simpa using hij⟩)]
          rw [e3]
          refine ihk (ds ++ [j]) v (by rw [he]; simp) ?_
          have ha':=ha
          rw [cx] at ha'
          rw [cx,List.foldl_append,ha']
          simp [hw,hf]
   have h0:=key (kids k) [] (L0.getD k default) rfl rfl
   have hkL:=hL k (by simp [bw])
   have e0 : (setA (([] : List Nat).flatMap (bw kids m)) W L).set k (L0.getD k default) = L:=by
    refine cF (by simp [bY]) fun i hi=>?_
    have hi' : i < L.length:=by simpa [bY] using hi
    rw [eG (by rw [bY]; exact hi')]
    by_cases h : k = i
    ·subst h; rw [if_pos rfl,hkL.2]
    ·rw [if_neg h,fI hi' (by simp)]
   rw [e0] at h0
   rw [preF,h0,<- hW k]
   cases hw : W k with
   | none=>rfl
   | some v =>
     simp only [Jg,Option.isSome_some,if_true,bw]
     rw [uW hkL.1 hw]
end
def kidN (ps : List Int) (k : Nat) : List Nat:=(List.range ps.length).filter fun i=>ps.getD i 0 == (k : Int)
def parN (ps : List Int) (i : Nat) : Nat:=(ps.getD i 0).toNat
def dpN (ps : List Int) (i : Nat) : Nat:=(bo ps (ps.length + 1) (i : Int)).length
def rkN (ps : List Int) (i : Nat) : Nat:=ps.length + 1 - dpN ps i
structure dK (ps : List Int) (rt : Nat) : Prop where
 hr : rt < ps.length
 rp : ps.getD rt 0 = -1
 par : ∀ i,i < ps.length -> i ≠ rt -> ∃ p : Nat,p < ps.length /\ ps.getD i 0 = (p : Int) /\ dpN ps i = dpN ps p + 1
 dl : ∀ i,i < ps.length -> dpN ps i <= ps.length
theorem dy {ps : List Int} {k c : Nat} : c ∈ kidN ps k ↔ c < ps.length /\ ps.getD c 0 = (k : Int):=by
 rw [kidN,List.mem_filter,Zg]; simp
theorem B3 (ps : List Int) (k : Nat) : (kidN ps k).Nodup:=List.Nodup.sublist List.filter_sublist List.nodup_range
theorem eb {ps : List Int} {k c : Nat} (h : c ∈ kidN ps k) : parN ps c = k:=by
 rw [parN,(dy.1 h).2]; simp
theorem FA {ps : List Int} (h : eW ps = true) : ∃ rt : Nat,dM ps = (rt : Int) /\ dK ps rt:=by
 have hS:=h
 rw [oD,rK,Jq,Xj] at hS
 have h1 : oneR ps = 1:=by
  have:=hS.1
  rw [dM] at this
  split at this
  ·assumption
  ·omega
 obtain ⟨rt,hrt,hr,he⟩:=oB h1
 simp only [eW,Jq,Jk,Zg] at h
 have ht:=h.1
 have hg : ∀ i (hi : i < ps.length),ps.getD i 0 = ps[i]:=fun i hi=>ak _ hi
 have up : ∀ i,i < ps.length -> ∃ b,upI ps (ps.length + 1) (i : Int) = some b /\ b < 0:=fun i hi=>by
  have:=ht i hi
  simp only [cU,Jq] at this
  exact po.1 this.2
 refine ⟨rt,hrt,hr,by rw [hg rt hr,he],fun i hi hne=>?_,fun i hi=>?_⟩
 ·obtain ⟨b,hb,hb0⟩:=up i hi
  have hx:=kP (by omega) hb
  have hin:=hx.1
  simp only [inR,Jq,Xj] at hin
  have hn1 : nxP ps i ≠ -1:=fun e=>hne (pK h1 hi hr (by rw [<- eJ hi,e]) he)
  refine ⟨(nxP ps i).toNat,by omega,by rw [hg i hi,<- eJ hi]; omega,?_⟩
  rw [dpN,dpN,cA (by simp only [inR,Jq,Xj]; omega),Qv,Int.toNat_of_nonneg (by omega),(sU hb0 hx.2).2]
 ·obtain ⟨b,hb,hb0⟩:=up i hi
  exact uG hb0 (by omega) (by omega) hb
section
variable {ps : List Int} {rt : Nat} (T : dK ps rt)
include T
theorem dK.kd {k c : Nat} (h : c ∈ kidN ps k) : k < ps.length /\ c ≠ rt /\ dpN ps c = dpN ps k + 1:=by
 obtain ⟨h1,h2⟩:=dy.1 h
 have hne : c ≠ rt:=fun e=>by rw [e,T.rp] at h2; omega
 obtain ⟨p,hp,h3,h4⟩:=T.par c h1 hne
 have : p = k:=by omega
 subst this
 exact ⟨hp,hne,h4⟩
theorem dK.rk {k c : Nat} (h : c ∈ kidN ps k) : rkN ps c < rkN ps k:=by
 obtain ⟨h1,h2,h3⟩:=T.kd h
 have:=T.dl c (dy.1 h).1
 rw [rkN,rkN]; omega
theorem dK.par_kid {i : Nat} (hi : i < ps.length) (hne : i ≠ rt) : parN ps i < ps.length /\ i ∈ kidN ps (parN ps i) /\ ps.getD i 0 = (parN ps i : Int) /\ dpN ps i = dpN ps (parN ps i) + 1:=by
 obtain ⟨p,hp,h3,h4⟩:=T.par i hi hne
 have e : parN ps i = p:=by rw [parN,h3]; simp
 rw [e]
 exact ⟨hp,dy.2 ⟨hi,h3⟩,h3,h4⟩
theorem dK.ind {P : Nat -> Prop} (h0 : P rt) (hs : ∀ k,P k -> ∀ c ∈ kidN ps k,P c) : ∀ i,i < ps.length -> P i:=by
 have key : ∀ n i,dpN ps i <= n -> i < ps.length -> P i:=by
  intro n
  induction n with
  | zero =>
    intro i hd hi
    by_cases e : i = rt
    ·exact e ▸ h0
    ·have:=(T.par_kid hi e).2.2.2; omega
  | succ n ih =>
    intro i hd hi
    by_cases e : i = rt
    ·exact e ▸ h0
    ·obtain ⟨h1,h2,_,h4⟩:=T.par_kid hi e
     exact hs _ (ih _ (by omega) h1) i h2
 exact fun i hi=>key _ i (Jv _) hi
def upW (ps : List Int) : Nat -> Nat -> Nat
 | 0,i=>i
 | t + 1,i=>upW ps t (parN ps i)
omit T in
theorem vf (ps : List Int) : ∀ (t i : Nat),upW ps (t + 1) i = parN ps (upW ps t i)
 | 0,i=>rfl
 | t + 1,i=>by rw [upW,vf ps t (parN ps i)]; rfl
theorem dK.post_facts : ∀ (m k : Nat),k < ps.length -> ∀ i ∈ bw (kidN ps) m k,i < ps.length /\ dpN ps k <= dpN ps i /\ upW ps (dpN ps i - dpN ps k) i = k
 | 0, k, hk, i, hi => by
   rw [bw,Qg] at hi
   subst hi
   exact ⟨hk,Jv _,by rw [Nat.sub_self]; rfl⟩
 | m + 1, k, hk, i, hi => by
   rw [bw,Qq,List.mem_flatMap,Qg] at hi
   rcases hi with ⟨j,hj,hi⟩ | rfl
   ·have hjl:=(dy.1 hj).1
    obtain ⟨h1,h2,h3⟩:=dK.post_facts m j hjl i hi
    obtain ⟨_,_,h4⟩:=T.kd hj
    refine ⟨h1,by omega,?_⟩
    rw [show dpN ps i - dpN ps k = (dpN ps i - dpN ps j) + 1 by omega,vf,h3,eb hj]
   ·exact ⟨hk,Jv _,by rw [Nat.sub_self]; rfl⟩
theorem dK.post_nd : ∀ (m k : Nat),k < ps.length -> (bw (kidN ps) m k).Nodup
 | 0,k,_=>by simp [bw]
 | m + 1, k, hk => by
   rw [bw]
   refine List.nodup_append.2 ⟨List.pairwise_flatMap.2 ⟨fun j hj=>dK.post_nd m j (dy.1 hj).1,?_⟩,by simp,fun i hi k' hk' e=>?_⟩
   ·refine (B3 ps k).imp_of_mem fun {j j'} hj hj' hne i hi i' hi' e=>hne ?_
    subst e
    have h1:=T.post_facts m j (dy.1 hj).1 i hi
    have h2:=T.post_facts m j' (dy.1 hj').1 i hi'
    have d1:=(T.kd hj).2.2
    have d2:=(T.kd hj').2.2
    rw [<- h1.2.2,<- h2.2.2,d1,d2]
   ·obtain ⟨j,hj,hij⟩:=List.mem_flatMap.1 hi
    rw [Qg] at hk'
    have ek : i = k:=e.trans hk'
    have h1:=T.post_facts m j (dy.1 hj).1 i hij
    rw [ek] at h1
    have d1:=(T.kd hj).2.2
    omega
theorem dK.post_cl : ∀ (m k : Nat),rkN ps k <= m -> ∀ i ∈ bw (kidN ps) m k,∀ j ∈ kidN ps i,j ∈ bw (kidN ps) m k
 | 0, k, hm, i, hi, j, hj => by
   rw [bw,Qg] at hi
   subst hi
   have:=T.rk hj; omega
 | m + 1, k, hm, i, hi, j, hj => by
   rw [bw,Qq,List.mem_flatMap,Qg] at hi ⊢
   rcases hi with ⟨j',hj',hi⟩ | rfl
   ·exact .inl ⟨j',hj',dK.post_cl m j' (by have:=T.rk hj'; omega) i hi j hj⟩
   ·exact .inl ⟨j,hj,by rw [gP]; simp⟩
theorem dK.post_all {m : Nat} (hm : rkN ps rt <= m) : ∀ i,i < ps.length -> i ∈ bw (kidN ps) m rt:=
 T.ind (by rw [gP]; simp) fun k hk c hc=>T.post_cl m rt hm k hk c hc
structure BfsI (ps : List Int) (rt : Nat) (out : List Nat) (k : Nat) : Prop where
 le : k <= out.length
 eq : out = rt :: (out.take k).flatMap (kidN ps)
 nd : out.Nodup
 lt : ∀ i ∈ out,i < ps.length
 od : ∀ A i B,out = A ++ i :: B -> ∀ c ∈ kidN ps i,c ∉ A
theorem dK.bfs_zero : BfsI ps rt [rt] 0:=⟨by simp,rfl,by simp,by simp; exact T.hr,fun A i B e c hc=>by
 cases A with
 | nil=>simp
 | cons a A=>simp at e⟩
theorem dK.bfs_step {out : List Nat} {k : Nat} (h : BfsI ps rt out k) (hk : k < out.length) : BfsI ps rt (out ++ kidN ps out[k]) (k + 1):=by
 have hmem : ∀ c ∈ out,c ≠ rt -> ∃ j ∈ out.take k,c ∈ kidN ps j:=fun c hc hne=>by
  rw [h.eq] at hc
  rcases Zz.1 hc with e | hc
  ·exact absurd e hne
  ·obtain ⟨j,hj,hcj⟩:=List.mem_flatMap.1 hc
   exact ⟨j,hj,hcj⟩
 have hkt : out[k] ∉ out.take k:=fun hm=>by
  obtain ⟨j,hj,e⟩:=List.getElem_of_mem hm
  rw [Zq] at hj
  rw [List.getElem_take] at e
  have:=(List.getElem_inj h.nd).1 e
  omega
 have hdis : ∀ c ∈ kidN ps out[k],c ∉ out:=fun c hc hco=>by
  obtain ⟨j,hj,hcj⟩:=hmem c hco (T.kd hc).2.1
  have : j = out[k]:=by rw [<- eb hcj,eb hc]
  exact hkt (this ▸ hj)
 refine ⟨by simp; omega,?_,List.nodup_append.2 ⟨h.nd,B3 _ _,fun a ha b hb e=>hdis b hb (e ▸ ha)⟩,fun i hi=>?_,?_⟩
 ·have e1 : (out ++ kidN ps out[k]).take (k + 1) = out.take k ++ [out[k]]:=by
   rw [List.take_append_of_le_length (by omega),Jz hk]
  rw [e1,List.flatMap_append,List.flatMap_singleton]
  obtain ⟨K,hK⟩ : ∃ K,K = kidN ps out[k]:=⟨_,rfl⟩
  rw [<- hK]
  conv=>lhs; rw [h.eq]
  simp
 ·rcases Qq.1 hi with hi | hi
  ·exact h.lt i hi
  ·exact (dy.1 hi).1
 ·intro A i B e c hc hcA
  rcases List.append_eq_append_iff.1 e with ⟨K1,e1,e2⟩ | ⟨B1,e1,e2⟩
  ·-- i stands among the new ones
   have hi : i ∈ kidN ps out[k]:=by rw [e2]; simp
   rw [e1] at hcA
   rcases Qq.1 hcA with hco | hcK
   ·obtain ⟨j,hj,hcj⟩:=hmem c hco (T.kd hc).2.1
    have : j = i:=by rw [<- eb hcj,eb hc]
    exact hdis i hi (this ▸ List.mem_of_mem_take hj)
   ·have : c ∈ kidN ps out[k]:=by rw [e2]; simp [hcK]
    have e3 : out[k] = i:=by rw [<- eb this,eb hc]
    have d:=(T.kd hi).2.2
    rw [e3] at d; omega
  ·cases B1 with
   | nil =>
     simp only [List.append_nil] at e1
     simp only [List.nil_append] at e2
     have hi : i ∈ kidN ps out[k]:=by rw [<- e2]; simp
     rw [<- e1] at hcA
     obtain ⟨j,hj,hcj⟩:=hmem c hcA (T.kd hc).2.1
     have : j = i:=by rw [<- eb hcj,eb hc]
     exact hdis i hi (this ▸ List.mem_of_mem_take hj)
   | cons b B1 =>
     simp only [List.cons_append,List.cons.injEq] at e2
     obtain ⟨rfl,_⟩:=e2
     exact h.od A i B1 e1 c hc hcA
theorem dK.bfs_done {out : List Nat} {k : Nat} (h : BfsI ps rt out k) (hk : out.length <= k) : (∀ i,i < ps.length -> i ∈ out) /\ out.reverse.Nodup /\ (∀ A i B,out.reverse = A ++ i :: B -> ∀ c ∈ kidN ps i,c ∈ A):=by
 have he:=h.eq
 rw [Jj hk] at he
 have hall : ∀ i,i < ps.length -> i ∈ out:=T.ind (by rw [he]; simp) fun j hj c hc=>by
  rw [he]; exact List.mem_cons_of_mem _ (List.mem_flatMap.2 ⟨j,hj,hc⟩)
 refine ⟨hall,List.pairwise_reverse.2 (h.nd.imp fun h e=>h e.symm),fun A i B e c hc=>?_⟩
 have e2 : out = B.reverse ++ i :: A.reverse:=by
  have:=congrArg List.reverse e
  simpa using this
 have h1:=h.od _ _ _ e2 c hc
 have h2:=hall c (dy.1 hc).1
 rw [e2] at h2
 rcases Qq.1 h2 with h3 | h3
 ·exact absurd h3 h1
 ·rcases Zz.1 h3 with h3 | h3
  ·subst h3
   have:=(T.kd hc).2.2; omega
  ·simpa using h3
theorem dK.bfs_len {out : List Nat} {k : Nat} (h : BfsI ps rt out k) : out.length <= ps.length:=by
 have _:=T
 have:=wo out (List.range ps.length) h.nd fun x hx=>Zg.2 (h.lt x hx)
 simpa using this
theorem dK.run_eq {α : Type} [Inhabited α] (f : α -> α -> Option α) {L0 : List α} (hL : L0.length = ps.length) {out : List Nat} {k : Nat} (h : BfsI ps rt out k) (hk : out.length <= k) {m : Nat} (hm : rkN ps rt <= m) :
  twB f (kidN ps) out.reverse L0 = twS f (parN ps) (preF (kidN ps) m rt) L0:=by
 obtain ⟨h1,h2,h3⟩:=T.bfs_done h hk
 have hrk : ∀ i,∀ k ∈ kidN ps i,rkN ps k < rkN ps i:=fun i k hk=>T.rk hk
 obtain ⟨W,hWd⟩ : ∃ W,W = trW f (kidN ps) L0 (rkN ps):=⟨_,rfl⟩
 have hW : ∀ i,W i = cx f W (kidN ps i) (some (L0.getD i default)):=fun i=>by rw [hWd]; exact Dk hrk i
 have hB:=Ds hW out.reverse [] (by simpa using h2) (fun i hi=>by rw [hL]; exact h.lt i (by simpa using hi)) (fun A i B e c hc=>by simpa using h3 A i B e c hc) (by simp)
 have e0 : setA [] W L0 = L0:=cF (bY _ _ _) fun i hi=>by rw [fI (by rwa [bY] at hi) (by simp)]
 rw [e0] at hB
 have hS:=vc (par:=parN ps) hW (fun i k hk=>eb hk) hrk m rt L0 hm (fun i hi=>⟨by rw [hL]; exact (T.post_facts m rt T.hr i hi).1,rfl⟩) (T.post_nd m rt T.hr)
 rw [hB,hS]
 have hc : (∀ i ∈ out.reverse,(W i).isSome = true) ↔ (W rt).isSome = true:=by
  constructor
  ·exact fun h4=>h4 rt (by simpa using h1 rt T.hr)
  ·intro h4 i hi
   refine T.ind (P:=fun i=>(W i).isSome = true) h4 (fun k hk c hc=>?_) i (h.lt i (by simpa using hi))
   obtain ⟨a,ha⟩:=Zx.1 hk
   rw [hW k] at ha
   exact v7 ha c hc
 have e1 : setA ([] ++ out.reverse) W L0 = setA (bw (kidN ps) m rt) W L0:=by
  refine cF (by simp [bY]) fun i hi=>?_
  rw [bY] at hi
  rw [gf hi (by simpa using h1 i (by omega)),gf hi (T.post_all hm i (by omega))]
 by_cases h4 : (W rt).isSome = true
 ·rw [if_pos (hc.2 h4),if_pos h4,e1]
 ·rw [if_neg (fun h5=>h4 (hc.1 h5)),if_neg h4]
end
def semR (a b : aG) (r : List Int) : Bool:=b.rel.rows.any fun s=>glB (uniL a.vars b.vars) a.vars r b.vars s
def smB (a b : aG) : Bool:=vrOk a && vrOk b
def smP (a b : aG) : aG:=if smB a b then ⟨a.vars,⟨a.rel.ar,a.rel.rows.filter (semR a b)⟩⟩ else ⟨[],⟨0,[]⟩⟩
theorem Bl {α : Type} {p : α -> Bool} {l : List α} {i : Nat} (h : i < l.length) : (l.take (i + 1)).filter p = (l.take i).filter p ++ if p l[i] then [l[i]] else []:=by
 rw [Jz h,List.filter_append]
 cases e : p l[i] <;> simp [e]
theorem Kc {a b : aG} (h : smB a b = true) : vrOk (smP a b) = true:=by
 have h':=h
 simp only [smB,Jq] at h'
 have fa:=ck h'.1
 have ha:=h'.1
 simp only [vrOk,Jq,Xj] at ha
 rw [smP,if_pos h]
 simp only [vrOk,Jq,Xj]
 refine ⟨ha.1,?_,ha.2.2⟩
 have hr : inR a.rel.ar 0 5 = true:=by have:=ha.2.1; simp only [aL,Jq] at this; exact this.1.1
 rw [rC hr (List.Pairwise.filter _ fa.srt) (fun x hx=>bK ha.2.1 (List.mem_filter.1 hx).1)]
 have:=Xy (semR a b) a.rel.rows
 have:=fa.nr
 exact decide_eq_true (by omega)
def f1 (a b : aG) : Option aG:=some (smP a b)
def f2 (a b : aG) : Option aG:=if njB a b then some (njP a b) else none
def rtN (ps : List Int) : Nat:=(dM ps).toNat
def ordP (ps : List Int) : List Nat:=preF (kidN ps) (ps.length + 2) (rtN ps)
def evL (d : PDb) (q : ab) (x : PDec) : Option (List aG):=match rlO d q x with
 | none=>none
 | some L0=>(twS f1 (parN x.par) (ordP x.par) L0).bind (twS f2 (parN x.par) (ordP x.par))
def evP (d : PDb) (q : ab) (x : PDec) : bE:=match evL d q x with
 | none=>⟨0,[]⟩
 | some L=>prP (L.getD (rtN x.par) default).rel q.out
def evB (d : PDb) (q : ab) (x : PDec) : Bool:=match evL d q x with
 | none=>false
 | some L=>prB (L.getD (rtN x.par) default).rel q.out
theorem pe {q : ab} {x : PDec} (h : bH q x = true) : dK x.par (rtN x.par) /\ x.bags.length = x.par.length /\ dM x.par = (rtN x.par : Int):=by
 simp only [bH,Jq,Xj] at h
 obtain ⟨rt,h1,h2⟩:=FA h.1.1.1.2
 have : rtN x.par = rt:=by rw [rtN,h1]; simp
 rw [this]
 exact ⟨h2,h.1.1.1.1.2,h1⟩
def cN (l : List Nat) : List Int:=l.map fun (i : Nat)=>(i : Int)
theorem jI (l : List Nat) : (cN l).length = l.length:=by simp [cN]
theorem AM (l m : List Nat) : cN (l ++ m) = cN l ++ cN m:=by simp [cN]
def kidT (ps : List Int) (k i : Nat) : List Nat:=(List.range i).filter fun j=>ps.getD j 0 == (k : Int)
theorem zB {ps : List Int} {k i : Nat} (h : i < ps.length) : kidT ps k (i + 1) = kidT ps k i ++ if ps[i] = (k : Int) then [i] else []:=by
 rw [kidT,kidT,List.range_succ,List.filter_append]
 by_cases e : ps[i] = (k : Int) <;> simp [h,e]
theorem uj (ps : List Int) (k i : Nat) : (kidT ps k i).length <= i:=by
 have:=Xy (fun j=>ps.getD j 0 == (k : Int)) (List.range i)
 rwa [List.length_range] at this
theorem pE (ps : List Int) (k : Nat) : (kidN ps k).length <= ps.length:=uj ps k ps.length
def rvL (l : List Int) (s : Nat) : List Int:=(List.range l.length).map fun i=>if i < s \/ l.length - s <= i then l.getD (l.length - 1 - i) 0 else l.getD i 0
theorem jq (l : List Int) (s : Nat) : (rvL l s).length = l.length:=by simp [rvL]
theorem kM {l : List Int} {s i : Nat} (h : i < l.length) : (rvL l s).getD i 0 = if i < s \/ l.length - s <= i then l.getD (l.length - 1 - i) 0 else l.getD i 0:=by
 simp [rvL,h]
theorem C2 (l : List Int) : rvL l 0 = l:=by
 refine List.ext_getElem (jq l 0) fun i h1 h2=>?_
 have:=kM (s:=0) h2
 rw [ak _ h1] at this
 rw [this,if_neg (by omega),ak _ h2]
theorem ext0 {l m : List Int} (hl : l.length = m.length) (h : ∀ i,i < l.length -> l.getD i 0 = m.getD i 0) : l = m:=by
 refine List.ext_getElem hl fun i h1 h2=>?_
 have:=h i h1
 rwa [ak _ h1,ak _ h2] at this
theorem set0 {l : List Int} {p i : Nat} {v : Int} (hi : i < l.length) : (l.set p v).getD i 0 = if p = i then v else l.getD i 0:=by
 by_cases h : p = i
 ·subst h; simp [hi]
 ·simp [h]
theorem C0 {l : List Int} {s : Nat} (h : s < l.length - 1 - s) : ((rvL l s).set s ((rvL l s).getD (l.length - 1 - s) 0)).set (l.length - 1 - s) ((rvL l s).getD s 0) = rvL l (s + 1):=by
 refine ext0 (by simp [jq]) fun i h1=>?_
 have hi : i < l.length:=by simpa [jq] using h1
 rw [set0 (by simpa [jq] using hi),set0 (by rw [jq]; exact hi),kM hi,kM hi,kM (show s < l.length by omega),kM (show l.length - 1 - s < l.length by omega)]
 rw [if_neg (show ¬ (s < s \/ l.length - s <= s) by omega),if_neg (show ¬ (l.length - 1 - s < s \/ l.length - s <= l.length - 1 - s) by omega)]
 by_cases c1 : l.length - 1 - s = i
 ·rw [if_pos c1,if_pos (by omega),show l.length - 1 - i = s by omega]
 ·rw [if_neg c1]
  by_cases c2 : s = i
  ·rw [if_pos c2,if_pos (by omega),c2]
  ·rw [if_neg c2]
   by_cases c3 : i < s \/ l.length - s <= i
   ·rw [if_pos c3,if_pos (by omega)]
   ·rw [if_neg c3,if_neg (by omega)]
theorem CZ {l : List Int} {s : Nat} (h : ¬ s < l.length - 1 - s) : rvL l s = l.reverse:=by
 refine List.ext_getElem (by simp [jq]) fun i h1 h2=>?_
 have hi : i < l.length:=by simpa using h2
 have e:=kM (s:=s) hi
 rw [ak _ h1] at e
 rw [e,List.getElem_reverse]
 by_cases c : i < s \/ l.length - s <= i
 ·rw [if_pos c,ak _ (by omega)]
 ·rw [if_neg c,ak _ hi]
  congr 1
  omega
theorem E5 (ps : List Int) : rkN ps (rtN ps) <= ps.length + 2:=by rw [rkN]; omega
end Go.Vs
