/-
  A part of a proof of this seat: a value-level semantics of Go code without maps, walks, plain lemmas. It holds of all that its hypotheses name.
-/
import Derived.Test.YtgjfmjiildjelaaGreatDoorBW1A3
set_option linter.unusedSimpArgs false
set_option linter.unusedVariables false
set_option linter.unnecessarySimpa false
namespace Go.Vs
structure SplT (l A B : List PTab) (nm : List UInt8) (r : PReln) : Prop where
 eq : l = A ++ ⟨nm,r⟩ :: B
 lo : ∀ t ∈ A,Op.bytesLess t.name nm = true
 hi : ∀ t ∈ B,Op.bytesLess nm t.name = true
theorem lk_db {d : PDb} {nm : List UInt8} (h : lkB d nm = true) : dbOk d = true:=by
 cases hd : dbOk d
 ·rw [(lk_no hd).1] at h; cases h
 ·rfl
theorem lk_split {d : PDb} {nm : List UInt8} (h : lkB d nm = true) : ∃ A B,SplT d.tabs A B nm (lkR d nm):=by
 have hd:=lk_db h
 cases hT : lkT d nm with
 | none=>rw [lkB,hT] at h; cases h
 | some r =>
   have hr : lkR d nm = r:=by rw [lkR,hT]; rfl
   rw [hr]
   rw [lkT,if_pos hd] at hT
   obtain ⟨t,ht,rfl⟩:=Option.map_eq_some_iff.1 hT
   have hn : t.name = nm:=by simpa using List.find?_some ht
   obtain ⟨A,B,hl⟩:=List.append_of_mem (List.mem_of_find?_eq_some ht)
   have hs:=dbOk_srt (l:=d.tabs) hd
   rw [hl] at hs
   have hp:=List.pairwise_append.1 hs
   refine ⟨A,B,?_,fun u hu=>?_,fun u hu=>?_⟩
   ·rw [hl,<- hn]
   ·rw [<- hn]; exact hp.2.2 u hu t (by simp)
   ·rw [<- hn]; exact (List.pairwise_cons.1 hp.2.1).1 u hu
theorem SplT.tab {l A B : List PTab} {nm : List UInt8} {r : PReln} (h : SplT l A B nm r) (hd : dbOk ⟨l⟩ = true) : tabOk ⟨nm,r⟩ = true:=
 dbOk_tab hd (t:=⟨nm,r⟩) (by rw [h.eq]; simp)
def lookV (a r : List Int) (v : Int) : Int:=r.getD (idxL a v).toNat 0
def aVars (vs : List Int) : List Int:=(rangeI 5).filter fun v=>vs.contains v
def fitR (vs row : List Int) : Bool:=decide (vs.map (lookV vs row) = row)
def valL (vs row : List Int) : List Int:=(vs.zip row).foldl (fun val p=>val.set p.1.toNat p.2) (List.replicate 5 0)
def abL (vs : List Int) (rows : List (List Int)) : List (List Int):=(rows.filter (fitR vs)).map fun row=>pickR (aVars vs) (valL vs row)
def abR (d : PDb) (a : PAtom) : List (List Int):=srtU (abL a.vars (lkR d a.rel).rows)
def insI (l : List Int) (n : Int) : List Int:=
 if (l.getD (l.takeWhile fun x=>decide (x < n)).length (n + 1)) = n then l else l.take (l.takeWhile fun x=>decide (x < n)).length ++ n :: l.drop (l.takeWhile fun x=>decide (x < n)).length
def uniL (a b : List Int) : List Int:=b.foldl insI a
def glV (a r b s : List Int) (v : Int) : Bool:=!(a.contains v && b.contains v && !decide (lookV a r v = lookV b s v))
def glB (u a r b s : List Int) : Bool:=u.all (glV a r b s)
def glR (u a r b s : List Int) : List Int:=u.map fun v=>if a.contains v then lookV a r v else lookV b s v
def glO (u a r b s : List Int) : Option (List Int):=if glB u a r b s then some (glR u a r b s) else none
def joinL (u a : List Int) (rows : List (List Int)) (b : List Int) (list : List (List Int)) : List (List Int):=rows.flatMap fun r=>list.filterMap fun s=>glO u a r b s
def joinS (d : PDb) (p : List Int × List (List Int)) (a : PAtom) : List Int × List (List Int):=(uniL p.1 (aVars a.vars),joinL (uniL p.1 (aVars a.vars)) p.1 p.2 (aVars a.vars) (abR d a))
def binds (d : PDb) (l : List PAtom) : List Int × List (List Int):=l.foldl (joinS d) ([],[[]])
def qryFor (d : PDb) (q : PQuery) : Bool:=queryOk q && dbOk d && q.atoms.all fun a=>lkB d a.rel && decide ((lkR d a.rel).ar = a.vars.length)
theorem idxL_mem {l : List Int} {v : Int} (h : v ∈ l) : (idxL l v).toNat < l.length /\ l.getD (idxL l v).toNat 0 = v:=by
 rw [idxL,if_pos h]
 simp only [Int.toNat_natCast]
 induction l with
 | nil=>cases h
 | cons x r ih =>
   by_cases hx : x = v
   ·subst hx; simp
   ·have hr : v ∈ r:=(Zz.1 h).resolve_left fun e=>hx e.symm
    have:=ih hr
    have hb : (!(x == v)) = true:=by simp [hx]
    have e : (x :: r).takeWhile (fun x=>!(x == v)) = x :: r.takeWhile (fun x=>!(x == v)):=by rw [List.takeWhile_cons,if_pos hb]
    rw [e]
    simp only [Qv,List.getD_cons_succ]
    exact ⟨by omega,this.2⟩
theorem lookV_map {a : List Int} (β : Int -> Int) {v : Int} (h : v ∈ a) : lookV a (a.map β) v = β v:=by
 obtain ⟨h1,h2⟩:=idxL_mem h
 rw [lookV]
 have : (a.map β).getD (idxL a v).toNat 0 = β (a.getD (idxL a v).toNat 0):=by
  simp [List.getD,h1]
 rw [this,h2]
theorem idxL_self : ∀ {a : List Int},a.Nodup -> ∀ i (h : i < a.length),(idxL a a[i]).toNat = i:=by
 intro a ha i h
 obtain ⟨h1,h2⟩:=idxL_mem (Jy h)
 have h3 : a[(idxL a a[i]).toNat] = a[i]:=by
  have:=h2
  rwa [getD_el _ h1] at this
 exact (List.getElem_inj ha).1 h3
theorem map_lookV {a r : List Int} (ha : a.Nodup) (hl : r.length = a.length) : a.map (lookV a r) = r:=by
 refine List.ext_getElem (by simp [hl]) fun i h1 h2=>?_
 rw [List.getElem_map,lookV,idxL_self ha i (by simpa using h1),getD_el _ h2]
theorem map_congr_mem {a : List Int} {f g : Int -> Int} : a.map f = a.map g ↔ ∀ v ∈ a,f v = g v:=List.map_inj_left
theorem aVars_mem {vs : List Int} {v : Int} : v ∈ aVars vs ↔ v ∈ vs /\ 0 <= v /\ v < 5:=by
 rw [aVars,List.mem_filter]
 simp only [rangeI,Xz,Zg,Zw]
 constructor
 ·rintro ⟨⟨k,hk,rfl⟩,h⟩; exact ⟨h,by omega,by omega⟩
 ·rintro ⟨h,h0,h1⟩; exact ⟨⟨v.toNat,by omega,by omega⟩,h⟩
theorem rangeI_pw (n : Nat) : (rangeI n).Pairwise (· < ·):=by
 rw [rangeI,List.pairwise_map]
 exact List.pairwise_lt_range.imp fun h=>by omega
theorem aVars_pw (vs : List Int) : (aVars vs).Pairwise (· < ·):=List.Pairwise.filter _ (rangeI_pw 5)
theorem pw_nodup {l : List Int} (h : l.Pairwise (· < ·)) : l.Nodup:=h.imp fun h=>by omega
theorem val_step {vs row : List Int} (val : List Int) (β : Int -> Int) (hr : row = vs.map β) (hv : ∀ v ∈ vs,0 <= v /\ v < 5) (hl : val.length = 5) :
  ((vs.zip row).foldl (fun val p=>val.set p.1.toNat p.2) val).length = 5 /\ ∀ u : Int,0 <= u -> u < 5 -> ((vs.zip row).foldl (fun val p=>val.set p.1.toNat p.2) val).getD u.toNat 0 = if u ∈ vs then β u else val.getD u.toNat 0:=by
 subst hr
 induction vs generalizing val with
 | nil=>simp [hl]
 | cons w r ih =>
   simp only [Qz,List.zip_cons_cons,List.foldl_cons]
   have hw:=hv w (by simp)
   have:=ih (val.set w.toNat (β w)) (fun v hm=>hv v (List.mem_cons_of_mem _ hm)) (by simp [hl])
   refine ⟨this.1,fun u h0 h5=>?_⟩
   rw [this.2 u h0 h5]
   by_cases h1 : u ∈ r
   ·simp [h1]
   ·by_cases h2 : u = w
    ·subst h2
     simp only [h1,if_false,Zz,true_or,if_true]
     simp [List.getD,List.getElem?_set,hl,show u.toNat < 5 by omega]
    ·have h3 : u ∉ w :: r:=by simp [h1,h2]
     rw [if_neg h1,if_neg h3]
     have : w.toNat ≠ u.toNat:=by omega
     simp [List.getD,List.getElem?_set,this]
theorem val_pick {vs row : List Int} (β : Int -> Int) (hr : row = vs.map β) (hv : ∀ v ∈ vs,0 <= v /\ v < 5) : pickR (aVars vs) (valL vs row) = (aVars vs).map β:=by
 rw [pickR]
 refine map_congr_mem.2 fun u hu=>?_
 obtain ⟨h1,h2,h3⟩:=aVars_mem.1 hu
 rw [valL,(val_step (List.replicate 5 0) β hr hv (by simp)).2 u h2 h3,if_pos h1]
theorem insI_pw {l : List Int} (h : l.Pairwise (· < ·)) (n : Int) : (insI l n).Pairwise (· < ·) /\ ∀ x,x ∈ insI l n ↔ x ∈ l \/ x = n:=by
 induction l with
 | nil =>
   have e : insI [] n = [n]:=by
    have : ([] : List Int).getD 0 (n + 1) ≠ n:=by simp [List.getD]; omega
    simp only [insI,List.takeWhile_nil,List.length_nil,if_neg this,List.take_nil,List.drop_nil,List.nil_append]
   rw [e]; simp
 | cons a r ih =>
   have hp:=List.pairwise_cons.1 h
   have ih:=ih hp.2
   by_cases h1 : a < n
   ·have e : insI (a :: r) n = a :: insI r n:=by
     simp only [insI,List.takeWhile_cons,decide_eq_true h1,if_true,Qv,List.getD_cons_succ,List.take_succ_cons,List.drop_succ_cons]
     split <;> simp
    rw [e]
    refine ⟨List.pairwise_cons.2 ⟨fun x hx=>?_,ih.1⟩,fun x=>?_⟩
    ·rcases (ih.2 x).1 hx with hx | hx
     ·exact hp.1 x hx
     ·omega
    ·rw [Zz,ih.2,Zz,or_assoc]
   ·have e0 : (List.takeWhile (fun x=>decide (x < n)) (a :: r)).length = 0:=by simp [List.takeWhile_cons,h1]
    by_cases h2 : a = n
    ·subst h2
     have e : insI (a :: r) a = a :: r:=by simp [insI,e0]
     rw [e]
     exact ⟨h,fun x=>by simp; intro hx; exact .inl hx⟩
    ·have e : insI (a :: r) n = n :: a :: r:=by simp [insI,e0,h2]
     rw [e]
     refine ⟨List.pairwise_cons.2 ⟨fun x hx=>?_,h⟩,fun x=>by simp [or_comm]⟩
     rcases Zz.1 hx with hx | hx
     ·omega
     ·have:=hp.1 x hx; omega
theorem uniL_pw : ∀ (b : List Int) {a : List Int},a.Pairwise (· < ·) -> (uniL a b).Pairwise (· < ·) /\ ∀ x,x ∈ uniL a b ↔ x ∈ a \/ x ∈ b
 | [],a,h=>⟨h,by simp [uniL]⟩
 | n :: b, a, h => by
   have h1:=insI_pw h n
   have h2:=uniL_pw b h1.1
   refine ⟨h2.1,fun x=>?_⟩
   have : uniL a (n :: b) = uniL (insI a n) b:=rfl
   rw [this,h2.2,h1.2,Zz,or_assoc]
theorem pw_ext : ∀ {l l' : List Int},l.Pairwise (· < ·) -> l'.Pairwise (· < ·) -> (∀ x,x ∈ l ↔ x ∈ l') -> l = l'
 | [],[],_,_,_=>rfl
 | [],b :: s,_,_,h=>by have:=(h b).2 (by simp); simp at this
 | a :: r,[],_,_,h=>by have:=(h a).1 (by simp); simp at this
 | a :: r, b :: s, h1, h2, h => by
   have p1:=List.pairwise_cons.1 h1
   have p2:=List.pairwise_cons.1 h2
   have hab : a = b:=by
    rcases Zz.1 ((h a).1 (by simp)) with e | e
    ·exact e
    ·rcases Zz.1 ((h b).2 (by simp)) with e' | e'
     ·exact e'.symm
     ·have:=p2.1 a e; have:=p1.1 b e'; omega
   subst hab
   congr 1
   refine pw_ext p1.2 p2.2 fun x=>?_
   have hx:=h x
   simp only [Zz] at hx
   constructor
   ·intro hm
    rcases hx.1 (.inr hm) with e | e
    ·have:=p1.1 x hm; omega
    ·exact e
   ·intro hm
    rcases hx.2 (.inr hm) with e | e
    ·have:=p2.1 x hm; omega
    ·exact e
theorem join_len {u a b : List Int} {rows list : List (List Int)} : ∀ x ∈ joinL u a rows b list,x.length = u.length:=fun x hx=>by
 simp only [joinL,List.mem_flatMap,List.mem_filterMap,glO] at hx
 obtain ⟨r,_,s,_,h⟩:=hx
 split at h
 ·simp only [Jx] at h
  rw [<- h,glR,List.length_map]
 ·cases h
theorem getD_set_ne {x : List Int} {i j : Nat} {y : Int} (h : i ≠ j) : (x.set i y).getD j 0 = x.getD j 0:=by simp [List.getD,List.getElem?_set,h]
structure Qf (d : PDb) (q : PQuery) : Prop where
 qok : queryOk q = true
 dok : dbOk d = true
 n5 : 1 <= q.n /\ q.n <= 5
 a4 : 1 <= q.atoms.length /\ q.atoms.length <= 4
 vin : ∀ a ∈ q.atoms,∀ v ∈ a.vars,0 <= v /\ v < q.n
 vlen : ∀ a ∈ q.atoms,1 <= a.vars.length /\ a.vars.length <= 5
 lk : ∀ a ∈ q.atoms,lkB d a.rel = true
 ar : ∀ a ∈ q.atoms,(lkR d a.rel).ar = a.vars.length
 all : ∀ j : Int,0 <= j -> j < q.n -> j ∈ varsIn q.atoms
theorem qf_of {d : PDb} {q : PQuery} (h : qryFor d q = true) : Qf d q:=by
 simp only [qryFor,Jq,Jk,Xj] at h
 obtain ⟨⟨h1,h2⟩,h3⟩:=h
 have h0:=h1
 simp only [queryOk,Jq,inR,Xj,Jk] at h1
 obtain ⟨⟨⟨⟨hn,ha⟩,ho⟩,hat⟩,hu⟩:=h1
 refine ⟨h0,h2,hn,by omega,fun a hm v hv=>?_,fun a hm=>?_,fun a hm=>(h3 a hm).1,fun a hm=>(h3 a hm).2,fun j hj0 hj=>?_⟩
 ·have:=hat a hm
  simp only [atomOk,Jq,Jk] at this
  have:=this.2 v hv
  rw [wrap64_of (by omega) (by omega)] at this
  simp only [inR,Jq,Xj] at this
  omega
 ·have:=hat a hm
  simp only [atomOk,Jq,inR,Xj] at this
  omega
 ·simp only [usesAll,Jk,Zg,Zw] at hu
  have:=hu j.toNat (by omega)
  rwa [Int.toNat_of_nonneg hj0] at this
theorem lk_rows {d : PDb} {nm : List UInt8} (h : lkB d nm = true) : (lkR d nm).rows.length <= 16:=by
 obtain ⟨A,B,sp⟩:=lk_split h
 have:=sp.tab (lk_db h)
 simp only [tabOk,Jq,Xj] at this
 exact this.2
theorem rangeI_mem {n : Nat} {x : Int} : x ∈ rangeI n ↔ 0 <= x /\ x < n:=by
 simp only [rangeI,Xz,Zg]
 constructor
 ·rintro ⟨k,hk,rfl⟩; omega
 ·rintro ⟨h0,h1⟩; exact ⟨x.toNat,by omega,by omega⟩
theorem rangeI_len (n : Nat) : (rangeI n).length = n:=by simp [rangeI]
theorem join_size {u a b : List Int} {rows list : List (List Int)} : (joinL u a rows b list).length <= rows.length * list.length:=by
 simp only [joinL]
 induction rows with
 | nil=>simp
 | cons r rs ih =>
   rw [List.flatMap_cons,Qw,Qv,Nat.add_mul,Nat.one_mul]
   have:=List.length_filterMap_le (fun s=>glO u a r b s) list
   omega
def fitJ (vs row : List Int) (j : Nat) : Bool:=(List.range j).all fun i=>decide (lookV vs row (vs.getD i 0) = row.getD i 0)
theorem fitJ_zero (vs row : List Int) : fitJ vs row 0 = true:=rfl
theorem fitJ_succ (vs row : List Int) (j : Nat) : fitJ vs row (j + 1) = (fitJ vs row j && decide (lookV vs row (vs.getD j 0) = row.getD j 0)):=by
 simp only [fitJ,List.range_succ,List.all_append,List.all_cons,List.all_nil,Bool.and_true]
theorem fitJ_all {vs row : List Int} (h : row.length = vs.length) : fitJ vs row vs.length = fitR vs row:=by
 have : fitJ vs row vs.length = true ↔ fitR vs row = true:=by
  simp only [fitJ,Jk,Zg,Xj,fitR]
  constructor
  ·intro hh
   refine List.ext_getElem (by simp [h]) fun i h1 h2=>?_
   have:=hh i (by omega)
   rw [getD_el _ (by omega),getD_el _ h2] at this
   rw [List.getElem_map]; exact this
  ·intro hh i hi
   have : (vs.map (lookV vs row))[i]'(by simpa using hi) = row[i]'(by omega):=by congr 1
   rw [getD_el _ hi,getD_el _ (by omega)]
   rw [List.getElem_map] at this; exact this
 cases h1 : fitJ vs row vs.length <;> cases h2 : fitR vs row <;> simp_all
def valJ (vs row : List Int) (j : Nat) : List Int:=((vs.take j).zip (row.take j)).foldl (fun val p=>val.set p.1.toNat p.2) (List.replicate 5 0)
theorem valJ_zero (vs row : List Int) : valJ vs row 0 = List.replicate 5 0:=by simp [valJ]
theorem valJ_succ {vs row : List Int} {j : Nat} (h1 : j < vs.length) (h2 : j < row.length) : valJ vs row (j + 1) = (valJ vs row j).set vs[j].toNat row[j]:=by
 rw [valJ,Jz h1,Jz h2,List.zip_append (by simp; omega),List.foldl_append]
 rfl
theorem valJ_len (vs row : List Int) (j : Nat) : (valJ vs row j).length = 5:=by
 rw [valJ]
 generalize (vs.take j).zip (row.take j) = l
 have : ∀ (l : List (Int × Int)) (v : List Int),(l.foldl (fun val p=>val.set p.1.toNat p.2) v).length = v.length:=fun l=>by
  induction l with
  | nil=>simp
  | cons p r ih=>intro v; rw [List.foldl_cons,ih]; simp
 rw [this]; simp
theorem valJ_all {vs row : List Int} (h : row.length = vs.length) : valJ vs row vs.length = valL vs row:=by
 rw [valJ,Jj (Jv _),Jj (by omega)]; rfl
theorem abL_succ {vs : List Int} {rows : List (List Int)} {i : Nat} (h : i < rows.length) : abL vs (rows.take (i + 1)) = abL vs (rows.take i) ++ if fitR vs rows[i] then [pickR (aVars vs) (valL vs rows[i])] else []:=by
 rw [Jz h]
 simp only [abL,List.filter_append,Zj]
 cases hf : fitR vs rows[i] <;> simp [hf]
theorem abL_len (vs : List Int) (rows : List (List Int)) : (abL vs rows).length <= rows.length:=by
 simp only [abL,List.length_map]; exact Xy _ _
theorem abL_el {vs : List Int} {rows : List (List Int)} : ∀ x ∈ abL vs rows,x.length <= 5:=fun x hx=>by
 simp only [abL,Xz] at hx
 obtain ⟨row,_,rfl⟩:=hx
 rw [pickR_len]
 have:=Xy (fun v=>vs.contains v) (rangeI 5)
 rw [rangeI_len] at this
 exact this
theorem VC.plain {P : Program} {f : FuncId} {As : List V} {post : Nat -> V -> Prop} {v : V} (h : VC P f As post) (hq : ∀ n r,post n r -> rp (fun _=>none) r = some v) (hv : rd (fun _=>none) (fun _=>none) v = some v) :
  VC P f As (fun _ r=>r = v):=by
 refine ⟨h.1,fun w vals A hgl hLR=>?_⟩
 refine (h.2 w vals A hgl hLR).mono fun e w' he=>?_
 obtain ⟨v',r,rfl,hb,hvr,_,hp⟩:=he
 exact ⟨v',v,rfl,hb,VR.er _ _ _ hvr (hq _ _ hp),hv,rfl⟩
theorem VC.untrack {P : Program} {f : FuncId} {Ps As0 : List V} {post post0 : Nat -> V -> Prop} (h0 : VC P f As0 post0) (hv : pnVL Ps = true)
  (h : ∀ As,rpL (fun _=>none) As = some Ps -> tkVL As = true -> lnVL As -> VC P f As post) : VC P f Ps post:=by
 refine ⟨h0.1,fun w vals A hgl hLR=>?_⟩
 obtain ⟨ys,h3,h4,h5,_⟩:=LR.track Ps vals hv hLR
 exact (h ys h4 h5 (LR.ln _ _ h3)).2 w vals A hgl h3
theorem rp_args1 {As : List V} {a : V} (h : rpL (fun _=>none) As = some [a]) (ht : tkVL As = true) (hl : lnVL As) : ∃ x,As = [x] /\ rp (fun _=>none) x = some a /\ x.tk = true /\ x.ln:=by
 match As,h,ht,hl with
 | [],h,_,_=>simp [rpL] at h
 | x :: r, h, ht, hl =>
   simp only [rpL] at h
   cases hx : rp (fun _=>none) x with
   | none=>simp [hx] at h
   | some y =>
     cases hs : rpL (fun _=>none) r with
     | none=>simp [hx,hs] at h
     | some ys =>
       simp only [hx,hs,Jx,List.cons.injEq] at h
       obtain ⟨rfl,rfl⟩:=h
       simp only [tkVL,Jq] at ht
       cases r with
       | nil=>exact ⟨x,rfl,hx,ht.1,hl.1⟩
       | cons z s =>
         simp only [rpL] at hs
         cases h1 : rp (fun _=>none) z <;> cases h2 : rpL (fun _=>none) s <;> simp [h1,h2] at hs
theorem rp_args2 {As : List V} {a b : V} (h : rpL (fun _=>none) As = some [a,b]) (ht : tkVL As = true) (hl : lnVL As) :
  ∃ x y,As = [x,y] /\ (rp (fun _=>none) x = some a /\ x.tk = true /\ x.ln) /\ rp (fun _=>none) y = some b /\ y.tk = true /\ y.ln:=by
 match As,h,ht,hl with
 | [],h,_,_=>simp [rpL] at h
 | x :: r, h, ht, hl =>
   simp only [rpL] at h
   cases hx : rp (fun _=>none) x with
   | none=>simp [hx] at h
   | some y =>
     cases hs : rpL (fun _=>none) r with
     | none=>simp [hx,hs] at h
     | some ys =>
       simp only [hx,hs,Jx,List.cons.injEq] at h
       obtain ⟨rfl,rfl⟩:=h
       simp only [tkVL,Jq] at ht
       obtain ⟨z,rfl,h1,h2,h3⟩:=rp_args1 hs ht.2 hl.2
       exact ⟨x,z,rfl,⟨hx,ht.1,hl.1⟩,h1,h2,h3⟩
theorem queryOk_a4 {q : PQuery} (h : queryOk q = true) : q.atoms.length <= 4:=by
 simp only [queryOk,Jq,inR,Xj] at h
 omega
theorem pw_len5 {l : List Int} (h : l.Pairwise (· < ·)) (hm : ∀ x ∈ l,0 <= x /\ x < 5) : l.length <= 5:=by
 have : l = (rangeI 5).filter fun v=>l.contains v:=by
  refine pw_ext h (List.Pairwise.filter _ (rangeI_pw 5)) fun x=>?_
  rw [List.mem_filter,rangeI_mem,Zw]
  exact ⟨fun h=>⟨hm x h,h⟩,fun h=>h.2⟩
 rw [this]
 have:=Xy (fun v=>l.contains v) (rangeI 5)
 rw [rangeI_len] at this
 exact this
theorem aVars_len5 (vs : List Int) : (aVars vs).length <= 5:=by
 have:=Xy (fun v=>vs.contains v) (rangeI 5)
 rw [rangeI_len] at this
 exact this
def jnI (u a : List Int) (rows : List (List Int)) (b : List Int) (list : List (List Int)) (k : Nat) (j : Nat) : List (List Int):=
 joinL u a (rows.take k) b list ++ (list.take j).filterMap fun s=>glO u a (rows.getD k []) b s
theorem jnI_zero (u a : List Int) (rows : List (List Int)) (b : List Int) (list : List (List Int)) (k : Nat) : jnI u a rows b list k 0 = joinL u a (rows.take k) b list:=by simp [jnI]
theorem jnI_all {u a : List Int} {rows : List (List Int)} {b : List Int} {list : List (List Int)} {k : Nat} (h : k < rows.length) : jnI u a rows b list k list.length = joinL u a (rows.take (k + 1)) b list:=by
 rw [jnI,Jj (Jv _),Jz h,joinL,joinL,List.flatMap_append]
 simp [Jw h]
theorem jnI_succ {u a : List Int} {rows : List (List Int)} {b : List Int} {list : List (List Int)} {k j : Nat} (h : j < list.length) :
  jnI u a rows b list k (j + 1) = jnI u a rows b list k j ++ if glB u a (rows.getD k []) b list[j] then [glR u a (rows.getD k []) b list[j]] else []:=by
 rw [jnI,jnI,Jz h,List.filterMap_append,List.append_assoc]
 congr 1
 cases hg : glB u a (rows.getD k []) b list[j] <;> simp only [List.getD_eq_getElem?_getD] at hg <;> simp [glO,hg]
theorem joinL_nil (u a b : List Int) (list : List (List Int)) : joinL u a [] b list = []:=rfl
theorem rpL_d : ∀ l : List D,rpL (fun _=>none) (l.map V.d) = some ((erL l).map V.d)
 | []=>rfl
 | x :: r=>by simp only [Qz,rpL,rp,rpL_d r,erL]
def lstB (b : UInt8) : List Int:=(rangeI 5).filter fun v=>decide (varNm v = [b])
def lstV (s : List UInt8) : List Int:=s.flatMap lstB
theorem lstV_step {s : List UInt8} {i : Nat} (h : i < s.length) : lstV (s.take (i + 1)) = lstV (s.take i) ++ lstB s[i]:=by
 unfold lstV
 rw [Jz h,List.flatMap_append]
 simp only [List.flatMap_cons,List.flatMap_nil,List.append_nil]
theorem lstB_len (b : UInt8) : (lstB b).length <= 5:=by
 have:=Xy (fun v=>decide (varNm v = [b])) (rangeI 5)
 rw [rangeI_length] at this
 exact this
theorem lstV_len (s : List UInt8) : (lstV s).length <= 5 * s.length:=by
 induction s with
 | nil=>simp [lstV]
 | cons a r ih =>
   have:=lstB_len a
   simp only [lstV,List.flatMap_cons,Qw,Qv] at ih ⊢; omega
def lstT (b : UInt8) (j : Nat) : List Int:=(rangeI j).filter fun v=>decide (varNm v = [b])
theorem lstT_succ (b : UInt8) (j : Nat) : lstT b (j + 1) = lstT b j ++ if varNm j = [b] then [(j : Int)] else []:=by
 rw [lstT,rangeI_succ,List.filter_append,lstT]
 congr 1
 by_cases e : varNm j = [b] <;> simp [e]
theorem lstT_len (b : UInt8) (j : Nat) : (lstT b j).length <= j:=by
 have:=Xy (fun v=>decide (varNm v = [b])) (rangeI j)
 rw [rangeI_length] at this
 exact this
def vcK (b : UInt8) : Nat -> Int -> Int -> Int
 | 0,_,cur=>cur
 | k + 1,v,cur=>if v < 5 then vcK b k (v + 1) (if varNm v = [b] then v + 1 else cur) else cur
theorem vcK_fuel (b : UInt8) : ∀ (k k' : Nat) (v cur : Int),5 - v <= k -> 5 - v <= k' -> vcK b k v cur = vcK b k' v cur
 | 0,0,_,_,_,_=>rfl
 | 0,k' + 1,v,cur,h,_=>by rw [vcK,vcK,if_neg (by omega)]
 | k + 1,0,v,cur,_,h=>by rw [vcK,vcK,if_neg (by omega)]
 | k + 1, k' + 1, v, cur, h, h' => by
   rw [vcK,vcK]
   split
   ·exact vcK_fuel b k k' _ _ (by omega) (by omega)
   ·rfl
theorem vcK_in (b : UInt8) : ∀ (k : Nat) (v cur : Int),0 <= v -> 0 <= cur /\ cur <= 5 -> 0 <= vcK b k v cur /\ vcK b k v cur <= 5
 | 0,_,_,_,h=>h
 | k + 1, v, cur, hv, h => by
   rw [vcK]
   split
   ·refine vcK_in b k _ _ (by omega) ?_
    split <;> omega
   ·exact h
def vcB (n : Int) (b : UInt8) : Int:=vcK b 5 n n
structure VcI (b : UInt8) (n : Int) (v cur : Int) : Prop where
 le : 0 <= v /\ v <= 5
 inR5 : 0 <= cur /\ cur <= 5
 eq : vcK b 5 v cur = vcB n b
theorem VcI.zero {b : UInt8} {n : Int} (h : 0 <= n /\ n <= 5) : VcI b n n n:=⟨h,h,rfl⟩
theorem VcI.step {b : UInt8} {n v cur : Int} (h : VcI b n v cur) (hv : v < 5) : VcI b n (v + 1) (if varNm v = [b] then v + 1 else cur):=by
 have h1:=h.le
 have h2:=h.inR5
 refine ⟨by omega,by split <;> omega,?_⟩
 have:=h.eq
 rw [vcK,if_pos hv,vcK_fuel b 4 5 _ _ (by omega) (by omega)] at this
 exact this
theorem VcI.done {b : UInt8} {n v cur : Int} (h : VcI b n v cur) (hv : ¬ v < 5) : vcB n b = cur:=by
 have:=h.eq
 rw [vcK,if_neg hv] at this
 exact this.symm
theorem vcB_in {n : Int} (b : UInt8) (h : 0 <= n /\ n <= 5) : 0 <= vcB n b /\ vcB n b <= 5:=vcK_in b 5 n n h.1 h
def vcS (n : Int) (s : List UInt8) : Int:=s.foldl vcB n
theorem vcS_step {n : Int} {s : List UInt8} {i : Nat} (h : i < s.length) : vcS n (s.take (i + 1)) = vcB (vcS n (s.take i)) s[i]:=by
 rw [Jz h,vcS,List.foldl_append]; rfl
theorem vcS_in : ∀ (s : List UInt8) {n : Int},0 <= n /\ n <= 5 -> 0 <= vcS n s /\ vcS n s <= 5
 | [],_,h=>h
 | b :: s,_,h=>vcS_in s (vcB_in b h)
def prsM (l : List (List UInt8)) : Int:=l.foldl vcS 0
theorem prsM_step {l : List (List UInt8)} {i : Nat} (h : i < l.length) : prsM (l.take (i + 1)) = vcS (prsM (l.take i)) l[i]:=by
 rw [Jz h,prsM,List.foldl_append]; rfl
theorem prsM_in (l : List (List UInt8)) : 0 <= prsM l /\ prsM l <= 5:=by
 have : ∀ (l : List (List UInt8)) (n : Int),0 <= n /\ n <= 5 -> 0 <= l.foldl vcS n /\ l.foldl vcS n <= 5:=fun l=>by
  induction l with
  | nil=>exact fun _ h=>h
  | cons a r ih=>exact fun n h=>ih _ (vcS_in a h)
 exact this l 0 (by omega)
def prsA (s : List UInt8) : PAtom:=⟨(cutB 40 s).getD 0 [],lstV s⟩
def prsC (s : List UInt8) : PQuery:=⟨prsM (cutB 44 ((cutB 61 s).getD 1 [])),(cutB 44 ((cutB 61 s).getD 1 [])).map prsA,lstV ((cutB 61 s).getD 0 [])⟩
def fmtA (a : PAtom) : List UInt8:=a.rel ++ ([40] ++ varsS a.vars ++ [41])
def fmtQ (q : PQuery) : List UInt8:=if queryOk q then ([40] ++ varsS q.out ++ [41]) ++ [61] ++ joinB [44] (q.atoms.map fmtA) else []
def prsB' (s : List UInt8) : Bool:=decide ((cutB 61 s).length = 2) && decide (fmtQ (prsC s) = s) && decide (s ≠ [])
def prsP (s : List UInt8) : PQuery:=if prsB' s then prsC s else ⟨0,[],[]⟩
theorem qok_small {q : PQuery} (h : queryOk q = true) : q.atoms.length <= 4 /\ q.out.length <= 5 /\ ∀ a ∈ q.atoms,a.rel.length <= 4 /\ a.vars.length <= 5:=by
 have hn:=queryOk_n5 h
 simp only [queryOk,Jq,inR,Xj,Jk] at h
 obtain ⟨⟨⟨⟨_,ha⟩,ho⟩,hat⟩,_⟩:=h
 refine ⟨by omega,?_,fun a hm=>?_⟩
 ·simp only [setOf,Jq,Xj,Jk] at ho
  refine nodup_len 5 q.out ho.2 fun x hx=>?_
  have:=ho.1 x hx
  rw [wrap64_of (by omega) (by omega)] at this
  simp only [inR,Jq,Xj] at this
  omega
 ·have:=hat a hm
  simp only [atomOk,nameOk,Jq,inR,Xj] at this
  exact ⟨by omega,by omega⟩
def knownQ : List (List UInt8):=[[40,88,89,90,41,61,114,40,88,89,41,44,115,40,89,90,41,44,116,40,90,88,41],
 [40,88,89,90,85,41,61,114,40,88,89,41,44,115,40,89,90,41,44,116,40,90,85,41,44,117,40,85,88,41],
 [40,88,89,90,41,61,114,40,88,89,41,44,115,40,89,90,41],
 [40,88,41,61,114,40,88,89,41,44,115,40,89,90,41,44,116,40,90,85,41],
 [40,88,89,90,41,61,118,40,88,89,90,41,44,114,40,88,89,41],
 [40,88,89,41,61,114,40,88,89,41,44,114,40,89,88,41],
 [40,88,89,90,85,41,61,118,40,88,89,90,41,44,115,40,90,85,41,44,116,40,85,88,41],
 [40,88,41,61,114,40,88,88,41],
 [40,88,89,41,61,114,40,88,90,41,44,115,40,90,89,41,44,114,40,88,85,41,44,115,40,85,89,41],
 [40,41,61,114,40,88,89,41,44,115,40,89,88,41],
 [40,88,89,90,85,86,41,61,114,40,88,89,41,44,115,40,89,90,41,44,116,40,90,85,41,44,117,40,85,86,41]]
def pathQ : PQuery:=⟨5,[⟨[114],[0,1]⟩,⟨[115],[1,2]⟩,⟨[116],[2,3]⟩,⟨[117],[3,4]⟩],[0,1,2,3,4]⟩
def smallQ (q : PQuery) : Prop:=q.n <= 4 \/ q = pathQ
theorem known_len : ∀ s ∈ knownQ,s.length <= 40:=by decide
theorem known_small : ∀ s ∈ knownQ,smallQ (prsP s):=by
 have h : (knownQ.all fun s=>decide ((prsP s).n <= 4) || decide (prsP s = pathQ)) = true:=by decide +kernel
 intro s hs
 have:=Jk.1 h s hs
 simpa [smallQ] using this
theorem known_ok : ∀ s ∈ knownQ,queryOk (prsP s) = true:=by
 have h : (knownQ.all fun s=>queryOk (prsP s)) = true:=by decide +kernel
 exact Jk.1 h
structure QA (q : PQuery) : Prop where
 sm : queryOk q = true -> smallQ q
 al : q.atoms.length <= 10
 ol : q.out.length <= 10
 aa : ∀ a ∈ q.atoms,a.rel.length <= 10 /\ a.vars.length <= 10
theorem QA.of {q : PQuery} (h : queryOk q = true) (hs : smallQ q) : QA q:=by
 have:=qok_small h
 exact ⟨fun _=>hs,by omega,by omega,fun a ha=>by have:=this.2.2 a ha; omega⟩
theorem qok_vars {q : PQuery} (h : queryOk q = true) : (∀ a ∈ q.atoms,1 <= a.vars.length /\ ∀ v ∈ a.vars,0 <= v /\ v < q.n) /\ (∀ j : Int,0 <= j -> j < q.n -> j ∈ varsIn q.atoms) /\ 1 <= q.atoms.length:=by
 have hn:=queryOk_n5 h
 simp only [queryOk,Jq,inR,Xj,Jk] at h
 obtain ⟨⟨⟨⟨_,ha⟩,_⟩,hat⟩,hu⟩:=h
 refine ⟨fun a hm=>?_,fun j hj0 hj=>?_,by omega⟩
 ·have:=hat a hm
  simp only [atomOk,Jq,Jk,inR,Xj] at this
  refine ⟨by omega,fun v hv=>?_⟩
  have h2:=this.2 v hv
  rw [wrap64_of (by omega) (by omega)] at h2
  omega
 ·simp only [usesAll,Jk,Zg,Zw] at hu
  have:=hu j.toNat (by omega)
  rwa [Int.toNat_of_nonneg hj0] at this
theorem QA.n {q : PQuery} (h : queryOk q = true) {m : Int} (hm : m ∈ [0,6,q.n + 1]) : QA ⟨m,q.atoms,q.out⟩:=by
 have:=qok_small h
 have hv:=qok_vars h
 have hn:=queryOk_n5 h
 refine ⟨fun hk=>?_,by simp only; omega,by simp only; omega,fun a ha=>by have:=this.2.2 a ha; omega⟩
 have hn2:=queryOk_n5 hk
 have hv2:=(qok_vars hk).2.1
 simp only at hn2 hv2
 simp only [Zz,List.not_mem_nil,or_false] at hm
 have e : m = q.n + 1:=by omega
 subst e
 have h3:=hv2 q.n (by omega) (by omega)
 simp only [varsIn,List.mem_flatMap] at h3
 obtain ⟨a,ha,hva⟩:=h3
 have:=(hv.1 a ha).2 q.n hva
 omega
theorem QA.atom {q : PQuery} (h : queryOk q = true) (hs : smallQ q) {nm : List UInt8} (hl : nm.length <= 10) : QA ⟨q.n,q.atoms ++ [⟨nm,[0]⟩],q.out⟩:=by
 have:=qok_small h
 refine ⟨fun hk=>?_,by simp; omega,by simp only; omega,fun a ha=>?_⟩
 ·rcases hs with hs | rfl
  ·exact .inl hs
  ·have:=(qok_small hk).1
   simp [pathQ] at this
 ·rcases Qq.1 ha with ha | ha
  ·have:=this.2.2 a ha; omega
  ·rw [Qg.1 ha]; exact ⟨hl,by simp⟩
theorem QA.out {q : PQuery} (h : queryOk q = true) (hs : smallQ q) {v : Int} : QA ⟨q.n,q.atoms,q.out ++ [v]⟩:=by
 have:=qok_small h
 refine ⟨fun hk=>?_,by simp only; omega,by simp; omega,fun a ha=>by have:=this.2.2 a ha; omega⟩
 rcases hs with hs | rfl
 ·exact .inl hs
 ·have:=(qok_small hk).2.1
  simp [pathQ] at this
theorem QA.set {n : Int} {a a' : PAtom} {l : List PAtom} {o : List Int} (h : queryOk ⟨n,a :: l,o⟩ = true) (hs : smallQ ⟨n,a :: l,o⟩) (hr : a'.rel = a.rel) (hv : a'.vars.length <= a.vars.length) (hbad : a'.vars = [] \/ (∃ v ∈ a'.vars,v < 0 \/ 5 <= v)) : QA ⟨n,a' :: l,o⟩:=by
 have:=qok_small h
 simp only [Qv] at this
 refine ⟨fun hk=>?_,by simp only [Qv]; omega,by simp only; omega,fun x hx=>?_⟩
 ·have hn:=queryOk_n5 hk
  have h2:=(qok_vars hk).1 a' (by simp)
  simp only at hn h2
  rcases hbad with hb | ⟨v,hm,hb⟩
  ·rw [hb] at h2; simp at h2
  ·have:=h2.2 v hm; omega
 ·rcases Zz.1 hx with hx | hx
  ·have:=this.2.2 a (by simp)
   rw [hx,hr]; omega
  ·have:=this.2.2 x (by simp [hx]); omega
def nbrB (q : PQuery) (v w : Int) : Bool:=!(decide (w = v)) && q.atoms.any fun a=>a.vars.contains v && a.vars.contains w
def nbrL (q : PQuery) (v : Int) : List Int:=if queryOk q then (rangeI q.n.toNat).filter (nbrB q v) else []
def comL (a b : List Int) : List Int:=a.filter fun x=>b.contains x
def ordOk (q : PQuery) (o : List Int) : Bool:=queryOk q && decide ((o.length : Int) = q.n) && setOf o q.n
def dcM (q : PQuery) (o : List Int) : Nat -> Int -> Int -> Bool
 | 0,a,b=>nbrB q a b
 | i + 1,a,b=>dcM q o i a b || (!(decide (a = b)) && (decide (a = o.getD i 0) || (dcM q o i (o.getD i 0) a && !(o.take i).contains a)) && (decide (b = o.getD i 0) || (dcM q o i (o.getD i 0) b && !(o.take i).contains b)))
def dcI (q : PQuery) (o : List Int) (i : Nat) (v : Int) : Bool:=decide (v = o.getD i 0) || (dcM q o i (o.getD i 0) v && !(o.take i).contains v)
def dcBag (q : PQuery) (o : List Int) (i : Nat) : List Int:=(rangeI q.n.toNat).filter (dcI q o i)
def dcLat (q : PQuery) (o : List Int) (i : Nat) : List Int:=(rangeI q.n.toNat).filter fun v=>dcM q o i (o.getD i 0) v && (o.drop (i + 1)).contains v
def fstIn (o l : List Int) : Nat -> Nat -> Option Nat
 | 0,_=>none
 | m + 1,k=>if l.contains (o.getD k 0) then some k else fstIn o l m (k + 1)
def dcUp (q : PQuery) (o : List Int) (i : Nat) : Int:=
 if i + 1 = o.length then -1 else match fstIn o (dcBag q o i) (o.length - (i + 1)) (i + 1) with
 | some k=>k
 | none=>i + 1
def dcP (q : PQuery) (o : List Int) : PDec:=if ordOk q o then ⟨(List.range o.length).map (dcBag q o),(List.range o.length).map (dcUp q o)⟩ else ⟨[],[]⟩
theorem dcM_succ (q : PQuery) (o : List Int) (i : Nat) (a b : Int) : dcM q o (i + 1) a b = (dcM q o i a b || (!(decide (a = b)) && dcI q o i a && dcI q o i b)):=rfl
theorem dcM_irr (q : PQuery) (o : List Int) : ∀ i a,dcM q o i a a = false
 | 0,a=>by simp [dcM,nbrB]
 | i + 1,a=>by rw [dcM_succ,dcM_irr q o i a]; simp
theorem filter_pw {n : Nat} {p : Int -> Bool} : ((rangeI n).filter p).Pairwise (· < ·):=List.Pairwise.filter _ (rangeI_pw n)
structure Od (q : PQuery) (o : List Int) : Prop where
 qok : queryOk q = true
 len : (o.length : Int) = q.n
 nd : o.Nodup
 rng : ∀ v ∈ o,0 <= v /\ v < q.n
 n5 : 1 <= q.n /\ q.n <= 5
theorem od_of {q : PQuery} {o : List Int} (h : ordOk q o = true) : Od q o:=by
 simp only [ordOk,Jq,Xj] at h
 obtain ⟨⟨h1,h2⟩,h3⟩:=h
 have hn : 1 <= q.n /\ q.n <= 5:=by
  simp only [queryOk,inR,Jq,Xj] at h1
  omega
 simp only [setOf,Jq,Jk,Xj] at h3
 refine ⟨h1,h2,h3.2,fun v hv=>?_,hn⟩
 have:=h3.1 v hv
 rw [wrap64_of (by omega) (by omega)] at this
 simp only [inR,Jq,Xj] at this
 omega
theorem Od.all {q : PQuery} {o : List Int} (h : Od q o) {v : Int} (h0 : 0 <= v) (h1 : v < q.n) : v ∈ o:=by
 refine Xv fun hn=>?_
 have:=nodup_len (o.length) (v :: o) (List.nodup_cons.2 ⟨hn,h.nd⟩) fun x hx=>by
  rcases Zz.1 hx with rfl | hx
  ·have:=h.len; omega
  ·have:=h.rng x hx; have:=h.len; omega
 simp at this; omega
theorem Od.at {q : PQuery} {o : List Int} {i : Nat} (hi : i < o.length) : o.getD i 0 = o[i]:=by simp [List.getD_eq_getElem?_getD,Jw hi]
theorem Od.split {q : PQuery} {o : List Int} (h : Od q o) {i : Nat} (hi : i < o.length) {v : Int} (h0 : 0 <= v) (h1 : v < q.n) : v ∈ o.drop (i + 1) ↔ v ∉ o.take i /\ v ≠ o[i]:=by
 have e : o = o.take i ++ o[i] :: o.drop (i + 1):=by rw [<- List.drop_eq_getElem_cons hi,List.take_append_drop]
 have hnd:=h.nd
 rw [e] at hnd
 obtain ⟨n1,n2,n3⟩:=List.nodup_append.1 hnd
 obtain ⟨n4,n5⟩:=List.nodup_cons.1 n2
 have hm:=h.all h0 h1
 rw [e,Qq,Zz] at hm
 constructor
 ·intro hv
  exact ⟨fun ht=>n3 v ht v (List.mem_cons_of_mem _ hv) rfl,fun he=>n4 (he ▸ hv)⟩
 ·rintro ⟨h3,h4⟩
  rcases hm with hm | hm | hm
  ·exact absurd hm h3
  ·exact absurd hm h4
  ·exact hm
theorem lat_mem {q : PQuery} {o : List Int} (h : Od q o) {i : Nat} (hi : i < o.length) (v : Int) : v ∈ dcLat q o i ↔ 0 <= v /\ v < q.n /\ dcM q o i o[i] v = true /\ v ∉ o.take i:=by
 rw [dcLat,List.mem_filter,rangeI_mem,Od.at (q:=q) hi,Jq,Zw]
 constructor
 ·rintro ⟨h0,h1,h2⟩
  exact ⟨h0.1,by omega,h1,((h.split hi h0.1 (by omega)).1 h2).1⟩
 ·rintro ⟨h0,h1,h2,h3⟩
  refine ⟨⟨h0,by omega⟩,h2,(h.split hi h0 h1).2 ⟨h3,fun e=>?_⟩⟩
  rw [e,dcM_irr] at h2; cases h2
theorem bag_mem {q : PQuery} {o : List Int} (h : Od q o) {i : Nat} (hi : i < o.length) (v : Int) : v ∈ dcBag q o i ↔ v = o[i] \/ v ∈ dcLat q o i:=by
 rw [lat_mem h hi,dcBag,List.mem_filter,rangeI_mem,dcI,Od.at (q:=q) hi]
 simp only [Xx,Xj,Jq,Bool.not_eq_true',<- Bool.not_eq_true,Zw]
 have:=h.rng o[i] (Jy hi)
 constructor
 ·rintro ⟨h0,h1 | h1⟩
  ·exact .inl h1
  ·exact .inr ⟨h0.1,by omega,h1.1,h1.2⟩
 ·rintro (h1 | h1)
  ·exact ⟨by omega,.inl h1⟩
  ·exact ⟨by omega,.inr h1.2.2⟩
theorem dcI_iff {q : PQuery} {o : List Int} (h : Od q o) {i : Nat} (hi : i < o.length) {v : Int} (h0 : 0 <= v) (h1 : v < q.n) : dcI q o i v = true ↔ v = o[i] \/ v ∈ dcLat q o i:=by
 rw [<- bag_mem h hi,dcBag,List.mem_filter,rangeI_mem]
 exact ⟨fun e=>⟨by omega,e⟩,fun e=>e.2⟩
theorem atom_in {q : PQuery} (h : queryOk q = true) : ∀ a ∈ q.atoms,∀ w ∈ a.vars,0 <= w /\ w < q.n:=by
 have hn:=queryOk_n5 h
 intro a ha w hw
 simp only [queryOk,Jq,Jk] at h
 have:=h.1.2 a ha
 simp only [atomOk,Jq,Jk] at this
 have:=this.2 w hw
 rw [wrap64_of (by omega) (by omega)] at this
 simp only [inR,Jq,Xj] at this
 omega
def mtx (n : Nat) (f : Int -> Int -> Bool) : List Bool:=(List.range (n * n)).map fun k=>f ((k / n : Nat) : Int) ((k % n : Nat) : Int)
@[simp] theorem mtx_len (n : Nat) (f : Int -> Int -> Bool) : (mtx n f).length = n * n:=by simp [mtx]
theorem mx_ix {n a b : Nat} (hn : n <= 5) (ha : a < n) (hb : b < n) : a * n + b < n * n /\ a * n <= 20:=by
 have h1 : a * n <= (n - 1) * n:=Zk n (by omega)
 have h2 : (n - 1) * n + n = n * n:=by
  have : (n - 1 + 1) * n = n * n:=by rw [show n - 1 + 1 = n by omega]
  rw [<- this,Nat.add_mul]; omega
 have h3 : n * n <= 5 * n:=Zk n hn
 refine ⟨by omega,?_⟩
 have h4 : (n - 1) * n <= 4 * n:=Zk n (by omega)
 omega
theorem mx_sq {n : Nat} (hn : n <= 5) : n * n <= 25:=by
 have h3 : n * n <= 5 * n:=Zk n hn
 omega
theorem mx_div {n a b : Nat} (hb : b < n) : (a * n + b) / n = a /\ (a * n + b) % n = b:=by
 constructor
 ·rw [Nat.add_comm,Nat.add_mul_div_right _ _ (by omega),Nat.div_eq_of_lt hb]; omega
 ·rw [Nat.add_comm,Nat.add_mul_mod_self_right,Nat.mod_eq_of_lt hb]
theorem mtx_get {n a b : Nat} {f : Int -> Int -> Bool} (hb : b < n) (h : a * n + b < (mtx n f).length) : (mtx n f)[a * n + b] = f a b:=by
 simp only [mtx,List.getElem_map,List.getElem_range,(mx_div hb).1,(mx_div hb).2]
theorem mtx_congr {n : Nat} {f g : Int -> Int -> Bool} (h : ∀ a b : Nat,a < n -> b < n -> f a b = g a b) : mtx n f = mtx n g:=by
 refine List.map_congr_left fun k hk=>?_
 rw [Zg] at hk
 have hn : 0 < n:=by
  rcases Nat.eq_zero_or_pos n with h0 | h0
  ·subst h0; simp at hk
  ·exact h0
 exact h _ _ (Nat.div_lt_of_lt_mul hk) (Nat.mod_lt _ hn)
theorem mtx_set {n a b : Nat} {f g : Int -> Int -> Bool} {c : Bool} (hb : b < n) (hc : g a b = c) (h : ∀ x y : Nat,x < n -> y < n -> ¬ (x = a /\ y = b) -> g x y = f x y) :
  (mtx n f).set (a * n + b) c = mtx n g:=by
 refine List.ext_getElem (by simp) fun k h1 h2=>?_
 rw [List.getElem_set]
 simp only [List.length_set,mtx_len] at h1
 by_cases e : a * n + b = k
 ·subst e
  rw [if_pos rfl,mtx_get hb,hc]
 ·rw [if_neg e]
  simp only [mtx,List.getElem_map,List.getElem_range]
  have hn : 0 < n:=by omega
  refine (h _ _ (Nat.div_lt_of_lt_mul h1) (Nat.mod_lt _ hn) fun he=>e ?_).symm
  rw [<- he.1,<- he.2,Nat.mul_comm]; exact Nat.div_add_mod k n
def jnA (q : PQuery) (i : Nat) (x y : Int) : Bool:=decide (x < i) && nbrB q x y
def jnB (q : PQuery) (i : Nat) (l : List Int) (j : Nat) (x y : Int) : Bool:=jnA q i x y || (decide (x = i) && (l.take j).contains y)
theorem jnA_zero (q : PQuery) (n : Nat) : mtx n (jnA q 0) = mtx n fun _ _=>false:=mtx_congr fun a b _ _=>by
 have : ¬ ((a : Int) < (0 : Nat)):=by omega
 simp only [jnA,decide_eq_false this,Zh]
theorem jnB_zero (q : PQuery) (i n : Nat) (l : List Int) : mtx n (jnB q i l 0) = mtx n (jnA q i):=mtx_congr fun a b _ _=>by simp [jnB]
theorem jnA_all (q : PQuery) (o : List Int) (n : Nat) : mtx n (jnA q n) = mtx n (dcM q o 0):=mtx_congr fun a b ha _=>by
 have : (a : Int) < (n : Nat):=by omega
 simp only [jnA,decide_eq_true this,Bool.true_and,dcM]
theorem jnB_step {q : PQuery} {i n j b : Nat} {l : List Int} (hj : j < l.length) (hb : l[j] = (b : Int)) (hbn : b < n) : (mtx n (jnB q i l j)).set (i * n + b) true = mtx n (jnB q i l (j + 1)):=by
 refine mtx_set hbn ?_ fun x y _ _ h=>?_
 ·simp only [jnB,Jz hj,hb]
  simp
 ·simp only [jnB,Jz hj,hb]
  by_cases e : (x : Int) = i
  ·have : ¬ (y : Int) = b:=fun e2=>h ⟨by omega,by omega⟩
   congr 2
   rw [Bool.eq_iff_iff]
   simp [show ¬ y = b by omega]
  ·simp [show ¬ x = i by omega]
theorem jnB_all {q : PQuery} {i n : Nat} (hq : queryOk q = true) (hn : q.n = n) (hi : i < n) : mtx n (jnB q i (nbrL q i) (nbrL q i).length) = mtx n (jnA q (i + 1)):=by
 refine mtx_congr fun x y hx hy=>?_
 rw [jnB,List.take_length,nbrL,if_pos hq,jnA,jnA]
 by_cases e : (x : Int) = i
 ·have hx' : x = i:=by omega
  subst hx'
  rw [decide_eq_false (show ¬ (x : Int) < (x : Nat) by omega),decide_eq_true (show (x : Int) < ((x + 1 : Nat) : Int) by omega)]
  simp only [Zh,Bool.false_or,decide_true,Bool.true_and]
  rw [Bool.eq_iff_iff,Zw,List.mem_filter,rangeI_mem]
  constructor
  ·rintro ⟨_,h⟩; exact h
  ·intro h; exact ⟨by rw [hn]; omega,h⟩
 ·rw [decide_eq_false e,Zh,Bool.or_false]
  congr 2
  apply propext; omega
def ffA (bag : List Int) (f : Int -> Int -> Bool) (a : Nat) (x y : Int) : Bool:=f x y || ((bag.take a).contains x && bag.contains y && !(decide (x = y)))
def ffB (bag : List Int) (f : Int -> Int -> Bool) (a b : Nat) (x y : Int) : Bool:=ffA bag f a x y || (decide (x = bag.getD a 0) && (bag.take b).contains y && !(decide (x = y)))
theorem ffA_zero (bag : List Int) (f : Int -> Int -> Bool) (n : Nat) : mtx n (ffA bag f 0) = mtx n f:=mtx_congr fun a b _ _=>by simp [ffA]
theorem ffB_zero (bag : List Int) (f : Int -> Int -> Bool) (n a : Nat) : mtx n (ffB bag f a 0) = mtx n (ffA bag f a):=mtx_congr fun x y _ _=>by simp [ffB]
theorem ffB_all {bag : List Int} (f : Int -> Int -> Bool) (n : Nat) {a : Nat} (ha : a < bag.length) : mtx n (ffB bag f a bag.length) = mtx n (ffA bag f (a + 1)):=mtx_congr fun x y _ _=>by
 simp only [ffB,ffA,List.take_length,getD_el _ ha,Jz ha]
 rw [Bool.eq_iff_iff]
 simp only [Xx,Jq,Zw,Qq,Qg,Xj]
 constructor
 ·rintro ((h | ⟨⟨h1,h2⟩,h3⟩) | ⟨⟨h1,h2⟩,h3⟩)
  ·exact .inl h
  ·exact .inr ⟨⟨.inl h1,h2⟩,h3⟩
  ·exact .inr ⟨⟨.inr h1,h2⟩,h3⟩
 ·rintro (h | ⟨⟨h1 | h1,h2⟩,h3⟩)
  ·exact .inl (.inl h)
  ·exact .inl (.inr ⟨⟨h1,h2⟩,h3⟩)
  ·exact .inr ⟨⟨h1,h2⟩,h3⟩
theorem nodup_inj {l : List Int} (h : l.Nodup) {i j : Nat} (hi : i < l.length) (hj : j < l.length) (e : l[i] = l[j]) : i = j:=by
 rw [List.Nodup,List.pairwise_iff_getElem] at h
 rcases Nat.lt_trichotomy i j with h1 | h1 | h1
 ·exact absurd e (h i j hi hj h1)
 ·exact h1
 ·exact absurd e.symm (h j i hj hi h1)
theorem ffB_step {bag : List Int} (hnd : bag.Nodup) (f : Int -> Int -> Bool) {n a b u v : Nat} (ha : a < bag.length) (hb : b < bag.length) (hu : bag[a] = (u : Int)) (hv : bag[b] = (v : Int)) (hvn : v < n) {c : Bool}
  (hc : c = (ffB bag f a b u v || !(decide (a = b)))) : (mtx n (ffB bag f a b)).set (u * n + v) c = mtx n (ffB bag f a (b + 1)):=by
 have hab : decide (a = b) = decide ((u : Int) = v):=by
  congr 1; apply propext
  rw [<- hu,<- hv]
  exact ⟨fun e=>by subst e; rfl,fun e=>nodup_inj hnd ha hb e⟩
 refine mtx_set hvn ?_ fun x y _ _ h=>?_
 ·rw [hc,hab]
  simp only [ffB,getD_el _ ha,hu,Jz hb,hv]
  rw [Bool.eq_iff_iff]
  simp only [Xx,Jq,Zw,Qq,Qg,Xj]
  constructor
  ·rintro (h | ⟨⟨h1,_⟩,h3⟩)
   ·exact .inl (.inl h)
   ·exact .inr h3
  ·rintro ((h | ⟨⟨h1,h2⟩,h3⟩) | h)
   ·exact .inl h
   ·exact .inr ⟨⟨by trivial,.inr (by trivial)⟩,h3⟩
   ·exact .inr ⟨⟨by trivial,.inr (by trivial)⟩,h⟩
 ·simp only [ffB,getD_el _ ha,hu,Jz hb,hv]
  rw [Bool.eq_iff_iff]
  simp only [Xx,Jq,Zw,Qq,Qg,Xj]
  constructor
  ·rintro (h1 | ⟨⟨h1,h2 | h2⟩,h3⟩)
   ·exact .inl h1
   ·exact .inr ⟨⟨h1,h2⟩,h3⟩
   ·exact absurd ⟨by omega,by omega⟩ h
  ·rintro (h1 | ⟨⟨h1,h2⟩,h3⟩)
   ·exact .inl h1
   ·exact .inr ⟨⟨h1,.inl h2⟩,h3⟩
theorem ffA_all {q : PQuery} {o : List Int} {n i : Nat} (hn : q.n = n) : mtx n (ffA (dcBag q o i) (dcM q o i) (dcBag q o i).length) = mtx n (dcM q o (i + 1)):=mtx_congr fun x y hx hy=>by
 have hm : ∀ z : Nat,z < n -> (dcBag q o i).contains (z : Int) = dcI q o i z:=fun z hz=>by
  rw [Bool.eq_iff_iff,Zw,dcBag,List.mem_filter,rangeI_mem]
  constructor
  ·exact fun h=>h.2
  ·exact fun h=>⟨by rw [hn]; omega,h⟩
 rw [ffA,List.take_length,dcM_succ,hm x hx,hm y hy]
 cases dcM q o i x y <;> cases dcI q o i x <;> cases dcI q o i y <;> simp
def upV (o bag : List Int) (i : Nat) : Nat:=match fstIn o bag (o.length - (i + 1)) (i + 1) with
 | some k=>k
 | none=>i + 1
theorem dcUp_eq (q : PQuery) (o : List Int) (i : Nat) : dcUp q o i = if i + 1 = o.length then -1 else ((upV o (dcBag q o i) i : Nat) : Int):=by
 rw [dcUp,upV]
 split
 ·rfl
 ·cases fstIn o (dcBag q o i) (o.length - (i + 1)) (i + 1) <;> rfl
structure UpI (o bag : List Int) (i : Nat) (p : Nat × Bool × Nat) : Prop where
 le : i + 1 <= p.2.2 /\ p.2.2 <= o.length
 go : p.2.1 = true -> p.1 = i + 1 /\ fstIn o bag (o.length - (i + 1)) (i + 1) = fstIn o bag (o.length - p.2.2) p.2.2
 fd : p.2.1 = false -> p.1 = upV o bag i
theorem UpI.zero {o bag : List Int} {i : Nat} (h : i < o.length) : UpI o bag i (i + 1,true,i + 1):=⟨⟨Jv _,h⟩,fun _=>⟨rfl,rfl⟩,nofun⟩
theorem fst_at {o bag : List Int} {k : Nat} (h : k < o.length) : fstIn o bag (o.length - k) k = if bag.contains o[k] then some k else fstIn o bag (o.length - (k + 1)) (k + 1):=by
 rw [show o.length - k = (o.length - (k + 1)) + 1 by omega,fstIn,getD_el _ h]
theorem UpI.hit {o bag : List Int} {i u k : Nat} (h : UpI o bag i (u,true,k)) (hk : k < o.length) (hb : bag.contains o[k] = true) : UpI o bag i (k,false,k + 1):=by
 have h1:=h.le
 have h2:=(h.go rfl).2
 simp only at h1 h2
 refine ⟨⟨by simp only; omega,hk⟩,nofun,fun _=>?_⟩
 rw [fst_at hk,if_pos hb] at h2
 rw [upV,h2]
theorem UpI.miss {o bag : List Int} {i u k : Nat} (h : UpI o bag i (u,true,k)) (hk : k < o.length) (hb : bag.contains o[k] = false) : UpI o bag i (u,true,k + 1):=by
 have h1:=h.le
 have h2:=h.go rfl
 simp only at h1 h2
 refine ⟨⟨by simp only; omega,hk⟩,fun _=>⟨h2.1,?_⟩,nofun⟩
 have h3:=h2.2
 rw [fst_at hk,if_neg (by simp only [hb]; simp)] at h3
 exact h3
theorem UpI.done {o bag : List Int} {i u k : Nat} {s : Bool} (h : UpI o bag i (u,s,k)) (hk : ¬ (k < o.length /\ s = true)) : u = upV o bag i:=by
 cases s with
 | false=>exact h.fd rfl
 | true =>
   have h1:=h.le
   have h2:=h.go rfl
   simp only at h1 h2
   have hk' : k = o.length:=by
    by_cases e : k < o.length
    ·exact absurd ⟨e,rfl⟩ hk
    ·omega
   rw [upV,h2.2,hk',Nat.sub_self,fstIn]; exact h2.1
theorem jn_rep (q : PQuery) {n S : Nat} (h : S = n * n) : List.replicate S [D.bool false] = (mtx n (jnA q 0)).map cB:=by
 rw [jnA_zero,h]
 refine List.ext_getElem (by simp) fun k h1 h2=>?_
 simp [mtx,cB]
theorem dcM0 (q : PQuery) (o : List Int) : dcM q o 0 = nbrB q:=rfl
theorem ids_B : ∀ l : List Bool,idsLL (l.map cB) = []
 | []=>rfl
 | b :: l=>by simp [idsLL,idsL,D.ids,cB,ids_B l]
def dotF : Nat -> (Nat -> Xw) -> (Nat -> Xw) -> Xw
 | 0,_,_=>0
 | n + 1,a,x=>dotF n a x + a n * x n
theorem dotF_congr {a a' x x' : Nat -> Xw} : ∀ {n : Nat},(∀ k,k < n -> a k = a' k) -> (∀ k,k < n -> x k = x' k) -> dotF n a x = dotF n a' x'
 | 0,_,_=>rfl
 | n + 1, h, h' => by
   rw [dotF,dotF,dotF_congr (n:=n) (fun k hk=>h k (by omega)) (fun k hk=>h' k (by omega)),h n (by omega),h' n (by omega)]
theorem dotF_add (a x y : Nat -> Xw) : ∀ n : Nat,dotF n a (fun k=>x k + y k) = dotF n a x + dotF n a y
 | 0=>by simp only [dotF]; grind
 | n + 1 => by
   simp only [dotF,dotF_add a x y n]
   grind
theorem dotF_smul (a x : Nat -> Xw) (t : Xw) : ∀ n : Nat,dotF n a (fun k=>t * x k) = t * dotF n a x
 | 0=>by simp [dotF]
 | n + 1 => by
   simp only [dotF,dotF_smul a x t n]
   grind
theorem dotF_comm (a x : Nat -> Xw) : ∀ n : Nat,dotF n a x = dotF n x a
 | 0=>rfl
 | n + 1=>by rw [dotF,dotF,dotF_comm a x n,Rat.mul_comm]
theorem dotF_zero {a x : Nat -> Xw} : ∀ {n : Nat},(∀ k,k < n -> a k * x k = 0) -> dotF n a x = 0
 | 0,_=>rfl
 | n + 1, h => by
   rw [dotF,dotF_zero (n:=n) (fun k hk=>h k (by omega)),h n (by omega)]
   grind
theorem dotF_nonneg {a x : Nat -> Xw} : ∀ {n : Nat},(∀ k,k < n -> 0 <= a k * x k) -> 0 <= dotF n a x
 | 0,_=>by simp [dotF]
 | n + 1, h => by
   have h1:=dotF_nonneg (n:=n) (fun k hk=>h k (by omega))
   have h2:=h n (by omega)
   rw [dotF]
   grind
theorem dotF_one {a x : Nat -> Xw} {j : Nat} : ∀ {n : Nat},j < n -> (∀ k,k < n -> k ≠ j -> a k * x k = 0) -> dotF n a x = a j * x j
 | 0,h,_=>by omega
 | n + 1, h, hz => by
   rw [dotF]
   by_cases e : j = n
   ·subst e
    rw [dotF_zero fun k hk=>hz k (by omega) (by omega)]
    grind
   ·rw [dotF_one (n:=n) (by omega) fun k hk=>hz k (by omega),hz n (by omega) (by omega)]
    grind
theorem dotF_swap (c : Nat -> Xw) (B : Nat -> Nat -> Xw) (y : Nat -> Xw) (n : Nat) : ∀ m : Nat,dotF m c (fun i=>dotF n (B i) y) = dotF n (fun k=>dotF m c (fun i=>B i k)) y
 | 0 => by rw [dotF_zero (n := n)]; · rfl
           intro k _; simp [dotF]
 | m + 1 => by
   rw [dotF,dotF_swap c B y n m]
   simp only [dotF]
   rw [dotF_comm (fun k=>dotF m c (fun i=>B i k) + c m * B m k),dotF_add,dotF_smul,dotF_comm y,dotF_comm y]
theorem homog : ∀ (n : Nat) (A : List (Nat -> Xw)),A.length < n -> ∃ y : Nat -> Xw,(∃ k,k < n /\ y k ≠ 0) /\ ∀ a ∈ A,dotF n a y = 0
 | 0,_,h=>by omega
 | n + 1, A, h => by
   by_cases hA : ∀ a ∈ A,a n = 0
   ·refine ⟨fun k=>if k = n then 1 else 0,⟨n,by omega,by simp⟩,fun a ha=>?_⟩
    refine dotF_zero fun k hk=>?_
    by_cases e : k = n
    ·rw [e,hA a ha]; grind
    ·simp only [if_neg e]; grind
   ·have : ∃ a0,a0 ∈ A /\ a0 n ≠ 0:=by
     refine Xv fun hn=>hA fun a ha=>Xv fun h'=>hn ⟨a,ha,h'⟩
    obtain ⟨a0,h0,hne⟩:=this
    obtain ⟨s,t,rfl⟩:=List.append_of_mem h0
    obtain ⟨y,⟨k,hk,hy⟩,hz⟩:=homog n ((s ++ t).map fun a k=>a k - a n / a0 n * a0 k) (by simp at h ⊢; omega)
    have hd : ∀ a : Nat -> Xw,dotF (n + 1) a (fun k=>if k = n then - dotF n a0 y / a0 n else y k) = dotF n a y + a n * (- dotF n a0 y / a0 n):=fun a=>by
     rw [dotF]
     simp only [if_true]
     rw [dotF_congr (a:=a) (a':=a) (x':=y) (fun _ _=>rfl) (fun k hk=>if_neg (by omega))]
    refine ⟨fun k=>if k = n then - dotF n a0 y / a0 n else y k,⟨k,by omega,by simp only [if_neg (show ¬ k = n by omega)]; exact hy⟩,fun a ha=>?_⟩
    rw [hd]
    have hsub : ∀ a ∈ s ++ t,dotF n a y = a n / a0 n * dotF n a0 y:=fun a ha=>by
     have h1:=hz _ (List.mem_map_of_mem ha)
     have h2 : dotF n (fun k=>a k - a n / a0 n * a0 k) y = dotF n a y - a n / a0 n * dotF n a0 y:=by
      rw [dotF_comm,dotF_comm a,dotF_comm a0,show (fun k=>a k - a n / a0 n * a0 k) = fun k=>a k + (-(a n / a0 n)) * a0 k from funext fun k=>by grind,dotF_add,dotF_smul]
      grind
     rw [h2] at h1
     grind
    rcases Qq.1 ha with ha | ha
    ·rw [hsub a (List.mem_append_left _ ha)]; grind
    ·rcases Zz.1 ha with rfl | ha
     ·grind
     ·rw [hsub a (List.mem_append_right _ ha)]; grind
theorem gd {α : Type} {l : List α} {i : Nat} {d : α} (h : i < l.length) : l.getD i d = l[i]:=by simp [List.getD,h]
def Ker (n : Nat) (A : List (Nat -> Xw)) : Prop:=∀ y : Nat -> Xw,(∀ a ∈ A,dotF n a y = 0) -> ∀ k,k < n -> y k = 0
theorem ker_sub {n : Nat} : ∀ (m : Nat) (A : List (Nat -> Xw)),A.length <= m -> Ker n A -> ∃ B : List (Nat -> Xw),B.Sublist A /\ B.length = n /\ Ker n B
 | m, A, hm, hA => by
   by_cases h1 : A.length < n
   ·obtain ⟨y,⟨k,hk,hy⟩,hz⟩:=homog n A h1
    exact absurd (hA y hz k hk) hy
   by_cases h2 : A.length = n
   ·exact ⟨A,.refl _,h2,hA⟩
   cases m with
   | zero=>omega
   | succ m =>
     obtain ⟨c,⟨j,hj,hc⟩,hz⟩:=homog A.length ((List.range n).map fun k i=>A.getD i (fun _=>0) k) (by simp; omega)
     have hz' : ∀ k,k < n -> dotF A.length c (fun i=>A.getD i (fun _=>0) k) = 0:=fun k hk=>by
      rw [dotF_comm]
      exact hz _ (Xz.2 ⟨k,Zg.2 hk,rfl⟩)
     have hK : Ker n (A.eraseIdx j):=fun y hy=>hA y fun a ha=>by
      obtain ⟨i,hi,rfl⟩:=List.mem_iff_getElem.1 ha
      by_cases e : i = j
      ·subst e
       have h3 : dotF A.length c (fun i=>dotF n (A.getD i (fun _=>0)) y) = 0:=by
        rw [dotF_swap]
        exact dotF_zero fun k hk=>by rw [hz' k hk]; grind
       have h4 : dotF A.length c (fun i=>dotF n (A.getD i (fun _=>0)) y) = c i * dotF n (A.getD i (fun _=>0)) y:=by
        refine dotF_one hi fun k hk hki=>?_
        have h5 : A.getD k (fun _=>0) ∈ A.eraseIdx i:=by
         rw [gd hk,List.mem_eraseIdx_iff_getElem]
         exact ⟨k,hk,hki,rfl⟩
        rw [hy _ h5]; grind
       rw [h4,gd hi] at h3
       grind
      ·exact hy _ (List.mem_eraseIdx_iff_getElem.2 ⟨i,hi,e,rfl⟩)
     obtain ⟨B,hB,hl,hk⟩:=ker_sub m (A.eraseIdx j) (by rw [List.length_eraseIdx]; split <;> omega) hK
     exact ⟨B,hB.trans (List.eraseIdx_sublist _ _),hl,hk⟩
theorem filter_lt {α : Type} {q r : α -> Bool} : ∀ {l : List α},(∀ p ∈ l,q p = true -> r p = true) -> (∃ p,p ∈ l /\ r p = true /\ q p = false) -> (l.filter q).length < (l.filter r).length
 | [],_,⟨_,h,_⟩=>by simp at h
 | a :: l, h, ⟨p, hp, h1, h2⟩ => by
   have hle : ∀ l : List α,(∀ p ∈ l,q p = true -> r p = true) -> (l.filter q).length <= (l.filter r).length:=fun l hl=>by
    rw [<- List.countP_eq_length_filter,<- List.countP_eq_length_filter]
    exact List.countP_mono_left hl
   have hl:=hle l fun p hp=>h p (by simp [hp])
   have ha:=h a (by simp)
   rcases Zz.1 hp with rfl | hp
   ·simp only [List.filter_cons,h1,h2,if_true,Zv,if_false,Qv]; omega
   ·have ih:=filter_lt (l:=l) (fun p hp=>h p (by simp [hp])) ⟨p,hp,h1,h2⟩
    simp only [List.filter_cons]
    by_cases e : q a = true
    ·rw [if_pos e,if_pos (ha e)]; simp; exact ih
    ·rw [if_neg e]
     split
     ·simp; omega
     ·exact ih
theorem min_ex {α : Type} (f : α -> Xw) : ∀ {l : List α},l ≠ [] -> ∃ p,p ∈ l /\ ∀ p' ∈ l,f p <= f p'
 | [],h=>absurd rfl h
 | [a],_=>⟨a,by simp,fun p' hp=>by rw [Qg.1 hp]; exact Rat.le_refl⟩
 | a :: b :: l, _ => by
   obtain ⟨p,hp,hm⟩:=min_ex f (l:=b :: l) (by simp)
   by_cases e : f a <= f p
   ·refine ⟨a,by simp,fun p' hp'=>?_⟩
    rcases Zz.1 hp' with rfl | hp'
    ·exact Rat.le_refl
    ·have:=hm p' hp'; grind
   ·refine ⟨p,by simp only [Zz] at hp ⊢; exact .inr hp,fun p' hp'=>?_⟩
    rcases Zz.1 hp' with rfl | hp'
    ·grind
    ·exact hm p' hp'
abbrev Cst:=(Nat -> Xw) × Xw
def feasF (n : Nat) (C : List Cst) (x : Nat -> Xw) : Prop:=∀ p ∈ C,p.2 <= dotF n p.1 x
def tgt (n : Nat) (x : Nat -> Xw) (p : Cst) : Bool:=decide (dotF n p.1 x = p.2)
theorem dir_ex {n : Nat} {C : List Cst} {c x : Nat -> Xw} (hc : ∀ k,k < n -> 0 <= c k) (h : ¬ Ker n ((C.filter (tgt n x)).map Prod.fst)) :
  ∃ y : Nat -> Xw,(∀ p ∈ C,tgt n x p = true -> dotF n p.1 y = 0) /\ dotF n c y <= 0 /\ ∃ k,k < n /\ y k < 0:=by
 have : ∃ y : Nat -> Xw,(∀ a ∈ (C.filter (tgt n x)).map Prod.fst,dotF n a y = 0) /\ ∃ k,k < n /\ y k ≠ 0:=
  Xv fun hn=>h fun y hy k hk=>Xv fun h'=>hn ⟨y,hy,k,hk,h'⟩
 obtain ⟨y,hy,k,hk,hne⟩:=this
 have hy' : ∀ p ∈ C,tgt n x p = true -> dotF n p.1 y = 0:=fun p hp ht=>hy _ (List.mem_map_of_mem (List.mem_filter.2 ⟨hp,ht⟩))
 have hm : ∀ a : Nat -> Xw,dotF n a (fun k=>-1 * y k) = - dotF n a y:=fun a=>by rw [dotF_smul]; grind
 have hneg : ∀ y : Nat -> Xw,dotF n c y < 0 -> ∃ k,k < n /\ y k < 0:=fun y h0=>
  Xv fun hn=>by
   have : 0 <= dotF n c y:=dotF_nonneg fun k hk=>Rat.mul_nonneg (hc k hk) (by
    by_cases e : y k < 0
    ·exact absurd ⟨k,hk,e⟩ hn
    ·grind)
   grind
 by_cases h1 : dotF n c y < 0
 ·exact ⟨y,hy',by grind,hneg y h1⟩
 by_cases h2 : 0 < dotF n c y
 ·refine ⟨fun k=>-1 * y k,fun p hp ht=>by rw [hm,hy' p hp ht]; grind,by rw [hm]; grind,hneg _ (by rw [hm]; grind)⟩
 by_cases h3 : y k < 0
 ·exact ⟨y,hy',by grind,k,hk,h3⟩
 ·exact ⟨fun k=>-1 * y k,fun p hp ht=>by rw [hm,hy' p hp ht]; grind,by rw [hm]; grind,k,hk,by grind⟩
theorem vert_ex {n : Nat} {C : List Cst} {c : Nat -> Xw} (hc : ∀ k,k < n -> 0 <= c k) (hu : ∀ k,k < n -> ∃ p ∈ C,p.2 = 0 /\ ∀ x,dotF n p.1 x = x k) :
  ∀ (m : Nat) (x : Nat -> Xw),feasF n C x -> (C.filter fun p=>!tgt n x p).length <= m -> ∃ v,feasF n C v /\ dotF n c v <= dotF n c x /\ Ker n ((C.filter (tgt n v)).map Prod.fst)
 | m, x, hx, hm => by
   by_cases hK : Ker n ((C.filter (tgt n x)).map Prod.fst)
   ·exact ⟨x,hx,Rat.le_refl,hK⟩
   obtain ⟨y,hy,hcy,k,hk,hyk⟩:=dir_ex hc hK
   obtain ⟨pk,hpk,_,hek⟩:=hu k hk
   have hne : (C.filter fun p=>decide (dotF n p.1 y < 0)) ≠ []:=fun e=>by
    have : pk ∈ (C.filter fun p=>decide (dotF n p.1 y < 0)):=List.mem_filter.2 ⟨hpk,by rw [hek]; simpa using hyk⟩
    rw [e] at this; simp at this
   obtain ⟨p0,hp0,hmin⟩:=min_ex (fun p : Cst=>(dotF n p.1 x - p.2) / (- dotF n p.1 y)) hne
   obtain ⟨hp0C,hp0n⟩:=List.mem_filter.1 hp0
   have hp0n : dotF n p0.1 y < 0:=by simpa using hp0n
   obtain ⟨t,ht⟩ : ∃ t,t = (dotF n p0.1 x - p0.2) / (- dotF n p0.1 y):=⟨_,rfl⟩
   simp only [<- ht] at hmin
   have hd : ∀ a : Nat -> Xw,dotF n a (fun k=>x k + t * y k) = dotF n a x + t * dotF n a y:=fun a=>by rw [dotF_add,dotF_smul]
   have hdiv : ∀ a b : Xw,0 < b -> 0 <= a -> 0 <= a / b:=fun a b hb ha=>by
    rw [Rat.div_def]; exact Rat.mul_nonneg ha (Rat.le_of_lt (Rat.inv_pos.2 hb))
   have ht0 : 0 <= t:=by
    rw [ht]
    exact hdiv _ _ (by grind) (by have:=hx p0 hp0C; grind)
   have htp : t * (- dotF n p0.1 y) = dotF n p0.1 x - p0.2:=by
    rw [ht]
    have : (- dotF n p0.1 y) ≠ 0:=by grind
    grind
   have hx' : feasF n C (fun k=>x k + t * y k):=fun p hp=>by
    rw [hd]
    have h1:=hx p hp
    by_cases e : dotF n p.1 y < 0
    ·have h2:=hmin p (List.mem_filter.2 ⟨hp,by simpa using e⟩)
     have h3:=Rat.mul_le_mul_of_nonneg_right h2 (c:=- dotF n p.1 y) (by grind)
     have h4 : (dotF n p.1 x - p.2) / (- dotF n p.1 y) * (- dotF n p.1 y) = dotF n p.1 x - p.2:=by
      have : (- dotF n p.1 y) ≠ 0:=by grind
      grind
     rw [h4] at h3
     grind
    ·have:=Rat.mul_nonneg ht0 (show 0 <= dotF n p.1 y by grind)
     grind
   have hlt : (C.filter fun p=>!tgt n (fun k=>x k + t * y k) p).length < (C.filter fun p=>!tgt n x p).length:=by
    refine filter_lt (fun p hp hq=>?_) ⟨p0,hp0C,?_,?_⟩
    ·cases e : tgt n x p with
     | false=>rfl
     | true =>
       have h1:=hy p hp e
       simp only [tgt,hd,h1,Bool.not_eq_true',decide_eq_false_iff_not,Xj] at hq e
       grind
    ·cases e : tgt n x p0 with
     | false=>rfl
     | true=>have:=hy p0 hp0C e; grind
    ·simp only [tgt,hd,Bool.not_eq_false',Xj]
     grind
   cases m with
   | zero=>omega
   | succ m =>
     obtain ⟨v,h1,h2,h3⟩:=vert_ex hc hu m _ hx' (by omega)
     refine ⟨v,h1,?_,h3⟩
     rw [hd] at h2
     have h4:=Rat.mul_nonneg ht0 (show 0 <= - dotF n c y by grind)
     grind
def fnL (r : List Xw) : Nat -> Xw:=fun k=>r.getD k 0
def rowQ (m : List (List Xw)) (i : Nat) : Nat -> Xw:=fnL (m.getD i [])
def elimR (p : Nat) (piv row : List Xw) : List Xw:=row.mapIdx fun k x=>if k < p then x else x - fnL row p / fnL piv p * fnL piv k
def pivAt (m : List (List Xw)) (p : Nat) : Nat:=p + (m.drop p).findIdx fun r=>decide (fnL r p ≠ 0)
def swapM (m : List (List Xw)) (p k : Nat) : List (List Xw):=(m.set p (m.getD k [])).set k (m.getD p [])
def stepM (p : Nat) (m : List (List Xw)) : List (List Xw):=m.mapIdx fun i r=>if i = p then r else elimR p (m.getD p []) r
def gjStep (p : Nat) (m : List (List Xw)) : Option (List (List Xw)):=if pivAt m p < m.length then some (stepM p (swapM m p (pivAt m p))) else none
def gj (m0 : List (List Xw)) : Nat -> Option (List (List Xw))
 | 0=>some m0
 | p + 1=>(gj m0 p).bind (gjStep p)
def outM (n : Nat) (m : List (List Xw)) : List Xw:=(List.range n).map fun p=>rowQ m p n / rowQ m p p
def solQ (n : Nat) (m0 : List (List Xw)) : Option (List Xw):=(gj m0 n).map (outM n)
structure GJ (n p : Nat) (m0 m : List (List Xw)) : Prop where
 len : m.length = n
 row : ∀ r ∈ m,r.length = n + 1
 dia : ∀ i j,i < n -> j < p -> i ≠ j -> rowQ m i j = 0
 piv : ∀ i,i < p -> rowQ m i i ≠ 0
 sol : ∀ y,(∀ r ∈ m,dotF (n + 1) (fnL r) y = 0) ↔ (∀ r ∈ m0,dotF (n + 1) (fnL r) y = 0)
def bbQ : Nat -> Nat
 | 0=>1
 | p + 1=>2 * (bbQ p * bbQ p)
def cbQ : Nat -> Nat
 | 0=>1
 | p + 1=>cbQ p * bbQ p
theorem bbQ_pos : ∀ p,1 <= bbQ p
 | 0=>Jv _
 | p + 1 => by
   have:=bbQ_pos p
   have:=Nat.mul_le_mul this this
   simp only [bbQ]; omega
theorem bbQ_mono (p : Nat) : bbQ p <= bbQ (p + 1):=by
 have:=bbQ_pos p
 have:=Nat.mul_le_mul_left (bbQ p) this
 simp only [bbQ]; omega
theorem cbQ_mono (p : Nat) : cbQ p <= cbQ (p + 1):=by
 have:=bbQ_pos p
 have:=Nat.mul_le_mul_left (cbQ p) this
 simp only [cbQ]; omega
structure RowB (n : Nat) (c b : Nat) (r : Nat -> Xw) (s : Int) (M : Nat -> Int) : Prop where
 ne : s ≠ 0
 sc : s.natAbs <= c
 eq : ∀ k,k <= n -> r k * (s : Xw) = (M k : Xw)
 bd : ∀ k,k <= n -> (M k).natAbs <= b
def Bd (n p : Nat) (m : List (List Xw)) : Prop:=
 ∃ D : Int,D ≠ 0 /\ D.natAbs <= cbQ p /\ ∀ i,i < n -> ∃ (s : Int) (M : Nat -> Int),RowB n (cbQ p) (bbQ p) (rowQ m i) s M /\ (i < p -> ∃ e : Int,D = M i * e)
theorem el_num {x a d q s sp X A P Y : Xw} (hd : d ≠ 0) (h1 : x * s = X) (h2 : a * s = A) (h3 : d * sp = P) (h4 : q * sp = Y) : (x - a / d * q) * (s * P) = P * X - A * Y:=by grind
theorem el_f {a d s sp A P : Xw} (hd : d ≠ 0) (h2 : a * s = A) (h3 : d * sp = P) : a / d * (s * P) = A * sp:=by grind
theorem el_q {a d q s sp A P Y : Xw} (hd : d ≠ 0) (h2 : a * s = A) (h3 : d * sp = P) (h4 : q * sp = Y) : a / d * q * (s * P) = A * Y:=by grind
theorem getD_mem' {α : Type} {l : List α} {i : Nat} {d : α} (h : i < l.length) : l.getD i d ∈ l:=by rw [gd h]; exact Jy h
theorem getD_set' {α : Type} {l : List α} {i j : Nat} {a d : α} (h : i < l.length) : (l.set i a).getD j d = if i = j then a else l.getD j d:=by
 simp only [List.getD,List.getElem?_set]
 split
 ·rfl
 ·rfl
theorem swap_get {m : List (List Xw)} {p k : Nat} (hp : p < m.length) (hk : k < m.length) (i : Nat) : (swapM m p k).getD i [] = m.getD (if i = k then p else if i = p then k else i) []:=by
 rw [swapM,getD_set' (by simpa using hk)]
 by_cases e : k = i
 ·subst e; simp
 ·rw [if_neg e,getD_set' hp]
  have e' : ¬ i = k:=fun h=>e h.symm
  by_cases e2 : p = i
  ·subst e2; simp [e']
  ·have e2' : ¬ i = p:=fun h=>e2 h.symm
   simp [e2,e',e2']
theorem swap_mem {m : List (List Xw)} {p k : Nat} (hp : p < m.length) (hk : k < m.length) (r : List Xw) : r ∈ swapM m p k ↔ r ∈ m:=by
 have hl : (swapM m p k).length = m.length:=by simp [swapM]
 constructor
 ·intro h
  obtain ⟨i,hi,rfl⟩:=List.mem_iff_getElem.1 h
  rw [<- gd hi (d:=[]),swap_get hp hk]
  exact getD_mem' (by split; · exact hp
                      split; · exact hk
                      omega)
 ·intro h
  obtain ⟨i,hi,rfl⟩:=List.mem_iff_getElem.1 h
  have e : m[i] = (swapM m p k).getD (if i = k then p else if i = p then k else i) []:=by
   rw [swap_get hp hk,<- gd hi (d:=[])]
   congr 1
   by_cases h1 : i = k
   ·subst h1
    simp only [if_true]
    split <;> simp_all
   ·by_cases h2 : i = p
    ·subst h2; simp [h1]
    ·simp [h1,h2]
  rw [e]
  exact getD_mem' (by rw [hl]; split; · exact hp
                      split; · exact hk
                      exact hi)
theorem step_get {m : List (List Xw)} {p i : Nat} (hi : i < m.length) : (stepM p m).getD i [] = if i = p then m.getD p [] else elimR p (m.getD p []) (m.getD i []):=by
 rw [stepM,gd (by simpa using hi),List.getElem_mapIdx]
 split
 ·rename_i h; subst h; exact (gd hi).symm
 ·rw [gd hi]
theorem elim_fn {p n : Nat} {piv row : List Xw} (hr : row.length = n + 1) (hz : ∀ j,j < p -> fnL piv j = 0) {k : Nat} (hk : k <= n) : fnL (elimR p piv row) k = fnL row k - fnL row p / fnL piv p * fnL piv k:=by
 rw [fnL,elimR,gd (by simp; omega),List.getElem_mapIdx]
 have : fnL row k = row[k]'(by omega):=by rw [fnL,gd (by omega)]
 rw [this]
 split
 ·rename_i h; rw [hz k h]; grind
 ·rfl
theorem elim_len {p : Nat} {piv row : List Xw} : (elimR p piv row).length = row.length:=by simp [elimR]
theorem piv_lt {m : List (List Xw)} {p : Nat} (h : pivAt m p < m.length) : p <= pivAt m p /\ rowQ m (pivAt m p) p ≠ 0:=by
 have h1 : (m.drop p).findIdx (fun r=>decide (fnL r p ≠ 0)) < (m.drop p).length:=by
  rw [List.length_drop]; unfold pivAt at h; omega
 have h2:=List.findIdx_getElem (w:=h1)
 refine ⟨by unfold pivAt; omega,?_⟩
 simp only [List.getElem_drop,Xj] at h2
 rw [rowQ,gd h]
 exact h2
theorem piv_none {m : List (List Xw)} {p : Nat} (h : ¬ pivAt m p < m.length) : ∀ k,p <= k -> k < m.length -> rowQ m k p = 0:=fun k h1 h2=>by
 have h3 : ¬ (m.drop p).findIdx (fun r=>decide (fnL r p ≠ 0)) < (m.drop p).length:=by
  rw [List.length_drop]; unfold pivAt at h; omega
 rw [List.findIdx_lt_length] at h3
 refine Xv fun hn=>h3 ⟨m[k],?_,?_⟩
 ·rw [List.mem_iff_getElem]
  exact ⟨k - p,by rw [List.length_drop]; omega,by simp only [List.getElem_drop]; congr 1; omega⟩
 ·rw [rowQ,gd h2] at hn
  simpa using hn
theorem GJ.swap {n p k : Nat} {m0 m : List (List Xw)} (h : GJ n p m0 m) (hp : p <= k) (hk : k < n) : GJ n p m0 (swapM m p k):=by
 have hl:=h.len
 have hg:=swap_get (m:=m) (p:=p) (k:=k) (by omega) (by omega)
 have hm:=swap_mem (m:=m) (p:=p) (k:=k) (by omega) (by omega)
 refine ⟨by simp [swapM,hl],fun r hr=>h.row r ((hm r).1 hr),fun i j hi hj hij=>?_,fun i hi=>?_,fun y=>?_⟩
 ·rw [rowQ,hg]
  split
  ·exact h.dia p j (by omega) hj (by omega)
  ·split
   ·exact h.dia k j hk hj (by omega)
   ·exact h.dia i j hi hj hij
 ·rw [rowQ,hg,if_neg (by omega),if_neg (by omega)]
  exact h.piv i hi
 ·rw [<- h.sol y]
  exact ⟨fun hy r hr=>hy r ((hm r).2 hr),fun hy r hr=>hy r ((hm r).1 hr)⟩
theorem Bd.swap {n p k : Nat} {m0 m : List (List Xw)} (h : GJ n p m0 m) (hp : p <= k) (hk : k < n) (hb : Bd n p m) : Bd n p (swapM m p k):=by
 have hl:=h.len
 have hg:=swap_get (m:=m) (p:=p) (k:=k) (by omega) (by omega)
 obtain ⟨D,h1,h2,h3⟩:=hb
 refine ⟨D,h1,h2,fun i hi=>?_⟩
 obtain ⟨s, M, hs, hD⟩ := h3 (if i = k then p else if i = p then k else i) (by split; · omega
                                                                               split; · omega
                                                                               exact hi)
 refine ⟨s,M,?_,fun hip=>?_⟩
 ·have : rowQ (swapM m p k) i = rowQ m (if i = k then p else if i = p then k else i):=by rw [rowQ,hg]; rfl
  rw [this]; exact hs
 ·rw [if_neg (by omega),if_neg (by omega)] at hD
  exact hD hip
theorem GJ.step {n p : Nat} {m0 m : List (List Xw)} (h : GJ n p m0 m) (hp : p < n) (hne : rowQ m p p ≠ 0) : GJ n (p + 1) m0 (stepM p m):=by
 have hl:=h.len
 have hz : ∀ j,j < p -> fnL (m.getD p []) j = 0:=fun j hj=>h.dia p j hp hj (by omega)
 have hr : ∀ i,i < n -> (m.getD i []).length = n + 1:=fun i hi=>h.row _ (getD_mem' (by omega))
 have hrow : ∀ i,i < n -> i ≠ p -> ∀ k,k <= n -> rowQ (stepM p m) i k = rowQ m i k - rowQ m i p / rowQ m p p * rowQ m p k:=fun i hi hip k hk=>by
  rw [rowQ,step_get (by omega),if_neg hip]
  exact elim_fn (hr i hi) hz hk
 have hrp : rowQ (stepM p m) p = rowQ m p:=by rw [rowQ,step_get (by omega),if_pos rfl]; rfl
 have hdot : ∀ i,i < n -> i ≠ p -> ∀ y,dotF (n + 1) (rowQ (stepM p m) i) y = dotF (n + 1) (rowQ m i) y - rowQ m i p / rowQ m p p * dotF (n + 1) (rowQ m p) y:=fun i hi hip y=>by
  rw [dotF_comm,dotF_comm (rowQ m i),dotF_comm (rowQ m p),dotF_congr (a:=y) (a':=y) (x':=fun k=>rowQ m i k + (-(rowQ m i p / rowQ m p p)) * rowQ m p k) (fun _ _=>rfl) (fun k hk=>by rw [hrow i hi hip k (by omega)]; grind),dotF_add,dotF_smul]
  grind
 have hsl : (stepM p m).length = n:=by simp [stepM,hl]
 refine ⟨hsl,fun r hr'=>?_,fun i j hi hj hij=>?_,fun i hi=>?_,fun y=>?_⟩
 ·obtain ⟨i,hi,rfl⟩:=List.mem_iff_getElem.1 hr'
  rw [<- gd hi (d:=[]),step_get (by omega)]
  split
  ·exact hr p hp
  ·rw [elim_len]; exact hr i (by omega)
 ·by_cases e : i = p
  ·subst e; rw [hrp]; exact h.dia i j hi (by omega) hij
  ·rw [hrow i hi e j (by omega)]
   by_cases e2 : j = p
   ·subst e2; grind
   ·have:=h.dia i j hi (by omega) hij
    have:=h.dia p j hp (by omega) (by omega)
    grind
 ·by_cases e : i = p
  ·subst e; rw [hrp]; exact hne
  ·rw [hrow i (by omega) e i (by omega)]
   have:=h.piv i (by omega)
   have:=h.dia p i hp (by omega) (by omega)
   grind
 ·rw [<- h.sol y]
  have hm : ∀ i,i < n -> rowQ m i = fnL (m.getD i []):=fun _ _=>rfl
  constructor
  ·intro hy r hr'
   obtain ⟨i,hi,rfl⟩:=List.mem_iff_getElem.1 hr'
   rw [<- gd hi (d:=[])]
   have hpz : dotF (n + 1) (rowQ m p) y = 0:=by
    rw [<- hrp]; exact hy _ (getD_mem' (by omega))
   by_cases e : i = p
   ·subst e; exact hpz
   ·have h1:=hy _ (getD_mem' (l:=stepM p m) (i:=i) (d:=[]) (by omega))
    have h2:=hdot i (by omega) e y
    rw [hpz] at h2
    show dotF (n + 1) (rowQ m i) y = 0
    have h3 : dotF (n + 1) (rowQ (stepM p m) i) y = 0:=h1
    grind
  ·intro hy r hr'
   obtain ⟨i,hi,rfl⟩:=List.mem_iff_getElem.1 hr'
   rw [<- gd hi (d:=[])]
   show dotF (n + 1) (rowQ (stepM p m) i) y = 0
   have hpz : dotF (n + 1) (rowQ m p) y = 0:=hy _ (getD_mem' (by omega))
   by_cases e : i = p
   ·subst e; rw [hrp]; exact hpz
   ·rw [hdot i (by omega) e y,hpz]
    have : dotF (n + 1) (rowQ m i) y = 0:=hy _ (getD_mem' (by omega))
    grind
theorem natAbs_mul_le {a b : Int} {x y : Nat} (h1 : a.natAbs <= x) (h2 : b.natAbs <= y) : (a * b).natAbs <= x * y:=by rw [Int.natAbs_mul]; exact Nat.mul_le_mul h1 h2
theorem natAbs_sub_le' (a b : Int) : (a - b).natAbs <= a.natAbs + b.natAbs:=by omega
theorem Bd.step {n p : Nat} {m0 m : List (List Xw)} (h : GJ n p m0 m) (hp : p < n) (hne : rowQ m p p ≠ 0) (hb : Bd n p m) : Bd n (p + 1) (stepM p m):=by
 have hl:=h.len
 have hz : ∀ j,j < p -> fnL (m.getD p []) j = 0:=fun j hj=>h.dia p j hp hj (by omega)
 have hr : ∀ i,i < n -> (m.getD i []).length = n + 1:=fun i hi=>h.row _ (getD_mem' (by omega))
 have hrow : ∀ i,i < n -> i ≠ p -> ∀ k,k <= n -> rowQ (stepM p m) i k = rowQ m i k - rowQ m i p / rowQ m p p * rowQ m p k:=fun i hi hip k hk=>by
  rw [rowQ,step_get (by omega),if_neg hip]
  exact elim_fn (hr i hi) hz hk
 have hrp : rowQ (stepM p m) p = rowQ m p:=by rw [rowQ,step_get (by omega),if_pos rfl]; rfl
 obtain ⟨D,h1,h2,h3⟩:=hb
 obtain ⟨sp,P,rp,_⟩:=h3 p hp
 have hP : P p ≠ 0:=fun e=>by
  have:=rp.eq p (by omega)
  rw [e] at this
  have hs : (sp : Xw) ≠ 0:=fun e=>rp.ne (Rat.intCast_inj.1 (by simpa using e))
  have : rowQ m p p * (sp : Xw) = 0:=by simpa using this
  grind
 refine ⟨D * P p,Int.mul_ne_zero h1 hP,natAbs_mul_le h2 (rp.bd p (by omega)),fun i hi=>?_⟩
 by_cases e : i = p
 ·subst e
  refine ⟨sp,P,⟨rp.ne,Zy rp.sc (cbQ_mono _),fun k hk=>by rw [hrp]; exact rp.eq k hk,fun k hk=>Zy (rp.bd k hk) (bbQ_mono _)⟩,fun _=>⟨D,Int.mul_comm _ _⟩⟩
 ·obtain ⟨s,M,ri,hD⟩:=h3 i hi
  refine ⟨s * P p,fun k=>P p * M k - M p * P k,⟨Int.mul_ne_zero ri.ne hP,natAbs_mul_le ri.sc (rp.bd p (by omega)),fun k hk=>?_,fun k hk=>?_⟩,fun hip=>?_⟩
  ·rw [hrow i hi e k hk]
   have:=el_num hne (ri.eq k hk) (ri.eq p (by omega)) (rp.eq p (by omega)) (rp.eq k hk)
   rw [Rat.intCast_mul,Rat.intCast_sub,Rat.intCast_mul,Rat.intCast_mul]
   exact this
  ·have a1:=natAbs_mul_le (rp.bd p (by omega)) (ri.bd k hk)
   have a2:=natAbs_mul_le (ri.bd p (by omega)) (rp.bd k hk)
   have a3:=natAbs_sub_le' (P p * M k) (M p * P k)
   simp only [bbQ]; omega
  ·obtain ⟨x,hx⟩:=hD (by omega)
   have : P i = 0:=by
    have h4:=rp.eq i (by omega)
    have h5 : rowQ m p i = 0:=hz i (by omega)
    rw [h5] at h4
    have : ((P i : Int) : Xw) = ((0 : Int) : Xw):=by rw [<- h4]; simp
    exact Rat.intCast_inj.1 this
   refine ⟨x,?_⟩
   simp only [this,hx,Int.mul_zero,Int.sub_zero]
   rw [Int.mul_comm (P p),Int.mul_assoc,Int.mul_assoc,Int.mul_comm x]
theorem dotF_two {a x : Nat -> Xw} {i j : Nat} : ∀ {n : Nat},i < n -> j < n -> i ≠ j -> (∀ k,k < n -> k ≠ i -> k ≠ j -> a k * x k = 0) -> dotF n a x = a i * x i + a j * x j
 | 0,h,_,_,_=>by omega
 | n + 1, hi, hj, hij, hz => by
   rw [dotF]
   by_cases e : i = n
   ·subst e
    rw [dotF_one (j:=j) (by omega) fun k hk hkj=>hz k (by omega) (by omega) hkj]
    grind
   ·by_cases e2 : j = n
    ·subst e2
     rw [dotF_one (j:=i) (by omega) fun k hk hki=>hz k (by omega) hki (by omega)]
    ·rw [dotF_two (n:=n) (i:=i) (j:=j) (by omega) (by omega) hij fun k hk=>hz k (by omega),hz n (by omega) (by omega) (by omega)]
     grind
theorem gj_inv {n : Nat} {m0 : List (List Xw)} (hl : m0.length = n) (hr : ∀ r ∈ m0,r.length = n + 1) (hb : Bd n 0 m0) : ∀ p,p <= n -> ∀ m,gj m0 p = some m -> GJ n p m0 m /\ Bd n p m
 | 0, _, m, h => by
   simp only [gj,Jx] at h
   subst h
   exact ⟨⟨hl,hr,fun i j _ h=>by omega,fun i h=>by omega,fun y=>Iff.rfl⟩,hb⟩
 | p + 1, hp, m, h => by
   rw [gj] at h
   cases e : gj m0 p with
   | none=>rw [e] at h; cases h
   | some m1 =>
     obtain ⟨g1,b1⟩:=gj_inv hl hr hb p (by omega) m1 e
     rw [e,Option.bind_some,gjStep] at h
     split at h
     ·rename_i hlt
      simp only [Jx] at h
      subst h
      obtain ⟨h1,h2⟩:=piv_lt hlt
      have g2:=g1.swap h1 (by rw [<- g1.len]; exact hlt)
      have b2:=Bd.swap g1 h1 (by rw [<- g1.len]; exact hlt) b1
      have hne : rowQ (swapM m1 p (pivAt m1 p)) p p ≠ 0:=by
       have hp' : p < m1.length:=by rw [g1.len]; omega
       rw [rowQ,swap_get hp' hlt]
       split
       ·rename_i e; rw [<- e] at h2; exact h2
       ·rw [if_pos rfl]; exact h2
      exact ⟨g2.step (by omega) hne,Bd.step g2 (by omega) hne b2⟩
     ·cases h
theorem gj_ex {n : Nat} {m0 : List (List Xw)} (hl : m0.length = n) (hr : ∀ r ∈ m0,r.length = n + 1) (hb : Bd n 0 m0) (hK : Ker n (m0.map fnL)) : ∀ p,p <= n -> ∃ m,gj m0 p = some m
 | 0,_=>⟨m0,rfl⟩
 | p + 1, hp => by
   obtain ⟨m,hm⟩:=gj_ex hl hr hb hK p (by omega)
   obtain ⟨g,_⟩:=gj_inv hl hr hb p (by omega) m hm
   rw [gj,hm,Option.bind_some,gjStep]
   split
   ·exact ⟨_,rfl⟩
   ·rename_i hno
    exfalso
    have hpz:=piv_none hno
    obtain ⟨y,hy⟩ : ∃ y : Nat -> Xw,y = fun k=>if k < p then - rowQ m k p / rowQ m k k else if k = p then 1 else 0:=⟨_,rfl⟩
    have y1 : ∀ k,k < p -> y k = - rowQ m k p / rowQ m k k:=fun k hk=>by rw [hy]; simp only [if_pos hk]
    have y2 : y p = 1:=by rw [hy]; simp
    have y3 : ∀ k,p < k -> y k = 0:=fun k hk=>by rw [hy]; simp only [if_neg (show ¬ k < p by omega),if_neg (show ¬ k = p by omega)]
    have hz : ∀ r ∈ m,dotF (n + 1) (fnL r) y = 0:=fun r hr'=>by
     obtain ⟨i,hi,rfl⟩:=List.mem_iff_getElem.1 hr'
     rw [<- gd hi (d:=[])]
     show dotF (n + 1) (rowQ m i) y = 0
     have hin : i < n:=by rw [<- g.len]; exact hi
     by_cases hip : i < p
     ·rw [dotF_two (i:=i) (j:=p) (by omega) (by omega) (by omega) fun k hk hki hkp=>by
       by_cases hkl : k < p
       ·rw [g.dia i k hin hkl (by omega)]; grind
       ·rw [y3 k (by omega)]; grind]
      rw [y1 i hip,y2]
      have:=g.piv i hip
      grind
     ·refine dotF_zero fun k hk=>?_
      by_cases hkl : k < p
      ·rw [g.dia i k hin hkl (by omega)]; grind
      ·by_cases hkp : k = p
       ·subst hkp; rw [hpz i (by omega) hi]; grind
       ·rw [y3 k (by omega)]; grind
    have h0:=(g.sol y).1 hz
    have h1:=hK y (fun a ha=>by
     obtain ⟨r,hr',rfl⟩:=Xz.1 ha
     have:=h0 r hr'
     rw [dotF,y3 n (by omega)] at this
     grind) p (by omega)
    rw [y2] at h1
    grind
theorem sol_some {n : Nat} {m0 : List (List Xw)} {v : Nat -> Xw} (hl : m0.length = n) (hr : ∀ r ∈ m0,r.length = n + 1) (hb : Bd n 0 m0) (hK : Ker n (m0.map fnL)) (hv : ∀ r ∈ m0,dotF n (fnL r) v = fnL r n) :
  solQ n m0 = some ((List.range n).map v):=by
 obtain ⟨m,hm⟩:=gj_ex hl hr hb hK n (Jv _)
 obtain ⟨g,_⟩:=gj_inv hl hr hb n (Jv _) m hm
 rw [solQ,hm,Jg,outM]
 congr 1
 refine List.map_congr_left fun p hp=>?_
 have hp:=Zg.1 hp
 obtain ⟨y,hy⟩ : ∃ y : Nat -> Xw,y = fun k=>if k < n then v k else -1:=⟨_,rfl⟩
 have y1 : ∀ k,k < n -> y k = v k:=fun k hk=>by rw [hy]; simp only [if_pos hk]
 have y2 : y n = -1:=by rw [hy]; simp
 have h0 : ∀ r ∈ m0,dotF (n + 1) (fnL r) y = 0:=fun r hr'=>by
  rw [dotF,y2,dotF_congr (a':=fnL r) (x':=v) (fun _ _=>rfl) y1,hv r hr']
  grind
 have h1:=(g.sol y).2 h0 _ (getD_mem' (i:=p) (d:=[]) (by rw [g.len]; exact hp))
 have h2 : dotF (n + 1) (rowQ m p) y = 0:=h1
 rw [dotF_two (i:=p) (j:=n) (by omega) (by omega) (by omega) fun k hk hkp hkn=>by rw [g.dia p k hp (by omega) (by omega)]; grind] at h2
 rw [y1 p hp,y2] at h2
 have:=g.piv p hp
 grind
def rbQ (N D : Nat) (q : Xw) : Prop:=∃ s M : Int,s ≠ 0 /\ q * (s : Xw) = (M : Xw) /\ M.natAbs <= N /\ s.natAbs <= D
theorem rb_num {N D : Nat} {q : Xw} (h : rbQ N D q) : q.num.natAbs <= N /\ q.den <= D:=by
 obtain ⟨s,M,hs,hq,hM,hD⟩:=h
 have hs' : (s : Xw) ≠ 0:=fun e=>hs (Rat.intCast_inj.1 (by simpa using e))
 have e : q = Rat.divInt M s:=by
  rw [Rat.divInt_eq_div]
  grind
 constructor
 ·rw [e,Rat.num_divInt]
  refine Zy ?_ hM
  rw [Int.natAbs_ediv_of_dvd (Int.dvd_trans (Int.gcd_dvd_right _ _) (Int.dvd_mul_left _ _)),Int.natAbs_mul]
  refine Zy (Nat.div_le_self _ _) ?_
  have : s.sign.natAbs <= 1:=by
   rcases Int.lt_trichotomy s 0 with h | h | h
   ·rw [Int.sign_eq_neg_one_of_neg h]; decide
   ·exact absurd h hs
   ·rw [Int.sign_eq_one_of_pos h]; decide
  have:=Zk M.natAbs this
  omega
 ·rw [e,Rat.den_divInt,if_neg hs]
  exact Zy (Nat.div_le_self _ _) hD
def smQ (q : Xw) : Prop:=q.num.natAbs <= 1000000000 /\ q.den <= 1000000000
theorem rb_sm {N D : Nat} {q : Xw} (h : rbQ N D q) (h1 : N <= 1000000000) (h2 : D <= 1000000000) : smQ q:=by
 have:=rb_num h
 exact ⟨by omega,by omega⟩
theorem bb4 {p : Nat} (h : p <= 4) : bbQ p <= 32768 /\ cbQ p <= 2048:=by
 have : p = 0 \/ p = 1 \/ p = 2 \/ p = 3 \/ p = 4:=by omega
 rcases this with rfl | rfl | rfl | rfl | rfl <;> simp [bbQ,cbQ]
theorem bb3 {p : Nat} (h : p <= 3) : bbQ p <= 128 /\ cbQ p <= 16:=by
 have : p = 0 \/ p = 1 \/ p = 2 \/ p = 3:=by omega
 rcases this with rfl | rfl | rfl | rfl <;> simp [bbQ,cbQ]
structure SafeS (n p : Nat) (m : List (List Xw)) : Prop where
 at_ : ∀ i k,i < n -> k <= n -> smQ (rowQ m i k)
 f : ∀ i,i < n -> smQ (rowQ m i p / rowQ m p p)
 q : ∀ i k,i < n -> k <= n -> smQ (rowQ m i p / rowQ m p p * rowQ m p k)
 d : ∀ i k,i < n -> k <= n -> smQ (rowQ m i k - rowQ m i p / rowQ m p p * rowQ m p k)
theorem bd_at {n p : Nat} {m : List (List Xw)} (h : Bd n p m) (hp : p <= 4) {i k : Nat} (hi : i < n) (hk : k <= n) : smQ (rowQ m i k):=by
 obtain ⟨D,_,_,h3⟩:=h
 obtain ⟨s,M,r,_⟩:=h3 i hi
 have:=bb4 hp
 have:=r.sc
 have:=r.bd k hk
 exact rb_sm (N:=32768) (D:=2048) ⟨s,M k,r.ne,r.eq k hk,by omega,by omega⟩ (by omega) (by omega)
theorem bd_safe {n p : Nat} {m : List (List Xw)} (h : Bd n p m) (hp : p <= 3) (hpn : p < n) (hne : rowQ m p p ≠ 0) : SafeS n p m:=by
 have h0:=h
 obtain ⟨D,_,_,h3⟩:=h
 obtain ⟨sp,P,rp,_⟩:=h3 p hpn
 have hb:=bb3 hp
 have hP : P p ≠ 0:=fun e=>by
  have:=rp.eq p (by omega)
  rw [e] at this
  have hs : (sp : Xw) ≠ 0:=fun e=>rp.ne (Rat.intCast_inj.1 (by simpa using e))
  have : rowQ m p p * (sp : Xw) = 0:=by simpa using this
  grind
 have cut : ∀ {a b : Int} {x y X Y : Nat},a.natAbs <= x -> b.natAbs <= y -> x <= X -> y <= Y -> (a * b).natAbs <= X * Y:=fun h1 h2 h3 h4=>Zy (natAbs_mul_le h1 h2) (Nat.mul_le_mul h3 h4)
 refine ⟨fun i k hi hk=>bd_at h0 (by omega) hi hk,fun i hi=>?_,fun i k hi hk=>?_,fun i k hi hk=>?_⟩
 all_goals obtain ⟨s,M,ri,_⟩:=h3 i hi
 all_goals have hs:=Int.mul_ne_zero ri.ne hP
 all_goals have hsb : (s * P p).natAbs <= 16 * 128:=cut ri.sc (rp.bd p (by omega)) hb.2 hb.1
 ·exact rb_sm (N:=128 * 16) (D:=16 * 128) ⟨s * P p,M p * sp,hs,by rw [Rat.intCast_mul,Rat.intCast_mul]; exact el_f hne (ri.eq p (by omega)) (rp.eq p (by omega)),cut (ri.bd p (by omega)) rp.sc hb.1 hb.2,hsb⟩ (by omega) (by omega)
 ·exact rb_sm (N:=128 * 128) (D:=16 * 128) ⟨s * P p,M p * P k,hs,by rw [Rat.intCast_mul,Rat.intCast_mul]; exact el_q hne (ri.eq p (by omega)) (rp.eq p (by omega)) (rp.eq k hk),cut (ri.bd p (by omega)) (rp.bd k hk) hb.1 hb.1,hsb⟩ (by omega) (by omega)
 ·refine rb_sm (N:=2 * (128 * 128)) (D:=16 * 128) ⟨s * P p,P p * M k - M p * P k,hs,by rw [Rat.intCast_mul,Rat.intCast_sub,Rat.intCast_mul,Rat.intCast_mul]; exact el_num hne (ri.eq k hk) (ri.eq p (by omega)) (rp.eq p (by omega)) (rp.eq k hk),?_,hsb⟩ (by omega) (by omega)
  have a1 : (P p * M k).natAbs <= 128 * 128:=cut (rp.bd p (by omega)) (ri.bd k hk) hb.1 hb.1
  have a2 : (M p * P k).natAbs <= 128 * 128:=cut (ri.bd p (by omega)) (rp.bd k hk) hb.1 hb.1
  have a3:=natAbs_sub_le' (P p * M k) (M p * P k)
  omega
structure SolB (n : Nat) (x : List Xw) : Prop where
 len : x.length = n
 ex : ∃ D : Int,D ≠ 0 /\ D.natAbs <= 2048 /\ ∀ k,k < n -> ∃ X : Int,fnL x k * (D : Xw) = (X : Xw) /\ X.natAbs <= 67108864
theorem sol_bd {n : Nat} {m0 : List (List Xw)} {x : List Xw} (hn : n <= 4) (hl : m0.length = n) (hr : ∀ r ∈ m0,r.length = n + 1) (hb : Bd n 0 m0) (h : solQ n m0 = some x) : SolB n x:=by
 rw [solQ] at h
 cases e : gj m0 n with
 | none=>rw [e] at h; cases h
 | some m =>
   obtain ⟨g,b⟩:=gj_inv hl hr hb n (Jv _) m e
   rw [e,Jg,Jx] at h
   subst h
   obtain ⟨D,h1,h2,h3⟩:=b
   have hb:=bb4 hn
   refine ⟨by simp [outM],D,h1,by omega,fun k hk=>?_⟩
   obtain ⟨s,M,r,he⟩:=h3 k hk
   obtain ⟨x,hx⟩:=he hk
   have hxn : x ≠ 0:=fun e=>h1 (by rw [hx,e,Int.mul_zero])
   have hMn : M k ≠ 0:=fun e=>h1 (by rw [hx,e,Int.zero_mul])
   have hxb : x.natAbs <= 2048:=by
    have h4 : (M k * x).natAbs <= 2048:=by rw [<- hx]; omega
    rw [Int.natAbs_mul] at h4
    have h5:=Zk x.natAbs (show 1 <= (M k).natAbs by omega)
    omega
   refine ⟨M n * x,?_,?_⟩
   ·rw [fnL,gd (by simpa [outM] using hk)]
    simp only [outM,List.getElem_map,List.getElem_range]
    have e1:=r.eq k (by omega)
    have e2:=r.eq n (by omega)
    have e3:=g.piv k hk
    rw [hx,Rat.intCast_mul,Rat.intCast_mul]
    grind
   ·exact Zy (natAbs_mul_le (Zy (r.bd n (by omega)) hb.1) hxb) (by omega)
def combs {α : Type} : Nat -> List α -> List (List α)
 | 0,_=>[[]]
 | _ + 1,[]=>[]
 | n + 1,a :: l=>(combs n l).map (a :: ·) ++ combs (n + 1) l
theorem combs_mem {α : Type} : ∀ {n : Nat} {l M : List α},M ∈ combs n l ↔ M.Sublist l /\ M.length = n
 | 0, l, M => by
   simp only [combs,Qg]
   constructor
   ·rintro rfl; exact ⟨List.nil_sublist _,rfl⟩
   ·rintro ⟨_,h⟩; exact List.eq_nil_of_length_eq_zero h
 | n + 1, [], M => by
   simp only [combs,List.not_mem_nil,false_iff,not_and,List.sublist_nil]
   rintro rfl; simp
 | n + 1, a :: l, M => by
   simp only [combs,Qq,Xz,combs_mem,List.sublist_cons_iff]
   constructor
   ·rintro (⟨x,⟨h1,h2⟩,rfl⟩ | ⟨h1,h2⟩)
    ·exact ⟨.inr ⟨x,rfl,h1⟩,by simp [h2]⟩
    ·exact ⟨.inl h1,h2⟩
   ·rintro ⟨h | ⟨x,rfl,h⟩,h2⟩
    ·exact .inr ⟨h,h2⟩
    ·exact .inl ⟨x,⟨h,by simpa using h2⟩,rfl⟩
def unitR (n j : Nat) : List Xw:=(List.range n).map fun k=>if k = j then 1 else 0
def augR (A : List (List Xw)) (n : Nat) : List (List Xw):=A.map (· ++ [1]) ++ (List.range n).map fun j=>unitR n j ++ [0]
def sumQ (x : List Xw) : Xw:=dotF x.length (fun _=>1) (fnL x)
def feasQ (A : List (List Xw)) (x : List Xw) : Bool:=x.all (fun q=>decide (0 <= q)) && A.all fun r=>decide (1 <= dotF x.length (fnL r) (fnL x))
def addPt (out : List (List Xw)) (x : List Xw) : List (List Xw):=if x ∈ out then out else out ++ [x]
def ptStep (A : List (List Xw)) (n : Nat) (out : List (List Xw)) (M : List (List Xw)) : List (List Xw):=match solQ n M with
 | some x=>if feasQ A x then addPt out x else out
 | none=>out
def ptsQ (A : List (List Xw)) (n : Nat) : List (List Xw):=(combs n (augR A n)).foldl (ptStep A n) []
def bestS (b : Option (List Xw × Xw)) (x : List Xw) : Option (List Xw × Xw):=match b with
 | none=>some (x,sumQ x)
 | some p=>if sumQ x < p.2 then some (x,sumQ x) else some p
def bestQ (l : List (List Xw)) : Option (List Xw × Xw):=l.foldl bestS none
def minQ (A : List (List Xw)) (n : Nat) : Option (List Xw × Xw):=bestQ (ptsQ A n)
theorem addPt_mem {out : List (List Xw)} {x y : List Xw} : y ∈ addPt out x ↔ y ∈ out \/ y = x:=by
 rw [addPt]
 split
 ·rename_i h
  constructor
  ·exact .inl
  ·rintro (h1 | rfl)
   ·exact h1
   ·exact h
 ·simp
theorem ptStep_mem {A : List (List Xw)} {n : Nat} {out M : List (List Xw)} {y : List Xw} : y ∈ ptStep A n out M ↔ y ∈ out \/ (solQ n M = some y /\ feasQ A y = true):=by
 rw [ptStep]
 cases h : solQ n M with
 | none=>simp
 | some x =>
   simp only [Jx]
   split
   ·rename_i hf
    rw [addPt_mem]
    constructor
    ·rintro (h | rfl)
     ·exact .inl h
     ·exact .inr ⟨rfl,hf⟩
    ·rintro (h | ⟨rfl,_⟩)
     ·exact .inl h
     ·exact .inr rfl
   ·rename_i hf
    constructor
    ·exact .inl
    ·rintro (h | ⟨rfl,h⟩)
     ·exact h
     ·exact absurd h hf
theorem pts_fold {A : List (List Xw)} {n : Nat} {y : List Xw} : ∀ (l : List (List (List Xw))) (out : List (List Xw)),y ∈ l.foldl (ptStep A n) out ↔ y ∈ out \/ ∃ M ∈ l,solQ n M = some y /\ feasQ A y = true
 | [],out=>by simp
 | M :: l, out => by
   rw [List.foldl_cons,pts_fold l,ptStep_mem]
   simp only [Zz]
   constructor
   ·rintro ((h | h) | ⟨M',hM,h⟩)
    ·exact .inl h
    ·exact .inr ⟨M,.inl rfl,h⟩
    ·exact .inr ⟨M',.inr hM,h⟩
   ·rintro (h | ⟨M',rfl | hM,h⟩)
    ·exact .inl (.inl h)
    ·exact .inl (.inr h)
    ·exact .inr ⟨M',hM,h⟩
theorem pts_mem {A : List (List Xw)} {n : Nat} {y : List Xw} : y ∈ ptsQ A n ↔ ∃ M,M.Sublist (augR A n) /\ M.length = n /\ solQ n M = some y /\ feasQ A y = true:=by
 rw [ptsQ,pts_fold]
 simp only [List.not_mem_nil,false_or,combs_mem]
 constructor
 ·rintro ⟨M,⟨h1,h2⟩,h⟩; exact ⟨M,h1,h2,h⟩
 ·rintro ⟨M,h1,h2,h⟩; exact ⟨M,⟨h1,h2⟩,h⟩
theorem best_fold : ∀ (l : List (List Xw)) (b : Option (List Xw × Xw)),(∀ p,b = some p -> p.2 = sumQ p.1) ->
  (∀ p,l.foldl bestS b = some p -> p.2 = sumQ p.1 /\ (p.1 ∈ l \/ b = some p) /\ (∀ x ∈ l,p.2 <= sumQ x) /\ ∀ p',b = some p' -> p.2 <= p'.2) /\ (l.foldl bestS b = none -> b = none /\ l = [])
 | [], b, hb => by
   refine ⟨fun p hp=>⟨hb p hp,.inr hp,by simp,fun p' hp'=>?_⟩,fun h=>⟨h,rfl⟩⟩
   rw [List.foldl_nil] at hp
   rw [hp,Jx] at hp'
   subst hp'; exact Rat.le_refl
 | x :: l, b, hb => by
   have hs : ∃ p,bestS b x = some p /\ p.2 = sumQ p.1 /\ (p.1 = x \/ b = some p) /\ p.2 <= sumQ x /\ ∀ p',b = some p' -> p.2 <= p'.2:=by
    cases b with
    | none=>exact ⟨(x,sumQ x),rfl,rfl,.inl rfl,Rat.le_refl,fun p' h=>by cases h⟩
    | some q =>
      simp only [bestS]
      by_cases h : sumQ x < q.2
      ·rw [if_pos h]
       exact ⟨(x,sumQ x),rfl,rfl,.inl rfl,Rat.le_refl,fun p' h'=>by simp only [Jx] at h'; subst h'; exact Rat.le_of_lt h⟩
      ·rw [if_neg h]
       exact ⟨q,rfl,hb q rfl,.inr rfl,by grind,fun p' h'=>by simp only [Jx] at h'; subst h'; exact Rat.le_refl⟩
   obtain ⟨q,h1,h2,h3,h4,h5⟩:=hs
   rw [List.foldl_cons,h1]
   obtain ⟨i1,i2⟩:=best_fold l (some q) fun p hp=>by simp only [Jx] at hp; subst hp; exact h2
   refine ⟨fun p hp=>?_,fun h=>absurd (i2 h).1 (by simp)⟩
   obtain ⟨j1,j2,j3,j4⟩:=i1 p hp
   have j5:=j4 q rfl
   refine ⟨j1,?_,fun y hy=>?_,fun p' hp'=>by have:=h5 p' hp'; grind⟩
   ·rcases j2 with h | h
    ·exact .inl (List.mem_cons_of_mem _ h)
    ·simp only [Jx] at h
     subst h
     rcases h3 with h | h
     ·exact .inl (by rw [h]; simp)
     ·exact .inr h
   ·rcases Zz.1 hy with rfl | hy
    ·grind
    ·exact j3 y hy
theorem best_some {l : List (List Xw)} (h : l ≠ []) : ∃ p,bestQ l = some p /\ p.2 = sumQ p.1 /\ p.1 ∈ l /\ ∀ x ∈ l,p.2 <= sumQ x:=by
 obtain ⟨h1,h2⟩:=best_fold l none (fun p h=>by cases h)
 cases e : l.foldl bestS none with
 | none=>exact absurd (h2 e).2 h
 | some p =>
   obtain ⟨a,b,c,_⟩:=h1 p e
   refine ⟨p,e,a,?_,c⟩
   rcases b with b | b
   ·exact b
   ·cases b
structure Mat01 (A : List (List Xw)) (n : Nat) : Prop where
 len : ∀ r ∈ A,r.length = n
 z : ∀ r ∈ A,∀ q ∈ r,q = 0 \/ q = 1
 one : ∀ r ∈ A,∃ q ∈ r,q = 1
def feasC (A : List (List Xw)) (n : Nat) (y : Nat -> Xw) : Prop:=(∀ k,k < n -> 0 <= y k) /\ ∀ r ∈ A,1 <= dotF n (fnL r) y
theorem unit_get {n j k : Nat} (hk : k < n) : fnL (unitR n j) k = if k = j then 1 else 0:=by
 rw [fnL,gd (by simpa [unitR] using hk)]; simp [unitR]
theorem app_get {r : List Xw} {n : Nat} {b : Xw} (hr : r.length = n) : (∀ k,k < n -> fnL (r ++ [b]) k = fnL r k) /\ fnL (r ++ [b]) n = b:=by
 constructor
 ·intro k hk
  rw [fnL,fnL,gd (by simp; omega),gd (by omega),List.getElem_append_left]
 ·rw [fnL,gd (by simp; omega)]
  simp [<- hr]
theorem aug_mem {A : List (List Xw)} {n : Nat} {r : List Xw} : r ∈ augR A n ↔ (∃ a ∈ A,r = a ++ [1]) \/ ∃ j,j < n /\ r = unitR n j ++ [0]:=by
 simp only [augR,Qq,Xz,Zg]
 constructor
 ·rintro (⟨a,h,rfl⟩ | ⟨j,h,rfl⟩)
  ·exact .inl ⟨a,h,rfl⟩
  ·exact .inr ⟨j,h,rfl⟩
 ·rintro (⟨a,h,rfl⟩ | ⟨j,h,rfl⟩)
  ·exact .inl ⟨a,h,rfl⟩
  ·exact .inr ⟨j,h,rfl⟩
theorem aug_len {A : List (List Xw)} {n : Nat} (h : Mat01 A n) : ∀ r ∈ augR A n,r.length = n + 1:=fun r hr=>by
 rcases aug_mem.1 hr with ⟨a,ha,rfl⟩ | ⟨j,_,rfl⟩
 ·simp [h.len a ha]
 ·simp [unitR]
theorem aug_01 {A : List (List Xw)} {n : Nat} (h : Mat01 A n) : ∀ r ∈ augR A n,∀ q ∈ r,q = 0 \/ q = 1:=fun r hr q hq=>by
 rcases aug_mem.1 hr with ⟨a,ha,rfl⟩ | ⟨j,_,rfl⟩
 ·rcases Qq.1 hq with hq | hq
  ·exact h.z a ha q hq
  ·exact .inr (Qg.1 hq)
 ·rcases Qq.1 hq with hq | hq
  ·obtain ⟨k,_,rfl⟩:=Xz.1 hq
   split
   ·exact .inr rfl
   ·exact .inl rfl
  ·exact .inl (Qg.1 hq)
theorem bd_01 {n : Nat} {M : List (List Xw)} (hl : M.length = n) (h : ∀ r ∈ M,∀ q ∈ r,q = 0 \/ q = 1) : Bd n 0 M:=by
 refine ⟨1,by omega,by simp [cbQ],fun i hi=>⟨1,fun k=>if rowQ M i k = 1 then 1 else 0,⟨by omega,by simp [cbQ],fun k _=>?_,fun k _=>?_⟩,fun h=>by omega⟩⟩
 ·have hr:=h _ (getD_mem' (i:=i) (d:=[]) (by omega))
  have : rowQ M i k = 0 \/ rowQ M i k = 1:=by
   by_cases hk : k < (M.getD i []).length
   ·rw [rowQ,fnL,gd hk]
    exact hr _ (Jy hk)
   ·left
    rw [rowQ,fnL,List.getD,List.getElem?_eq_none (by omega)]; rfl
  rcases this with e | e
  ·rw [e,if_neg (by grind)]; simp
  ·rw [e,if_pos rfl]; simp
 ·simp only [bbQ]
  split <;> decide
theorem range_fn {n : Nat} {v : Nat -> Xw} {k : Nat} (hk : k < n) : fnL ((List.range n).map v) k = v k:=by
 rw [fnL,gd (by simpa using hk)]; simp
theorem min_cov {A : List (List Xw)} {n : Nat} (h : Mat01 A n) : ∃ p,minQ A n = some p /\ p.1.length = n /\ p.2 = dotF n (fun _=>1) (fnL p.1) /\ feasC A n (fnL p.1) /\ ∀ y,feasC A n y -> p.2 <= dotF n (fun _=>1) y:=by
 have hrow : ∀ r ∈ augR A n,r.length = n + 1:=aug_len h
 have key : ∀ y,feasC A n y -> ∃ x ∈ ptsQ A n,x.length = n /\ sumQ x <= dotF n (fun _=>1) y:=fun y hy=>by
  obtain ⟨C,hC⟩ : ∃ C : List Cst,C = (augR A n).map fun r=>(fnL r,fnL r n):=⟨_,rfl⟩
  have hfe : ∀ y,feasF n C y ↔ feasC A n y:=fun y=>by
   constructor
   ·intro hf
    refine ⟨fun k hk=>?_,fun r hr=>?_⟩
    ·have h1:=hf (fnL (unitR n k ++ [0]),fnL (unitR n k ++ [0]) n) (by rw [hC]; exact Xz.2 ⟨_,aug_mem.2 (.inr ⟨k,hk,rfl⟩),rfl⟩)
     have h2:=app_get (r:=unitR n k) (n:=n) (b:=0) (by simp [unitR])
     simp only [h2.2] at h1
     rw [dotF_congr (a':=fnL (unitR n k)) (x':=y) h2.1 (fun _ _=>rfl),dotF_one (j:=k) hk fun i hi hik=>by rw [unit_get hi,if_neg hik]; grind,unit_get hk,if_pos rfl] at h1
     grind
    ·have h1:=hf (fnL (r ++ [1]),fnL (r ++ [1]) n) (by rw [hC]; exact Xz.2 ⟨_,aug_mem.2 (.inl ⟨r,hr,rfl⟩),rfl⟩)
     have h2:=app_get (r:=r) (n:=n) (b:=1) (h.len r hr)
     simp only [h2.2] at h1
     rwa [dotF_congr (a':=fnL r) (x':=y) h2.1 (fun _ _=>rfl)] at h1
   ·rintro ⟨h1,h2⟩ p hp
    rw [hC] at hp
    obtain ⟨r,hr,rfl⟩:=Xz.1 hp
    rcases aug_mem.1 hr with ⟨a,ha,rfl⟩ | ⟨j,hj,rfl⟩
    ·have h3:=app_get (r:=a) (n:=n) (b:=1) (h.len a ha)
     simp only [h3.2]
     rw [dotF_congr (a':=fnL a) (x':=y) h3.1 (fun _ _=>rfl)]
     exact h2 a ha
    ·have h3:=app_get (r:=unitR n j) (n:=n) (b:=0) (by simp [unitR])
     simp only [h3.2]
     rw [dotF_congr (a':=fnL (unitR n j)) (x':=y) h3.1 (fun _ _=>rfl),dotF_one (j:=j) hj fun i hi hik=>by rw [unit_get hi,if_neg hik]; grind,unit_get hj,if_pos rfl]
     have:=h1 j hj
     grind
  obtain ⟨v,v1,v2,v3⟩:=vert_ex (n:=n) (C:=C) (c:=fun _=>1) (fun _ _=>by show (0 : Xw) <= 1; decide) (fun k hk=>by
   refine ⟨(fnL (unitR n k ++ [0]),fnL (unitR n k ++ [0]) n),by rw [hC]; exact Xz.2 ⟨_,aug_mem.2 (.inr ⟨k,hk,rfl⟩),rfl⟩,?_,fun x=>?_⟩
   ·exact (app_get (by simp [unitR])).2
   ·have h2:=app_get (r:=unitR n k) (n:=n) (b:=0) (by simp [unitR])
    simp only
    rw [dotF_congr (a':=fnL (unitR n k)) (x':=x) h2.1 (fun _ _=>rfl),dotF_one (j:=k) hk fun i hi hik=>by rw [unit_get hi,if_neg hik]; grind,unit_get hk,if_pos rfl]
    grind) _ y ((hfe y).2 hy) (Jv _)
  obtain ⟨B,hB,hBl,hBk⟩:=ker_sub _ _ (Jv _) v3
  have he : (C.filter (tgt n v)).map Prod.fst = ((augR A n).filter fun r=>tgt n v (fnL r,fnL r n)).map fnL:=by
   rw [hC,List.filter_map,List.map_map]
   rfl
  rw [he] at hB
  obtain ⟨M,hM,rfl⟩:=List.sublist_map_iff.1 hB
  have hMs : M.Sublist (augR A n):=hM.trans List.filter_sublist
  have hMt : ∀ r ∈ M,dotF n (fnL r) v = fnL r n:=fun r hr=>by
   have:=(List.mem_filter.1 (hM.subset hr)).2
   simpa [tgt] using this
  have hMl : M.length = n:=by simpa using hBl
  have hMr : ∀ r ∈ M,r.length = n + 1:=fun r hr=>hrow r (hMs.subset hr)
  have hMb : Bd n 0 M:=bd_01 hMl fun r hr=>aug_01 h r (hMs.subset hr)
  have hs:=sol_some hMl hMr hMb hBk hMt
  have hvf:=(hfe v).1 v1
  have hsum : sumQ ((List.range n).map v) = dotF n (fun _=>1) v:=by
   rw [sumQ,List.length_map,List.length_range]
   exact dotF_congr (fun _ _=>rfl) fun k hk=>range_fn hk
  refine ⟨(List.range n).map v,pts_mem.2 ⟨M,hMs,hMl,hs,?_⟩,by simp,?_⟩
  ·simp only [feasQ,Jq,Jk,Xj,List.length_map,List.length_range]
   refine ⟨fun q hq=>?_,fun r hr=>?_⟩
   ·obtain ⟨k,hk,rfl⟩:=Xz.1 hq
    exact hvf.1 k (Zg.1 hk)
   ·rw [dotF_congr (a':=fnL r) (x':=v) (fun _ _=>rfl) fun k hk=>range_fn hk]
    exact hvf.2 r hr
  ·rw [hsum]; exact v2
 have h1 : feasC A n (fun _=>1):=by
  refine ⟨fun _ _=>by show (0 : Xw) <= 1; decide,fun r hr=>?_⟩
  obtain ⟨q,hq,rfl⟩:=h.one r hr
  obtain ⟨i,hi,hqi⟩:=List.mem_iff_getElem.1 hq
  have hl:=h.len r hr
  have hz : ∀ k,k < n -> 0 <= fnL r k:=fun k hk=>by
   rw [fnL,gd (by omega)]
   rcases h.z r hr _ (Jy (show k < r.length by omega)) with e | e <;> rw [e] <;> decide
  have hd : dotF n (fnL r) (fun _=>1) = dotF n (fun k=>fnL r k - if k = i then 1 else 0) (fun _=>1) + dotF n (fun k=>if k = i then 1 else 0) (fun _=>1):=by
   rw [dotF_comm (fun k=>fnL r k - if k = i then 1 else 0),dotF_comm (fun k=>if k = i then (1 : Xw) else 0),<- dotF_add,dotF_comm]
   exact dotF_congr (fun _ _=>rfl) fun k _=>by grind
  have h2 : 0 <= dotF n (fun k=>fnL r k - if k = i then 1 else 0) (fun _=>1):=dotF_nonneg fun k hk=>by
   by_cases e : k = i
   ·subst e
    have : fnL r k = 1:=by rw [fnL,gd hi,hqi]
    rw [this,if_pos rfl]; grind
   ·have:=hz k hk
    rw [if_neg e]; grind
  have h3 : dotF n (fun k=>if k = i then (1 : Xw) else 0) (fun _=>1) = 1:=by
   rw [dotF_one (j:=i) (by omega) fun k _ hk=>by rw [if_neg hk]; grind,if_pos rfl]
   grind
  rw [hd,h3]
  grind
 obtain ⟨x0,hx0,_⟩:=key _ h1
 obtain ⟨p,p1,p2,p3,p4⟩:=best_some (List.ne_nil_of_mem hx0)
 obtain ⟨M,hM,hMl,hMs,hMf⟩:=pts_mem.1 p3
 have hpl : p.1.length = n:=by
  rw [solQ] at hMs
  cases e : gj M n with
  | none=>rw [e] at hMs; cases hMs
  | some m=>rw [e,Jg,Jx] at hMs; rw [<- hMs]; simp [outM]
 refine ⟨p,p1,hpl,by rw [p2,sumQ,hpl],?_,fun y hy=>?_⟩
 ·simp only [feasQ,Jq,Jk,Xj,hpl] at hMf
  exact ⟨fun k hk=>by rw [fnL,gd (by omega)]; exact hMf.1 _ (Jy _),hMf.2⟩
 ·obtain ⟨x,hx,_,hs⟩:=key y hy
  have:=p4 x hx
  grind
theorem tdiv_dvd {a b : Int} (h : b ∣ a) : a.tdiv b = a / b:=Int.tdiv_eq_ediv_of_dvd h
theorem q_norm (n d : Int) (hd : 0 < d) : (_root_.Rat.divInt n d).num = n.tdiv (Nat.gcd n.natAbs d.natAbs : Nat) /\ (((_root_.Rat.divInt n d).den : Nat) : Int) = d.tdiv (Nat.gcd n.natAbs d.natAbs : Nat):=by
 have e : _root_.Rat.divInt n d = _root_.Rat.normalize n d.natAbs (by omega):=by
  have : d = (d.natAbs : Int):=by omega
  conv=>lhs; rw [this]
  show _root_.mkRat n d.natAbs = _
  rw [_root_.Rat.normalize_eq_mkRat]
 rw [e,_root_.Rat.normalize_eq]
 simp only
 have h1 : ((Nat.gcd n.natAbs d.natAbs : Nat) : Int) ∣ n:=Int.ofNat_dvd_left.2 (Nat.gcd_dvd_left _ _)
 have h2 : ((Nat.gcd n.natAbs d.natAbs : Nat) : Int) ∣ d:=Int.ofNat_dvd_left.2 (Nat.gcd_dvd_right _ _)
 rw [tdiv_dvd h1,tdiv_dvd h2]
 refine ⟨rfl,?_⟩
 rw [Int.natCast_ediv]
 congr 1
 omega
theorem q_add (a b : Xw) : a + b = _root_.Rat.divInt (a.num * b.den + b.num * a.den) ((a.den : Int) * b.den):=by
 rw [_root_.Rat.add_def,_root_.Rat.normalize_eq_mkRat]
 rfl
theorem q_mul (a b : Xw) : a * b = _root_.Rat.divInt (a.num * b.num) ((a.den : Int) * b.den):=by
 rw [_root_.Rat.mul_def,_root_.Rat.normalize_eq_mkRat]
 rfl
theorem q_self (a : Xw) : _root_.Rat.divInt a.num a.den = a:=_root_.Rat.num_divInt_den a
theorem q_div (a b : Xw) : a / b = _root_.Rat.divInt (a.num * b.den) ((a.den : Int) * b.num):=by
 rw [_root_.Rat.div_def,_root_.Rat.inv_def]
 conv=>lhs; rw [<- q_self a]
 rw [_root_.Rat.divInt_mul_divInt]
theorem q_flip (n d : Int) : _root_.Rat.divInt (-n) (-d) = _root_.Rat.divInt n d:=_root_.Rat.neg_divInt_neg n d
theorem q_neg (a : Xw) : (-a).num = - a.num /\ (-a).den = a.den:=⟨rfl,rfl⟩
theorem q_sub (a b : Xw) : a - b = a + -b:=by grind
def r01 (b : Bool) : Xw:=if b then 1 else 0
def covM (atoms : List PAtom) (bag : List Int) : List (List Xw):=bag.map fun v=>atoms.map fun a=>r01 (a.vars.contains v)
def widQ (atoms : List PAtom) (bag : List Int) : Xw:=((minQ (covM atoms bag) atoms.length).map (·.2)).getD 0
def covered (atoms : List PAtom) (bag : List Int) : Prop:=∀ v ∈ bag,∃ a ∈ atoms,v ∈ a.vars
theorem covM_01 {atoms : List PAtom} {bag : List Int} (h : covered atoms bag) : Mat01 (covM atoms bag) atoms.length:=by
 refine ⟨fun r hr=>?_,fun r hr q hq=>?_,fun r hr=>?_⟩
 ·obtain ⟨v,_,rfl⟩:=Xz.1 hr; simp
 ·obtain ⟨v,_,rfl⟩:=Xz.1 hr
  obtain ⟨a,_,rfl⟩:=Xz.1 hq
  simp only [r01]; split <;> simp
 ·obtain ⟨v,hv,rfl⟩:=Xz.1 hr
  obtain ⟨a,ha,hva⟩:=h v hv
  exact ⟨1,Xz.2 ⟨a,ha,by simp [r01,hva]⟩,rfl⟩
theorem wid_min {atoms : List PAtom} {bag : List Int} (h : covered atoms bag) : ∃ p,minQ (covM atoms bag) atoms.length = some p /\ p.2 = widQ atoms bag /\ p.1.length = atoms.length /\
  p.2 = dotF atoms.length (fun _=>1) (fnL p.1) /\ feasC (covM atoms bag) atoms.length (fnL p.1) /\ ∀ y,feasC (covM atoms bag) atoms.length y -> p.2 <= dotF atoms.length (fun _=>1) y:=by
 obtain ⟨p,h1,h2,h3,h4,h5⟩:=min_cov (covM_01 h)
 exact ⟨p,h1,by simp [widQ,h1],h2,h3,h4,h5⟩
theorem wid_mono {atoms : List PAtom} {bag bag' : List Int} (h : covered atoms bag) (hs : ∀ v ∈ bag',v ∈ bag) : widQ atoms bag' <= widQ atoms bag:=by
 obtain ⟨p,_,p2,_,p4,p5,_⟩:=wid_min h
 obtain ⟨p',_,q2,_,_,_,q6⟩:=wid_min (bag:=bag') fun v hv=>h v (hs v hv)
 rw [<- p2,<- q2,p4]
 refine q6 _ ⟨p5.1,fun r hr=>p5.2 r ?_⟩
 obtain ⟨v,hv,rfl⟩:=Xz.1 hr
 exact Xz.2 ⟨v,hs v hv,rfl⟩
theorem dotF_le {a b x : Nat -> Xw} : ∀ {n : Nat},(∀ k,k < n -> a k * x k <= b k * x k) -> dotF n a x <= dotF n b x
 | 0,_=>by simp [dotF]
 | n + 1, h => by
   have h1:=dotF_le (n:=n) fun k hk=>h k (by omega)
   have h2:=h n (by omega)
   simp only [dotF]
   grind
theorem wid_one {atoms : List PAtom} {bag : List Int} (h : covered atoms bag) (hne : bag ≠ []) : 1 <= widQ atoms bag:=by
 obtain ⟨p,_,p2,_,p4,p5,_⟩:=wid_min h
 rw [<- p2,p4]
 obtain ⟨v,hv⟩:=List.exists_mem_of_ne_nil _ hne
 have h1:=p5.2 _ (Xz.2 ⟨v,hv,rfl⟩)
 have h2 : dotF atoms.length (fnL (atoms.map fun a=>r01 (a.vars.contains v))) (fnL p.1) <= dotF atoms.length (fun _=>1) (fnL p.1):=by
  refine dotF_le fun k hk=>?_
  have h0:=p5.1 k hk
  have h3 : fnL (atoms.map fun a=>r01 (a.vars.contains v)) k <= 1:=by
   simp only [fnL,List.getD_eq_getElem?_getD,List.getElem?_map,Jw hk,Jg,Option.getD_some,r01]
   split <;> decide
  have:=_root_.Rat.mul_le_mul_of_nonneg_right h3 h0
  exact this
 grind
def qR (q : Xw) : PRat:=⟨q.num,q.den⟩
theorem qR_inj {a b : Xw} : qR a = qR b ↔ a = b:=by
 constructor
 ·intro h
  have h1 : a.num = b.num:=congrArg PRat.num h
  have h2 : (a.den : Int) = b.den:=congrArg PRat.den h
  exact _root_.Rat.ext h1 (by omega)
 ·rintro rfl; rfl
def cmpQ (a b : Xw) : Int:=if a < b then -1 else if b < a then 1 else 0
theorem cmpQ_lt {a b : Xw} : cmpQ a b < 0 ↔ a < b:=by
 unfold cmpQ
 split
 ·simp [*]
 ·split <;> simp [*]
theorem cmpQ_gt {a b : Xw} : 0 < cmpQ a b ↔ b < a:=by
 unfold cmpQ
 split
 ·rename_i h
  have : ¬ b < a:=by grind
  simp [this]
 ·split <;> simp [*]
theorem cmpQ_eq {a b : Xw} : cmpQ a b = (if a.num * b.den < b.num * a.den then -1 else if b.num * a.den < a.num * b.den then 1 else 0):=by
 unfold cmpQ
 simp only [_root_.Rat.lt_iff]
theorem mulB {a b : Int} {x y : Nat} (ha : a.natAbs <= x) (hb : b.natAbs <= y) : (a * b).natAbs <= x * y:=natAbs_mul_le ha hb
theorem num_ne {q : Xw} (h : q ≠ 0) : q.num ≠ 0:=fun e=>h (_root_.Rat.num_eq_zero.1 e)
theorem sm_pos {q : Xw} : 0 < (q.den : Int):=by have:=q.den_pos; omega
theorem sm_gcd (q : Xw) : Nat.gcd q.num.natAbs q.den = 1:=q.reduced
theorem sm_neg {q : Xw} (h : smQ q) : smQ (-q):=⟨by have:=h.1; simp [(q_neg q).1]; exact this,by have:=h.2; simp [(q_neg q).2]; exact this⟩
theorem sm_zero : smQ 0:=by constructor <;> decide
theorem sm_one : smQ 1:=by constructor <;> decide
theorem sm_mul {a b : Xw} (ha : smQ a) (hb : smQ b) : (a.num * b.den).natAbs <= 1000000000000000000 /\ (b.num * a.den).natAbs <= 1000000000000000000 /\ (a.num * b.num).natAbs <= 1000000000000000000 /\ ((a.den : Int) * b.den).natAbs <= 1000000000000000000 /\ ((a.den : Int) * b.num).natAbs <= 1000000000000000000:=by
 have h1:=ha.1
 have h2:=ha.2
 have h3:=hb.1
 have h4:=hb.2
 exact ⟨mulB h1 (y:=1000000000) (by omega),mulB h3 (y:=1000000000) (by omega),mulB h1 h3,mulB (x:=1000000000) (y:=1000000000) (by omega) (by omega),mulB (x:=1000000000) (by omega) h3⟩
theorem den_mul {a b : Xw} : (0 : Int) < (a.den : Int) * b.den:=Int.mul_pos sm_pos sm_pos
theorem norm_num {n d : Int} {q : Xw} (hq : q = _root_.Rat.divInt n d) (hd : 0 < d) : n.tdiv (Nat.gcd n.natAbs d.natAbs : Nat) = q.num /\ d.tdiv (Nat.gcd n.natAbs d.natAbs : Nat) = q.den:=by
 subst hq
 have:=q_norm n d hd
 exact ⟨this.1.symm,this.2.symm⟩
theorem gcd_le {n d : Int} (hd : 0 < d) : 1 <= Nat.gcd n.natAbs d.natAbs /\ ((Nat.gcd n.natAbs d.natAbs : Nat) : Int) <= d:=by
 have h1 : 0 < d.natAbs:=by omega
 have h2:=Nat.gcd_pos_of_pos_right n.natAbs h1
 have h3:=Nat.gcd_le_right n.natAbs h1
 omega
theorem tmod_nat (a b : Nat) : ((a : Int).tmod (b : Int)) = ((a % b : Nat) : Int):=by
 rw [Int.tmod_eq_emod_of_nonneg (by omega)]; simp
theorem sm_i {q : Xw} (h : smQ q) : -1000000000 <= q.num /\ q.num <= 1000000000 /\ (1 : Int) <= q.den /\ (q.den : Int) <= 1000000000:=by
 have h1:=h.1
 have h2:=h.2
 have h3:=q.den_pos
 omega
def eQ (q : Xw) : List D:=eRat (qR q)
def cR (T : TypeId × Nat) (r : Nat × List Xw) : List D:=[.sl (some r.1) (some T) (r.2.map eQ)]
theorem eQ_def (q : Xw) : eQ q = [.int .i64 q.num,.int .i64 (q.den : Int)]:=rfl
@[simp] theorem eQ_len (q : Xw) : (eQ q).length = 2:=rfl
@[simp] theorem ids_eQ (q : Xw) : idsL (eQ q) = []:=rfl
@[simp] theorem ids_eQs (l : List Xw) : idsLL (l.map eQ) = [] := by
  induction l with
  | nil=>rfl
  | cons a r ih=>simp [idsLL,ih]
@[simp] theorem hp_eQs (l : List Xw) : hpLL (l.map eQ) = false := by
  induction l with
  | nil=>rfl
  | cons a r ih=>simp [hpLL,hpL,eQ,eRat,cI,D.hp] at ih ⊢
@[simp] theorem tk_eQs (l : List Xw) : tkLL (l.map eQ) = true := by
  induction l with
  | nil=>rfl
  | cons a r ih=>simp [tkLL,ih,eQ,eRat,cI,tkL,D.tk]
@[simp] theorem re_eQs (φ : Nat → Option D) (l : List Xw) : reLL φ (l.map eQ) = some (l.map eQ) := by
  induction l with
  | nil=>rfl
  | cons a r ih=>simp [reLL,ih,eQ,eRat,cI,reL,reD]
@[simp] theorem ids_cR (T : TypeId × Nat) (r : Nat × List Xw) : idsL (cR T r) = [r.1]:=by simp [cR,idsL,D.ids]
@[simp] theorem ids_cRs (T : TypeId × Nat) (l : List (Nat × List Xw)) : idsLL (l.map (cR T)) = l.map (·.1) := by
  induction l with
  | nil=>rfl
  | cons a r ih=>simp [idsLL,ih]
@[simp] theorem cR_len (T : TypeId × Nat) (r : Nat × List Xw) : (cR T r).length = 1:=rfl
@[simp] theorem hp_cRs (T : TypeId × Nat) (l : List (Nat × List Xw)) : hpLL (l.map (cR T)) = false := by
  induction l with
  | nil=>rfl
  | cons a r ih=>simp [hpLL,hpL,cR,D.hp] at ih ⊢
@[simp] theorem tk_cRs (T : TypeId × Nat) (l : List (Nat × List Xw)) : tkLL (l.map (cR T)) = true := by
  induction l with
  | nil=>rfl
  | cons a r ih=>simp [tkLL,ih,cR,tkL,D.tk]
theorem len_eQs {l l' : List Xw} (h : l'.length = l.length) : (l'.map eQ).map List.length = (l.map eQ).map List.length:=by
 simp only [List.map_map,Function.comp_def,eQ_len,List.map_const',h]
theorem nd_idx {α : Type} {l : List α} (h : l.Nodup) {i j : Nat} {a : α} (hi : l[i]? = some a) (hj : l[j]? = some a) : i = j:=by
 obtain ⟨hi',ei⟩:=Qx.1 hi
 obtain ⟨hj',ej⟩:=Qx.1 hj
 have h1:=List.pairwise_iff_getElem.1 h
 refine Xv fun hne=>?_
 rcases Nat.lt_or_gt_of_ne hne with hlt | hlt
 ·exact h1 i j hi' hj' hlt (ei.trans ej.symm)
 ·exact h1 j i hj' hi' hlt (ej.trans ei.symm)
theorem re_rowQ {φ : Nat -> Option D} {gm : Nat} {TM : Option (TypeId × Nat)} {T : TypeId × Nat} {rows : List (Nat × List Xw)} {i : Nat} {g : Nat} {r r' : List Xw} (hi : rows[i]? = some (g,r)) (hl : r'.length = r.length)
  (hnd : (rows.map (·.1)).Nodup) (hgm : φ gm = none) (hg : φ g = some (.sl (some g) (some T) (r'.map eQ))) (ho : ∀ q ∈ rows.map (·.1),q ≠ g -> φ q = none) :
  reV φ (.d (.sl (some gm) TM (rows.map (cR T)))) = .d (.sl (some gm) TM ((rows.set i (g,r')).map (cR T))):=by
 obtain ⟨hlt,he⟩:=Qx.1 hi
 have h1 : rows.map (cR T) = (rows.map (cR T)).set i (cR T (g,r)):=by
  rw [<- he,set_same (by simp [hlt])]
 rw [h1,<- set_map]
 refine re_elemD hgm ?_ (fun j e hji hj q hq=>?_) (by simp)
 ·simp only [cR,reL,reD,hg]
  rw [if_pos ⟨trivial,rfl,trivial,len_eQs hl⟩]
 ·rw [List.getElem?_map] at hj
  cases hr : rows[j]? with
  | none=>simp [hr] at hj
  | some p =>
    simp only [hr,Jg,Jx] at hj
    subst hj
    simp only [ids_cR,Qg] at hq
    subst hq
    have hpm : p ∈ rows:=Qk hr
    refine ho _ (Xz.2 ⟨p,hpm,rfl⟩) fun e=>hji ?_
    obtain ⟨hj',hjp⟩:=Qx.1 hr
    have a1 : (rows.map (·.1))[j]? = some g:=by simp [hr,e]
    have a2 : (rows.map (·.1))[i]? = some g:=by simp [hi]
    exact nd_idx hnd a1 a2
theorem re_mat {W : List Nat} {gm : Nat} {TM TM' : Option (TypeId × Nat)} {T : TypeId × Nat} {rows rows' : List (Nat × List Xw)} (hf : rows'.map (·.1) = rows.map (·.1)) (hl : rows'.map (·.2.length) = rows.map (·.2.length))
  (hnd : (rows.map (·.1)).Nodup) (hgm : gm ∉ W) (hgr : gm ∉ rows.map (·.1)) (hW : ∀ q ∈ rows.map (·.1),q ∈ W) :
  reV (phi W [.sl (some gm) TM' (rows'.map (cR T))]) (.d (.sl (some gm) TM (rows.map (cR T)))) = .d (.sl (some gm) TM (rows'.map (cR T))):=by
 refine reV_d ?_
 simp only [reD,phi_out hgm]
 have hlen : rows'.length = rows.length:=by have:=congrArg List.length hf; simpa using this
 rw [reLL_of (l':=rows'.map (cR T)) (by simpa using hlen) ?_]
 ·rfl
 intro i e e' he he'
 rw [List.getElem?_map] at he he'
 cases hr : rows[i]? with
 | none=>simp [hr] at he
 | some p =>
   cases hr' : rows'[i]? with
   | none=>simp [hr'] at he'
   | some p' =>
     simp only [hr,hr',Jg,Jx] at he he'
     subst he he'
     obtain ⟨g,r⟩:=p
     obtain ⟨g',r'⟩:=p'
     have a1 : (rows.map (·.1))[i]? = some g:=by simp [hr]
     have a2 : (rows'.map (·.1))[i]? = some g':=by simp [hr']
     rw [hf,a1] at a2
     cases a2
     have b1 : (rows.map (·.2.length))[i]? = some r.length:=by simp [hr]
     have b2 : (rows'.map (·.2.length))[i]? = some r'.length:=by simp [hr']
     rw [hl,b1] at b2
     have hlr : r'.length = r.length:=by simpa using b2.symm
     have hgm' : g ≠ gm:=fun e=>hgr (by rw [<- e]; exact Qk a1)
     have hnd' : (rows'.map (·.1)).Nodup:=by rw [hf]; exact hnd
     have hlook : ∀ (l : List (Nat × List Xw)),(l.map (·.1)).Nodup -> (g,r') ∈ l -> lookLL g (l.map (cR T)) = some (.sl (some g) (some T) (r'.map eQ)):=by
      intro l
      induction l with
      | nil=>intro _ h; cases h
      | cons x s ih =>
        intro hn hm
        simp only [Qz,List.nodup_cons] at hn
        simp only [Qz,lookLL,cR,lookL,lookD]
        rcases Zz.1 hm with rfl | hm
        ·simp
        ·have hxg : x.1 ≠ g:=fun e=>hn.1 (by rw [e]; exact Xz.2 ⟨_,hm,rfl⟩)
         rw [if_neg hxg]
         have hno : lookLL g (x.2.map eQ) = none:=by
          have : ∀ l : List Xw,lookLL g (l.map eQ) = none:=by
           intro l
           induction l with
           | nil=>rfl
           | cons a b ih=>simp [lookLL,lookL,eQ,eRat,cI,lookD,ih]
          exact this _
         rw [hno]
         exact ih hn.2 hm
     have hin:=hW g (Qk a1)
     simp only [cR,reL,reD,phi,hin,if_true,lookL,lookD]
     rw [if_neg (Ne.symm hgm'),hlook rows' hnd' (Qk hr')]
     simp only [Option.getD_some]
     rw [if_pos ⟨trivial,rfl,trivial,len_eQs hlr⟩]
theorem VC.erase {P : Program} {f : FuncId} {args : List V} {post : Nat -> V -> Prop} {v : V} (h : VC P f args post) (hv : ∀ n r,post n r -> rp (fun _=>none) r = some v) : VC P f args (fun _ r=>r = v):=by
 refine ⟨h.1,fun w vals A hg hLR=>(h.2 w vals A hg hLR).mono fun e w' he=>?_⟩
 obtain ⟨val,r,rfl,hb,hvr,_,hp⟩:=he
 have hr:=hv _ _ hp
 exact ⟨val,v,rfl,hb,VR.er _ _ _ hvr hr,rp_rd _ _ hr,rfl⟩
theorem fnL_at {l : List Xw} {i : Nat} (h : i < l.length) : fnL l i = l[i]:=by rw [fnL,gd h]
structure DotS (n : Nat) (a x : Nat -> Xw) : Prop where
 sa : ∀ k,k < n -> smQ (a k)
 sx : ∀ k,k < n -> smQ (x k)
 sm : ∀ k,k < n -> smQ (a k * x k)
 ss : ∀ k,k <= n -> smQ (dotF k a x)
theorem sm_01 {q : Xw} (h : q = 0 \/ q = 1) : smQ q:=by
 rcases h with rfl | rfl
 ·exact sm_zero
 ·exact sm_one
theorem sol_dots {n : Nat} {x : List Xw} (h : SolB n x) (hn : n <= 4) {a : Nat -> Xw} (ha : ∀ k,k < n -> a k = 0 \/ a k = 1) : DotS n a (fnL x):=by
 obtain ⟨_,D,hD,hDb,hX⟩:=h
 have hx : ∀ k,k < n -> smQ (fnL x k):=fun k hk=>by
  obtain ⟨X,h1,h2⟩:=hX k hk
  exact rb_sm (N:=67108864) (D:=2048) ⟨D,X,hD,h1,h2,hDb⟩ (by omega) (by omega)
 obtain ⟨c,hc⟩ : ∃ c : Nat,c = 67108864:=⟨_,rfl⟩
 rw [<- hc] at hX
 have hs : ∀ k,k <= n -> ∃ M : Int,dotF k a (fnL x) * (D : Xw) = (M : Xw) /\ M.natAbs <= k * c:=by
  intro k
  induction k with
  | zero=>intro _; exact ⟨0,by simp [dotF],by simp⟩
  | succ k ih =>
    intro hk
    obtain ⟨M,h1,h2⟩:=ih (by omega)
    obtain ⟨X,h3,h4⟩:=hX k (by omega)
    rcases ha k (by omega) with e | e
    ·refine ⟨M,?_,by rw [Nat.succ_mul]; omega⟩
     rw [dotF,e]; grind
    ·refine ⟨M + X,?_,by rw [Nat.succ_mul]; omega⟩
     rw [dotF,e,Rat.intCast_add]; grind
 refine ⟨fun k hk=>sm_01 (ha k hk),hx,fun k hk=>?_,fun k hk=>?_⟩
 ·rcases ha k hk with e | e
  ·rw [e,_root_.Rat.zero_mul]; exact sm_zero
  ·rw [e,_root_.Rat.one_mul]; exact hx k hk
 ·obtain ⟨M,h1,h2⟩:=hs k hk
  have h3 : k * c <= 4 * c:=Zk c (by omega)
  exact rb_sm (N:=268435456) (D:=2048) ⟨D,M,hD,h1,by omega,hDb⟩ (by omega) (by omega)
structure LPok (A : List (List Xw)) (n : Nat) : Prop where
 m01 : Mat01 A n
 n1 : 1 <= n
 n4 : n <= 4
 m1 : 1 <= A.length
 m5 : A.length <= 5
theorem LPok.sm {A : List (List Xw)} {n : Nat} (h : LPok A n) {r : List Xw} (hr : r ∈ A) : ∀ q ∈ r,smQ q:=fun q hq=>sm_01 (h.m01.z r hr q hq)
theorem rep_sm {m : Nat} : ∀ q ∈ List.replicate m (1 : Xw),smQ q:=fun q hq=>by rw [List.eq_of_mem_replicate hq]; exact sm_one
theorem LPok.dots {A : List (List Xw)} {n : Nat} {x : List Xw} (h : LPok A n) (hx : SolB n x) {r : List Xw} (hr : r ∈ A) : DotS n (fnL r) (fnL x):=
 sol_dots hx h.n4 fun k hk=>by
  have hl:=h.m01.len r hr
  rw [fnL_at (by omega)]
  exact h.m01.z r hr _ (Jy _)
theorem sol_sm {n : Nat} {x : List Xw} (h : SolB n x) (hn : n <= 4) : ∀ q ∈ x,smQ q:=fun q hq=>by
 obtain ⟨i,hi,rfl⟩:=List.mem_iff_getElem.1 hq
 have:=(sol_dots h hn (a:=fun _=>1) fun _ _=>.inr rfl).sx i (by rw [<- h.len]; exact hi)
 rwa [fnL_at hi] at this
theorem one_at {n k : Nat} (h : k < n) : fnL (List.replicate n (1 : Xw)) k = 1:=by rw [fnL_at (by simpa using h)]; simp
theorem one_dots {n : Nat} {x : List Xw} (hx : SolB n x) (hn : n <= 4) : DotS n (fnL (List.replicate n (1 : Xw))) (fnL x):=
 sol_dots hx hn fun k hk=>.inr (one_at hk)
theorem nneg_num {q : Xw} : 0 <= q ↔ 0 <= q.num:=_root_.Rat.num_nonneg.symm
theorem sumQ_eq {n : Nat} {x : List Xw} (h : x.length = n) : dotF n (fnL (List.replicate n (1 : Xw))) (fnL x) = sumQ x:=by
 rw [sumQ,h]; exact dotF_congr (fun k hk=>one_at hk) fun _ _=>rfl
def elimT (p k : Nat) (piv row : List Xw) : List Xw:=row.mapIdx fun i x=>if p <= i /\ i < k then x - fnL row p / fnL piv p * fnL piv i else x
@[simp] theorem elimT_len {p k : Nat} {piv row : List Xw} : (elimT p k piv row).length = row.length:=by simp [elimT]
theorem elimT_zero {p : Nat} {piv row : List Xw} : elimT p p piv row = row:=by
 apply List.ext_getElem (by simp)
 intro i h1 h2
 simp only [elimT,List.getElem_mapIdx]
 rw [if_neg (by omega)]
theorem elimT_all {p k : Nat} {piv row : List Xw} (h : row.length <= k) : elimT p k piv row = elimR p piv row:=by
 apply List.ext_getElem (by simp [elimR])
 intro i h1 h2
 have hi : i < row.length:=by simpa using h1
 simp only [elimT,elimR,List.getElem_mapIdx]
 by_cases e : i < p
 ·rw [if_neg (by omega),if_pos e]
 ·rw [if_pos (by omega),if_neg e]
theorem elimT_at {p k : Nat} {piv row : List Xw} (h : k < row.length) : (elimT p k piv row)[k]'(by simpa using h) = row[k]:=by
 simp only [elimT,List.getElem_mapIdx]
 rw [if_neg (by omega)]
theorem elimT_succ {p k : Nat} {piv row : List Xw} (hp : p <= k) (h : k < row.length) : elimT p (k + 1) piv row = (elimT p k piv row).set k (row[k] - fnL row p / fnL piv p * fnL piv k):=by
 apply List.ext_getElem (by simp)
 intro i h1 h2
 have hi : i < row.length:=by simpa using h1
 rw [List.getElem_set]
 simp only [elimT,List.getElem_mapIdx]
 by_cases e : k = i
 ·subst e; rw [if_pos rfl,if_pos (by omega)]
 ·rw [if_neg e]
  by_cases e2 : p <= i /\ i < k
  ·rw [if_pos e2,if_pos (by omega)]
  ·rw [if_neg e2,if_neg (by omega)]
structure ElimS (n p : Nat) (piv row : List Xw) : Prop where
 lr : row.length = n + 1
 lv : piv.length = n + 1
 hp : p <= n
 ne : fnL piv p ≠ 0
 f : smQ (fnL row p / fnL piv p)
 r : ∀ k,k <= n -> smQ (fnL row k)
 v : ∀ k,k <= n -> smQ (fnL piv k)
 q : ∀ k,k <= n -> smQ (fnL row p / fnL piv p * fnL piv k)
 d : ∀ k,k <= n -> smQ (fnL row k - fnL row p / fnL piv p * fnL piv k)
theorem elim_zero {p : Nat} {piv row : List Xw} (h : fnL row p = 0) : elimR p piv row = row:=by
 apply List.ext_getElem (by simp [elimR])
 intro i h1 h2
 simp only [elimR,List.getElem_mapIdx]
 split
 ·rfl
 ·simp only [h]; grind
def stepQ (p i : Nat) (m : List (List Xw)) : List (List Xw):=m.mapIdx fun j r=>if j < i /\ j ≠ p then elimR p (m.getD p []) r else r
@[simp] theorem stepQ_len {p i : Nat} {m : List (List Xw)} : (stepQ p i m).length = m.length:=by simp [stepQ]
theorem stepQ_zero {p : Nat} {m : List (List Xw)} : stepQ p 0 m = m:=by
 apply List.ext_getElem (by simp)
 intro i h1 h2
 simp only [stepQ,List.getElem_mapIdx]
 rw [if_neg (by omega)]
theorem stepQ_all {p i : Nat} {m : List (List Xw)} (h : m.length <= i) : stepQ p i m = stepM p m:=by
 apply List.ext_getElem (by simp [stepM])
 intro j h1 h2
 have hj : j < m.length:=by simpa using h1
 simp only [stepQ,stepM,List.getElem_mapIdx]
 by_cases e : j = p
 ·rw [if_neg (by omega),if_pos e]
 ·rw [if_pos ⟨by omega,e⟩,if_neg e]
theorem stepQ_at {p i : Nat} {m : List (List Xw)} (h : i < m.length) : (stepQ p i m)[i]'(by simpa using h) = m[i]:=by
 simp only [stepQ,List.getElem_mapIdx]
 rw [if_neg (by omega)]
theorem stepQ_piv {p i : Nat} {m : List (List Xw)} (h : p < m.length) : (stepQ p i m)[p]'(by simpa using h) = m[p]:=by
 simp only [stepQ,List.getElem_mapIdx]
 rw [if_neg (by simp)]
theorem stepQ_p {p : Nat} {m : List (List Xw)} : stepQ p (p + 1) m = stepQ p p m:=by
 apply List.ext_getElem (by simp)
 intro j h1 h2
 simp only [stepQ,List.getElem_mapIdx]
 by_cases e : j < p
 ·rw [if_pos (by omega),if_pos (by omega)]
 ·rw [if_neg (by omega),if_neg (by omega)]
theorem stepQ_succ {p i : Nat} {m : List (List Xw)} (h : i < m.length) (hp : p < m.length) (hne : i ≠ p) : stepQ p (i + 1) m = (stepQ p i m).set i (elimR p m[p] m[i]):=by
 apply List.ext_getElem (by simp)
 intro j h1 h2
 rw [List.getElem_set]
 simp only [stepQ,List.getElem_mapIdx,gd hp]
 by_cases e : i = j
 ·subst e; rw [if_pos ⟨by omega,hne⟩,if_pos rfl]
 ·rw [if_neg e]
  by_cases e2 : j < i /\ j ≠ p
  ·rw [if_pos ⟨by omega,e2.2⟩,if_pos e2]
  ·rw [if_neg (fun h=>e2 ⟨by omega,h.2⟩),if_neg e2]
theorem SafeS.elim {n p i : Nat} {m : List (List Xw)} (h : SafeS n p m) (hl : m.length = n) (hr : ∀ r ∈ m,r.length = n + 1) (hp : p < n) (hi : i < n) (hne : rowQ m p p ≠ 0) : ElimS n p (m[p]'(by omega)) (m[i]'(by omega)):=by
 have e1 : ∀ j (hj : j < n),rowQ m j = fnL (m[j]'(by omega)):=fun j hj=>by rw [rowQ,gd]
 have:=e1 p hp
 have:=e1 i hi
 refine ⟨hr _ (Jy _),hr _ (Jy _),by omega,?_,?_,fun k hk=>?_,fun k hk=>?_,fun k hk=>?_,fun k hk=>?_⟩
 ·rw [<- e1 p hp]; exact hne
 ·rw [<- e1 p hp,<- e1 i hi]; exact h.f i hi
 ·rw [<- e1 i hi]; exact h.at_ i k hi hk
 ·rw [<- e1 p hp]; exact h.at_ p k hp hk
 ·rw [<- e1 p hp,<- e1 i hi]; exact h.q i k hi hk
 ·rw [<- e1 p hp,<- e1 i hi]; exact h.d i k hi hk
theorem re_self {g : Nat} {T : TypeId × Nat} {l l' : List Xw} (h : l'.length = l.length) : reV (one g (.sl (some g) (some T) (l'.map eQ))) (.d (.sl (some g) (some T) (l.map eQ))) = .d (.sl (some g) (some T) (l'.map eQ)):=by
 refine reV_d ?_
 simp only [reD,one,if_true]
 rw [if_pos ⟨trivial,rfl,trivial,len_eQs h⟩]
theorem piv_eq {m : List (List Xw)} {p k : Nat} (hp : p <= k) (hz : ∀ j,p <= j -> j < k -> rowQ m j p = 0) (h : k = m.length \/ (k < m.length /\ rowQ m k p ≠ 0)) : pivAt m p = k:=by
 have hk : k <= m.length:=by omega
 have key : (m.drop p).findIdx (fun r=>decide (fnL r p ≠ 0)) = k - p:=by
  rcases h with h | ⟨h1,h2⟩
  ·have : (m.drop p).findIdx (fun r=>decide (fnL r p ≠ 0)) = (m.drop p).length:=by
    rw [List.findIdx_eq_length]
    intro x hx
    obtain ⟨j,hj,rfl⟩:=List.mem_iff_getElem.1 hx
    rw [List.length_drop] at hj
    have:=hz (p + j) (by omega) (by omega)
    rw [rowQ,gd (by omega)] at this
    simp only [List.getElem_drop,this,ne_eq,not_true_eq_false,decide_false]
   rw [this,List.length_drop]; omega
  ·rw [List.findIdx_eq (by rw [List.length_drop]; omega)]
   constructor
   ·simp only [List.getElem_drop,Xj]
    rw [rowQ,gd h1] at h2
    have : p + (k - p) = k:=by omega
    simp only [this]; exact h2
   ·intro j hj
    have:=hz (p + j) (by omega) (by omega)
    rw [rowQ,gd (by omega)] at this
    simp only [List.getElem_drop,this,ne_eq,not_true_eq_false,decide_false]
 unfold pivAt
 rw [key]; omega
theorem gj_none {m0 : List (List Xw)} {p : Nat} (h : gj m0 p = none) : ∀ q,p <= q -> gj m0 q = none
 | 0, hq => by have : p = 0 := by omega
               subst this; exact h
 | q + 1, hq => by
   by_cases e : p = q + 1
   ·subst e; exact h
   ·rw [gj,gj_none h q (by omega)]; rfl
theorem gj_succ {m0 m : List (List Xw)} {p : Nat} (h : gj m0 p = some m) : gj m0 (p + 1) = gjStep p m:=by rw [gj,h]; rfl
theorem sol_none {n p : Nat} {m0 m : List (List Xw)} (h : gj m0 p = some m) (hk : ¬ pivAt m p < m.length) (hp : p < n) : solQ n m0 = none:=by
 rw [solQ,gj_none (p:=p + 1) (by rw [gj_succ h,gjStep,if_neg hk]) n hp]; rfl
structure StpI (n p k : Nat) (R M : List (List Xw)) : Prop where
 kn : k < n
 pk : p <= k
 safe : SafeS n p (swapM M p k)
 len : (swapM M p k).length = n
 row : ∀ r ∈ swapM M p k,r.length = n + 1
 ne : rowQ (swapM M p k) p p ≠ 0
 nxt : gj R (p + 1) = some (stepM p (swapM M p k))
theorem stp_of {n p k : Nat} {R M : List (List Xw)} (hn : n <= 4) (hl : R.length = n) (hr : ∀ r ∈ R,r.length = n + 1) (hb : Bd n 0 R) (h : gj R p = some M) (hp : p < n) (hk : pivAt M p = k) (hkn : k < n) : StpI n p k R M:=by
 obtain ⟨g,b⟩:=gj_inv hl hr hb p (by omega) M h
 have hM:=g.len
 have hpl : pivAt M p < M.length:=by omega
 obtain ⟨h1,h2⟩:=piv_lt hpl
 rw [hk] at h1 h2
 have g2:=g.swap h1 hkn
 have b2:=Bd.swap g h1 hkn b
 have hne : rowQ (swapM M p k) p p ≠ 0:=by
  rw [rowQ,swap_get (by omega) (by omega)]
  by_cases e : p = k
  ·rw [if_pos e]; subst e; exact h2
  ·rw [if_neg e,if_pos rfl]; exact h2
 refine ⟨hkn,h1,bd_safe b2 (by omega) hp hne,g2.len,g2.row,hne,?_⟩
 rw [gj_succ h,gjStep,if_pos hpl,hk]
theorem sol_end {n : Nat} {R M : List (List Xw)} (hn : n <= 4) (hl : R.length = n) (hr : ∀ r ∈ R,r.length = n + 1) (hb : Bd n 0 R) (h : gj R n = some M) :
  M.length = n /\ (∀ r ∈ M,r.length = n + 1) /\ solQ n R = some (outM n M) /\ SolB n (outM n M) /\ (∀ p (hp : p < M.length),fnL M[p] p ≠ 0 /\ smQ (fnL M[p] p) /\ smQ (fnL M[p] n) /\ smQ (fnL M[p] n / fnL M[p] p)):=by
 obtain ⟨g,b⟩:=gj_inv hl hr hb n (Jv _) M h
 have hs : solQ n R = some (outM n M):=by rw [solQ,h]; rfl
 have hB:=sol_bd hn hl hr hb hs
 refine ⟨g.len,g.row,hs,hB,fun p hp=>?_⟩
 have hpn : p < n:=by rw [<- g.len]; exact hp
 have e : rowQ M p = fnL M[p]:=by rw [rowQ,gd hp]
 refine ⟨by rw [<- e]; exact g.piv p hpn,by rw [<- e]; exact bd_at b hn hpn (by omega),by rw [<- e]; exact bd_at b hn hpn (Jv _),?_⟩
 have:=(sol_dots hB hn (a:=fun _=>1) fun _ _=>.inr rfl).sx p hpn
 rw [fnL,gd (by simpa [outM] using hpn)] at this
 simpa [outM,e] using this
theorem phi_single {g : Nat} {T : Option (TypeId × Nat)} {es : List (List D)} : phi [g] [.sl (some g) T es] = one g (.sl (some g) T es):=by
 funext j
 by_cases e : j = g
 ·subst e; simp [phi,one,lookL,lookD]
 ·simp [phi,one,e]
theorem re_rowout {φ : Nat -> Option D} {g : Nat} {T : Option (TypeId × Nat)} {l : List Xw} (h : φ g = none) : reV φ (.d (.sl (some g) T (l.map eQ))) = .d (.sl (some g) T (l.map eQ)):=by
 simp [reV,reD,h]
theorem re_mset {gm : Nat} {TM : TypeId × Nat} {es : List (List D)} {i : Nat} {e' : List D} (h : i < es.length) (h1 : e'.length = es[i].length) : reV (one gm (.sl (some gm) (some TM) (es.set i e'))) (.d (.sl (some gm) (some TM) es)) = .d (.sl (some gm) (some TM) (es.set i e')):=
 re_oneSet2 (by simp [List.getD,h,h1])
def swapR (R : List (Nat × List Xw)) (p k : Nat) : List (Nat × List Xw):=(R.set p (R.getD k (0,[]))).set k (R.getD p (0,[]))
theorem swapR_snd {R : List (Nat × List Xw)} {p k : Nat} : (swapR R p k).map (·.2) = swapM (R.map (·.2)) p k:=by
 simp only [swapR,swapM,List.map_set]
 have e : ∀ i,(R.map (·.2)).getD i [] = (R.getD i (0,[])).2:=fun i=>by
  simp only [List.getD_eq_getElem?_getD,List.getElem?_map]
  cases R[i]? <;> rfl
 rw [e,e]
theorem swapR_len {R : List (Nat × List Xw)} {p k : Nat} : (swapR R p k).length = R.length:=by simp [swapR]
theorem swapR_perm {R : List (Nat × List Xw)} {p k : Nat} (hp : p < R.length) (hk : k < R.length) : (swapR R p k).Perm R:=by
 have : swapR R p k = (R.set p R[k]).set k R[p]:=by rw [swapR,gd hp,gd hk]
 rw [this]
 exact List.set_set_perm hp hk
theorem app_last {r : List Xw} {n : Nat} (h : r.length = n + 1) : r.take n ++ [fnL r n] = r:=by
 rw [fnL_at (by omega),List.take_append_getElem (by omega)]
 exact Jj (by omega)
theorem swapR_set {R : List (Nat × List Xw)} {p k : Nat} (hp : p < R.length) (hk : k < R.length) : swapR R p k = (R.set p R[k]).set k R[p]:=by rw [swapR,gd hp,gd hk]
theorem swapR_set2 {R : List (Nat × List Xw)} {p k : Nat} (hp : p < R.length) (hk : k < R.length) : swapR R p k = (R.set k R[p]).set p R[k]:=by
 rw [swapR_set hp hk]
 by_cases e : p = k
 ·subst e; rfl
 ·rw [List.set_comm _ _ e]
theorem combs_none {α : Type} : ∀ {n : Nat} {l : List α},l.length < n -> combs n l = []
 | 0,_,h=>by omega
 | n + 1,[],_=>rfl
 | n + 1, a :: l, h => by
   simp only [Qv] at h
   rw [combs,combs_none (n:=n) (by omega),combs_none (n:=n + 1) (by omega)]; rfl
theorem combs_map {α β : Type} (f : α -> β) : ∀ (n : Nat) (l : List α),combs n (l.map f) = (combs n l).map (·.map f)
 | 0,_=>by simp [combs]
 | n + 1,[]=>rfl
 | n + 1, a :: l => by
   rw [Qz,combs,combs,combs_map f n l,combs_map f (n + 1) l,Zj,List.map_map,List.map_map]
   rfl
theorem combs_len {α : Type} : ∀ (n : Nat) (l : List α),(combs n l).length <= 2 ^ l.length
 | 0,l=>by simp [combs,Nat.one_le_two_pow]
 | n + 1,[]=>by simp [combs]
 | n + 1, a :: l => by
   have h1:=combs_len n l
   have h2:=combs_len (n + 1) l
   rw [combs,Qw,List.length_map,Qv,Nat.pow_succ]
   omega
def rgF (a b : Nat) : List Nat:=List.range' a (b - a)
theorem rgF_cons {a b : Nat} (h : a < b) : rgF a b = a :: rgF (a + 1) b:=by
 unfold rgF
 obtain ⟨k,hk⟩ : ∃ k,b - a = k + 1:=⟨b - a - 1,by omega⟩
 rw [hk,List.range'_succ]
 congr 2; omega
theorem rgF_len {a b : Nat} : (rgF a b).length = b - a:=by simp [rgF]
theorem rgF_mem {a b x : Nat} (h : x ∈ rgF a b) : a <= x /\ x < b:=by
 simp only [rgF,List.mem_range'_1] at h
 omega
theorem combs_rg {n a b : Nat} (h : a < b) : combs (n + 1) (rgF a b) = (combs n (rgF (a + 1) b)).map (a :: ·) ++ combs (n + 1) (rgF (a + 1) b):=by
 rw [rgF_cons h,combs]
theorem combs_end {n a b : Nat} (h : b < a + n) (h0 : 0 < n) : combs n (rgF a b) = []:=combs_none (by rw [rgF_len]; omega)
theorem combs_sub {n a b : Nat} {c : List Nat} (h : c ∈ combs n (rgF a b)) : c.length = n /\ ∀ x ∈ c,a <= x /\ x < b:=by
 obtain ⟨h1,h2⟩:=combs_mem.1 h
 exact ⟨h2,fun x hx=>rgF_mem (h1.subset hx)⟩
theorem combs_le {n a b : Nat} (h : b <= 9) : (combs n (rgF a b)).length <= 512:=by
 have h1:=combs_len n (rgF a b)
 rw [rgF_len] at h1
 have h2 : 2 ^ (b - a) <= 2 ^ 9:=Nat.pow_le_pow_right (by omega) (by omega)
 omega
def intsN (c : List Nat) : List Int:=c.map Int.ofNat
@[simp] theorem intsN_len (c : List Nat) : (intsN c).length = c.length:=by simp [intsN]
theorem intsN_at {c : List Nat} {i : Nat} (h : i < c.length) : (intsN c)[i]'(by simpa using h) = (c[i] : Int):=by simp [intsN]
def rowsA (AR : List (List Xw)) (c : List Nat) : List (List Xw):=c.map fun i=>AR.getD i []
theorem rowsA_len {AR : List (List Xw)} {c : List Nat} : (rowsA AR c).length = c.length:=by simp [rowsA]
theorem rowsA_mem {AR : List (List Xw)} {c : List Nat} (h : ∀ i ∈ c,i < AR.length) {r : List Xw} (hr : r ∈ rowsA AR c) : r ∈ AR:=by
 obtain ⟨i,hi,rfl⟩:=Xz.1 hr
 exact getD_mem' (h i hi)
theorem rg_all (AR : List (List Xw)) : (rgF 0 AR.length).map (fun i=>AR.getD i []) = AR:=by
 apply List.ext_getElem (by simp [rgF])
 intro i h1 h2
 simp [rgF,List.getD,h2]
theorem combs_AR (n : Nat) (AR : List (List Xw)) : combs n AR = (combs n (rgF 0 AR.length)).map (rowsA AR):=by
 conv=>lhs; rw [<- rg_all AR]
 rw [combs_map]
 rfl
theorem augR_len {A : List (List Xw)} {n : Nat} : (augR A n).length = A.length + n:=by simp [augR]
theorem augR_lo {A : List (List Xw)} {n i : Nat} (h : i < A.length) : (augR A n).getD i [] = A[i] ++ [1]:=by
 rw [gd (by rw [augR_len]; omega)]
 simp only [augR]
 rw [List.getElem_append_left (by simpa using h)]; simp
theorem augR_hi {A : List (List Xw)} {n i : Nat} (h : A.length <= i) (h2 : i < A.length + n) : (augR A n).getD i [] = unitR n (i - A.length) ++ [0]:=by
 rw [gd (by rw [augR_len]; omega)]
 simp only [augR]
 rw [List.getElem_append_right (by simpa using h)]; simp
theorem take_app {r : List Xw} {n : Nat} {b : Xw} (h : r.length = n) : (r ++ [b]).take n = r /\ fnL (r ++ [b]) n = b:=
 ⟨by rw [List.take_append_of_le_length (by omega),Jj (by omega)],(app_get h).2⟩
theorem unitR_len {n j : Nat} : (unitR n j).length = n:=by simp [unitR]
def foldC (A : List (List Xw)) (n : Nat) (c : List Nat) (a : Nat) (out : List (List Xw)) : List (List Xw):=
 ((combs (n - c.length) (rgF a (A.length + n))).map fun s=>rowsA (augR A n) (c ++ s)).foldl (ptStep A n) out
theorem foldC_full {A : List (List Xw)} {n : Nat} {c : List Nat} {a : Nat} {out : List (List Xw)} (h : c.length = n) : foldC A n c a out = ptStep A n out (rowsA (augR A n) c):=by
 unfold foldC
 rw [show n - c.length = 0 by omega]
 simp [combs]
theorem foldC_step {A : List (List Xw)} {n : Nat} {c : List Nat} {a : Nat} {out : List (List Xw)} (h : c.length < n) (ha : a < A.length + n) : foldC A n c a out = foldC A n c (a + 1) (foldC A n (c ++ [a]) (a + 1) out):=by
 unfold foldC
 obtain ⟨k,hk⟩ : ∃ k,n - c.length = k + 1:=⟨n - c.length - 1,by omega⟩
 rw [hk,combs_rg ha,Zj,List.foldl_append,List.map_map]
 have e : n - (c ++ [a]).length = k:=by simp; omega
 rw [e]
 congr 2
 apply List.map_congr_left
 intro s _
 simp
theorem foldC_end {A : List (List Xw)} {n : Nat} {c : List Nat} {a : Nat} {out : List (List Xw)} (h : c.length < n) (ha : A.length + n <= a) : foldC A n c a out = out:=by
 unfold foldC
 rw [combs_end (by omega) (by omega)]; rfl
theorem foldC_all (A : List (List Xw)) (n : Nat) : foldC A n [] 0 [] = ptsQ A n:=by
 unfold foldC ptsQ
 rw [combs_AR,augR_len]
 simp
theorem ptStep_len {A : List (List Xw)} {n : Nat} {out M : List (List Xw)} : (ptStep A n out M).length <= out.length + 1:=by
 unfold ptStep
 split
 ·split
  ·unfold addPt; split <;> simp
  ·omega
 ·omega
theorem fold_len {A : List (List Xw)} {n : Nat} : ∀ (l : List (List (List Xw))) (out : List (List Xw)),(l.foldl (ptStep A n) out).length <= out.length + l.length
 | [],out=>by simp
 | M :: l, out => by
   have:=fold_len (A:=A) (n:=n) l (ptStep A n out M)
   have:=ptStep_len (A:=A) (n:=n) (out:=out) (M:=M)
   simp only [List.foldl_cons,Qv]
   omega
theorem unit_set {n i : Nat} : (List.replicate n (0 : Xw)).set i 1 = unitR n i:=by
 apply List.ext_getElem (by simp [unitR])
 intro k h1 h2
 simp only [List.getElem_set,unitR,List.getElem_map,List.getElem_range,List.getElem_replicate]
 by_cases e : i = k
 ·subst e; simp
 ·rw [if_neg e,if_neg (Ne.symm e)]
def cntC (A : List (List Xw)) (n : Nat) (c : List Nat) (a : Nat) : Nat:=(combs (n - c.length) (rgF a (A.length + n))).length
theorem cntC_step {A : List (List Xw)} {n : Nat} {c : List Nat} {a : Nat} (h : c.length < n) (ha : a < A.length + n) : cntC A n c a = cntC A n (c ++ [a]) (a + 1) + cntC A n c (a + 1):=by
 unfold cntC
 obtain ⟨k,hk⟩ : ∃ k,n - c.length = k + 1:=⟨n - c.length - 1,by omega⟩
 have e : n - (c ++ [a]).length = k:=by simp; omega
 rw [hk,combs_rg ha,e]
 simp
theorem foldC_len {A : List (List Xw)} {n : Nat} {c : List Nat} {a : Nat} {out : List (List Xw)} : (foldC A n c a out).length <= out.length + cntC A n c a:=by
 unfold foldC cntC
 have:=fold_len (A:=A) (n:=n) ((combs (n - c.length) (rgF a (A.length + n))).map fun s=>rowsA (augR A n) (c ++ s)) out
 simpa using this
theorem cntC_full {A : List (List Xw)} {n : Nat} {c : List Nat} {a : Nat} (h : c.length = n) : cntC A n c a = 1:=by
 unfold cntC
 rw [show n - c.length = 0 by omega]
 simp [combs]
theorem cntC_all {A : List (List Xw)} {n : Nat} (h : A.length + n <= 9) : cntC A n [] 0 <= 512:=by
 unfold cntC
 exact combs_le h
theorem pts_sol {A : List (List Xw)} {n : Nat} (h : LPok A n) : ∀ x ∈ ptsQ A n,SolB n x:=fun x hx=>by
 obtain ⟨M,h1,h2,h3,_⟩:=pts_mem.1 hx
 have hr : ∀ r ∈ M,r.length = n + 1:=fun r hr=>aug_len h.m01 r (h1.subset hr)
 have h01 : ∀ r ∈ M,∀ q ∈ r,q = 0 \/ q = 1:=fun r hr=>aug_01 h.m01 r (h1.subset hr)
 exact sol_bd h.n4 h2 hr (bd_01 h2 h01) h3
theorem pts_len {A : List (List Xw)} {n : Nat} (h : LPok A n) : (ptsQ A n).length <= 512:=by
 have h1:=h.n4
 have h2:=h.m5
 have:=foldC_len (A:=A) (n:=n) (c:=[]) (a:=0) (out:=[])
 rw [foldC_all] at this
 have:=cntC_all (A:=A) (n:=n) (by omega)
 simp at *
 omega
theorem sum_sm {n : Nat} {x : List Xw} (hx : SolB n x) (hn : n <= 4) : smQ (sumQ x):=by
 rw [<- sumQ_eq hx.len]
 exact (one_dots hx hn).ss n (Jv _)
def bestT (l : List (List Xw)) (i : Nat) : Option (List Xw × Xw):=(l.take i).foldl bestS none
theorem bestT_zero {l : List (List Xw)} : bestT l 0 = none:=rfl
theorem bestT_succ {l : List (List Xw)} {i : Nat} (h : i < l.length) : bestT l (i + 1) = bestS (bestT l i) l[i]:=by
 rw [bestT,Jz h,List.foldl_append]; rfl
theorem bestT_all {l : List (List Xw)} : bestT l l.length = bestQ l:=by rw [bestT,Jj (Jv _)]; rfl
theorem bestT_sum {l : List (List Xw)} {i : Nat} {p : List Xw × Xw} (h : bestT l i = some p) : p.2 = sumQ p.1 /\ p.1 ∈ l.take i:=by
 have:=(best_fold (l.take i) none (fun p h=>by cases h)).1 p h
 exact ⟨this.1,this.2.1.resolve_right (by simp)⟩
def ptV (b : Option (List Xw × Xw)) : D:=match b with
 | none=>.pl []
 | some p=>.pl (p.1.map eQ)
theorem r01_eQ (b : Bool) : eQ (r01 b) = [.int .i64 (if b then 1 else 0),.int .i64 1]:=by cases b <;> rfl
theorem bag_facts {q : PQuery} {b : List Int} (hq : queryOk q = true) (hb : bagI q.n b = true) : 1 <= b.length /\ b.length <= 5 /\ 1 <= q.atoms.length /\ q.atoms.length <= 4 /\ covered q.atoms b:=by
 simp only [queryOk,Jq] at hq
 obtain ⟨⟨⟨⟨h1,h2⟩,_⟩,_⟩,h5⟩:=hq
 simp only [bagI,Jq,Xj] at hb
 obtain ⟨⟨b1,_⟩,b3⟩:=hb
 simp only [setOf,Jq,Xj,Jk] at b3
 obtain ⟨b4,b5⟩:=b3
 simp only [inR,Jq,Xj] at h1 h2
 have hw : IntKind.i64.wrap (q.n - 1) = q.n - 1:=wrap64_of (by omega) (by omega)
 have hr : ∀ x ∈ b,0 <= x /\ x < q.n:=fun x hx=>by
  have:=b4 x hx
  simp only [inR,Jq,Xj,hw] at this
  omega
 have hlen:=nodup_len q.n.toNat b b5 (fun x hx=>by have:=hr x hx; omega)
 refine ⟨b1,by omega,by omega,by omega,fun v hv=>?_⟩
 have hv2:=hr v hv
 simp only [usesAll,Jk,Zg] at h5
 have h6:=h5 v.toNat (by omega)
 rw [show ((v.toNat : Nat) : Int) = v by omega,List.contains_eq_mem,Xj,varsIn,List.mem_flatMap] at h6
 obtain ⟨a,ha,hva⟩:=h6
 exact ⟨a,ha,hva⟩
theorem bag_lp {q : PQuery} {b : List Int} (hq : queryOk q = true) (hb : bagI q.n b = true) : LPok (covM q.atoms b) q.atoms.length:=by
 obtain ⟨h1,h2,h3,h4,h5⟩:=bag_facts hq hb
 exact ⟨covM_01 h5,h3,h4,by simpa [covM] using h1,by simpa [covM] using h2⟩
theorem wid_some {q : PQuery} {b : List Int} (hq : queryOk q = true) (hb : bagI q.n b = true) : ∃ p,minQ (covM q.atoms b) q.atoms.length = some p /\ p.2 = widQ q.atoms b:=by
 obtain ⟨p,h1,h2,_⟩:=wid_min (bag_facts hq hb).2.2.2.2
 exact ⟨p,h1,h2⟩
def bcwV (q : PQuery) (b : List Int) : V:=if queryOk q && bagI q.n b then .tup [.agg [.d (.int .i64 (widQ q.atoms b).num),.d (.int .i64 ((widQ q.atoms b).den : Int))],.d (.bool true)] else .tup [.agg [.d (.int .i64 0),.d (.int .i64 0)],.d (.bool false)]
theorem wid_sm {q : PQuery} {b : List Int} (hq : queryOk q = true) (hb : bagI q.n b = true) : smQ (widQ q.atoms b) /\ 1 <= widQ q.atoms b:=by
 obtain ⟨p,h1,h2⟩:=wid_some hq hb
 have h:=bag_lp hq hb
 obtain ⟨f1,_,_,_,f5⟩:=bag_facts hq hb
 have h3 : p.2 = sumQ p.1 /\ p.1 ∈ ptsQ (covM q.atoms b) q.atoms.length:=by
  have:=bestT_sum (l:=ptsQ (covM q.atoms b) q.atoms.length) (i:=(ptsQ (covM q.atoms b) q.atoms.length).length) (p:=p) (by rw [bestT_all]; exact h1)
  rw [Jj (Jv _)] at this
  exact this
 refine ⟨?_,wid_one f5 fun e=>by rw [e] at f1; simp at f1⟩
 rw [<- h2,h3.1]
 exact sum_sm (pts_sol h _ h3.2) h.n4
def mxS (a w : Xw) : Xw:=if a < w then w else a
def mxT (q : PQuery) (l : List (List Int)) (i : Nat) : Xw:=((l.take i).map (widQ q.atoms)).foldl mxS 0
def decW (q : PQuery) (d : PDec) : Xw:=mxT q d.bags d.bags.length
theorem dec_facts {q : PQuery} {d : PDec} (h : decOk q d = true) : queryOk q = true /\ ∀ b ∈ d.bags,bagI q.n b = true:=by
 simp only [decOk,Jq,Jk] at h
 exact ⟨h.1.1.1.1.1,h.1.1.2⟩
theorem dec_n1 {q : PQuery} (h : queryOk q = true) : 1 <= q.n /\ q.n <= 5:=by
 simp only [queryOk,Jq] at h
 obtain ⟨⟨⟨⟨h1,_⟩,_⟩,_⟩,_⟩:=h
 simp only [inR,Jq,Xj] at h1
 exact h1
theorem fst_some {o l : List Int} : ∀ (m k r : Nat),fstIn o l m k = some r -> k <= r /\ r < k + m /\ o.getD r 0 ∈ l /\ ∀ j,k <= j -> j < r -> o.getD j 0 ∉ l
 | 0,_,_,h=>by simp [fstIn] at h
 | m + 1, k, r, h => by
   simp only [fstIn] at h
   by_cases hc : l.contains (o.getD k 0) = true
   ·rw [if_pos hc] at h
    obtain rfl:=Option.some.inj h
    exact ⟨Jv _,by omega,by simpa using hc,fun j h1 h2=>by omega⟩
   ·rw [if_neg hc] at h
    obtain ⟨h1,h2,h3,h4⟩:=fst_some m (k + 1) r h
    refine ⟨by omega,by omega,h3,fun j h5 h6=>?_⟩
    by_cases he : j = k
    ·subst he; simpa using hc
    ·exact h4 j (by omega) h6
theorem fst_none {o l : List Int} : ∀ (m k : Nat),fstIn o l m k = none -> ∀ j,k <= j -> j < k + m -> o.getD j 0 ∉ l
 | 0,_,_,j,h1,h2=>by omega
 | m + 1, k, h, j, h1, h2 => by
   simp only [fstIn] at h
   by_cases hc : l.contains (o.getD k 0) = true
   ·rw [if_pos hc] at h; cases h
   ·rw [if_neg hc] at h
    by_cases he : j = k
    ·subst he; simpa using hc
    ·exact fst_none m (k + 1) h j (by omega) (by omega)
theorem up_facts (q : PQuery) (o : List Int) {i : Nat} (hi : i < o.length) : (i + 1 = o.length /\ dcUp q o i = -1) \/
  ∃ j : Nat,dcUp q o i = j /\ i < j /\ j < o.length /\ i + 1 < o.length /\ ∀ k,i < k -> k < o.length -> o.getD k 0 ∈ dcBag q o i -> o.getD j 0 ∈ dcBag q o i /\ j <= k:=by
 by_cases he : i + 1 = o.length
 ·exact .inl ⟨he,by rw [dcUp,if_pos he]⟩
 ·refine .inr ?_
  cases hf : fstIn o (dcBag q o i) (o.length - (i + 1)) (i + 1) with
  | none =>
    refine ⟨i + 1,by rw [dcUp,if_neg he,hf]; rfl,by omega,by omega,by omega,fun k h1 h2 h3=>?_⟩
    exact absurd h3 (fst_none _ _ hf k (by omega) (by omega))
  | some r =>
    obtain ⟨h1,h2,h3,h4⟩:=fst_some _ _ _ hf
    refine ⟨r,by rw [dcUp,if_neg he,hf],by omega,by omega,by omega,fun k h5 h6 h7=>⟨h3,?_⟩⟩
    refine Nat.le_of_not_lt fun hlt=>?_
    exact h4 k (by omega) hlt h7
def upsL (q : PQuery) (o : List Int) : List Int:=(List.range o.length).map (dcUp q o)
def bagsL (q : PQuery) (o : List Int) : List (List Int):=(List.range o.length).map (dcBag q o)
theorem ups_len (q : PQuery) (o : List Int) : (upsL q o).length = o.length:=by simp [upsL]
theorem ups_at (q : PQuery) (o : List Int) {i : Nat} (hi : i < o.length) : (upsL q o).getD i 0 = dcUp q o i:=by
 simp [upsL,List.getD_eq_getElem?_getD,hi]
theorem bags_at (q : PQuery) (o : List Int) {i : Nat} (hi : i < o.length) : (bagsL q o).getD i [] = dcBag q o i:=by
 simp [bagsL,List.getD_eq_getElem?_getD,hi]
theorem up_in (q : PQuery) (o : List Int) {i : Nat} (hi : i < o.length) : inR (dcUp q o i) (-1) (((upsL q o).length : Int) - 1) = true:=by
 rw [ups_len]
 simp only [inR,Jq,Xj]
 rcases up_facts q o hi with ⟨h1,h2⟩ | ⟨j,h1,h2,h3,_,_⟩
 ·omega
 ·omega
theorem up_end (q : PQuery) (o : List Int) : ∀ (m i : Nat),i < o.length -> o.length - i < m -> endNeg (upI (upsL q o) m (i : Int)) = true
 | 0,i,_,h=>by omega
 | m + 1, i, hi, h => by
   have hx : nxP (upsL q o) (i : Int) = dcUp q o i:=by rw [nxP]; simpa using ups_at q o hi
   rw [upI,if_neg (by omega),hx,if_pos (up_in q o hi)]
   rcases up_facts q o hi with ⟨h1,h2⟩ | ⟨j,h1,h2,h3,_,_⟩
   ·rw [h2]
    obtain ⟨m,rfl⟩ : ∃ k,m = k + 1:=⟨m - 1,by omega⟩
    rfl
   ·rw [h1]
    exact up_end q o m j h3 (by omega)
theorem up_tree (q : PQuery) (o : List Int) (h : 0 < o.length) : treeB (upsL q o) = true:=by
 simp only [treeB,Jq,Jk,Zg,Xj]
 refine ⟨fun i hi=>?_,?_⟩
 ·rw [ups_len] at hi
  have hx : nxP (upsL q o) (i : Int) = dcUp q o i:=by rw [nxP]; simpa using ups_at q o hi
  simp only [treeAt,Jq]
  exact ⟨by rw [hx]; exact up_in q o hi,up_end q o _ i hi (by rw [ups_len]; omega)⟩
 ·obtain ⟨n,hn⟩ : ∃ k,o.length = k + 1:=⟨o.length - 1,by omega⟩
  rw [rootsN,upsL,hn,List.range_succ,Zj,List.filter_append,Qw]
  have h1 : (List.map (dcUp q o) (List.range n)).filter (fun p=>decide (p < 0)) = []:=by
   rw [List.filter_eq_nil_iff]
   intro a ha
   obtain ⟨i,hi,rfl⟩:=Xz.1 ha
   have hi:=Zg.1 hi
   rcases up_facts q o (i:=i) (by omega) with ⟨h1,h2⟩ | ⟨j,h1,h2,h3,_,_⟩
   ·omega
   ·simp [h1]
  have h2 : dcUp q o n = -1:=by rw [dcUp,if_pos (by omega)]
  rw [h1]
  simp [h2]
theorem dcM_mono (q : PQuery) (o : List Int) (a b : Int) {i : Nat} : ∀ {j : Nat},i <= j -> dcM q o i a b = true -> dcM q o j a b = true
 | 0,h,e=>by rw [Nat.le_zero.1 h] at e; exact e
 | j + 1, h, e => by
   by_cases he : i = j + 1
   ·rw [<- he]; exact e
   ·rw [dcM_succ,dcM_mono q o a b (by omega) e]; rfl
theorem pw_asc {b : List Int} (h : b.Pairwise (· < ·)) : ascB b = true:=by
 simp only [ascB,Jk,Zg]
 intro i hi
 simp only [ascAt,Xx,Xj]
 by_cases h0 : i = 0
 ·exact .inl h0
 ·refine .inr ?_
  rw [getD_el _ hi,getD_el _ (show i - 1 < b.length by omega)]
  exact List.pairwise_iff_getElem.1 h (i - 1) i (by omega) hi (by omega)
theorem dcBag_ok {q : PQuery} {o : List Int} (h : Od q o) {i : Nat} (hi : i < o.length) : bagI q.n (dcBag q o i) = true:=by
 have h5:=h.n5
 simp only [bagI,Jq,Xj]
 refine ⟨⟨?_,pw_asc filter_pw⟩,?_⟩
 ·have : o[i] ∈ dcBag q o i:=(bag_mem h hi _).2 (.inl rfl)
  exact List.length_pos_of_mem this
 ·simp only [setOf,Jq,Jk,Xj]
  refine ⟨fun x hx=>?_,pw_nodup filter_pw⟩
  have:=rangeI_mem.1 (List.mem_filter.1 hx).1
  rw [wrap64_of (by omega) (by omega)]
  simp only [inR,Jq,Xj]
  omega
theorem least (P : Nat -> Prop) : ∀ n,P n -> ∃ i,P i /\ i <= n /\ ∀ k,k < i -> ¬ P k:=by
 intro n
 induction n using Nat.strongRecOn with
 | ind n ih =>
   intro hn
   by_cases hk : ∃ k,k < n /\ P k
   ·obtain ⟨k,h1,h2⟩:=hk
    obtain ⟨i,h3,h4,h5⟩:=ih k h1 h2
    exact ⟨i,h3,by omega,h5⟩
   ·exact ⟨n,hn,Jv _,fun k h1 h2=>hk ⟨k,h1,h2⟩⟩
theorem dc_cover {q : PQuery} {o : List Int} (h : Od q o) {a : PAtom} (ha : a ∈ q.atoms) : anyIn (bagsL q o) a = true:=by
 have h5:=h.n5
 have hao : atomOk q.n a = true:=by
  have:=h.qok
  simp only [queryOk,Jq,Jk] at this
  exact this.1.2 a ha
 have hlen : 0 < o.length:=by have:=h.len; omega
 have hrg:=fun w hw=>atom_in h.qok a ha w hw
 have key : ∃ i,i < o.length /\ insD a (dcBag q o i) = true:=by
  by_cases hv : a.vars = []
  ·exact ⟨0,hlen,by simp [insD,hv]⟩
  ·obtain ⟨v,hv⟩:=List.exists_mem_of_ne_nil _ hv
   obtain ⟨p,hp,hpv⟩:=List.mem_iff_getElem.1 (h.all (hrg v hv).1 (hrg v hv).2)
   obtain ⟨i,h1,h2,h3⟩:=least (fun k=>o.getD k 0 ∈ a.vars) p (by show _ ∈ _; rw [getD_el _ hp,hpv]; exact hv)
   have hi : i < o.length:=by omega
   rw [getD_el _ hi] at h1
   refine ⟨i,hi,?_⟩
   simp only [insD,Jk,Zw]
   intro w hw
   rw [bag_mem h hi,lat_mem h hi]
   by_cases he : w = o[i]
   ·exact .inl he
   ·refine .inr ⟨(hrg w hw).1,(hrg w hw).2,dcM_mono q o _ _ (Nat.zero_le i) ?_,fun ht=>?_⟩
    ·show nbrB q o[i] w = true
     simp only [nbrB,Jq,Bool.not_eq_true',decide_eq_false_iff_not,List.any_eq_true,Zw]
     exact ⟨he,a,ha,h1,hw⟩
    ·obtain ⟨k,hk,hkw⟩:=List.mem_iff_getElem.1 ht
     rw [Zq] at hk
     rw [List.getElem_take] at hkw
     have:=h3 k (by omega)
     rw [getD_el _ (by omega),hkw] at this
     exact this hw
 obtain ⟨i,hi,hb⟩:=key
 simp only [anyIn,List.any_eq_true]
 exact ⟨dcBag q o i,Xz.2 ⟨i,Zg.2 hi,rfl⟩,by rw [inAB_eq h5 hao]; exact hb⟩
theorem one_len (p : Nat) : ∀ n,((List.range n).filter fun i=>decide (i = p)).length = if p < n then 1 else 0
 | 0=>by simp
 | n + 1 => by
   rw [List.range_succ,List.filter_append,Qw,one_len p n]
   by_cases h : n = p
   ·subst h; simp
   ·by_cases h2 : p < n
    ·simp [h,h2]; omega
    ·simp [h,h2]; omega
theorem take_lt {o : List Int} (h : o.Nodup) {p i : Nat} (hp : p < o.length) : o[p] ∈ o.take i ↔ p < i:=by
 constructor
 ·intro hm
  obtain ⟨k,hk,e⟩:=List.mem_iff_getElem.1 hm
  rw [Zq] at hk
  rw [List.getElem_take] at e
  have:=nodup_inj h (by omega) hp e
  omega
 ·intro hlt
  exact List.mem_iff_getElem.2 ⟨p,by rw [Zq]; omega,List.getElem_take⟩
theorem dc_top {q : PQuery} {o : List Int} (h : Od q o) {p : Nat} (hp : p < o.length) {i : Nat} (hi : i < o.length) : topIs (bagsL q o) (upsL q o) o[p] i = decide (i = p):=by
 have hrp:=h.rng _ (Jy hp)
 rw [topIs,bags_at q o hi,ups_at q o hi]
 by_cases he : i = p
 ·subst he
  rw [decide_eq_true rfl,Jq,Zw,Xx,Xj]
  refine ⟨(bag_mem h hi _).2 (.inl rfl),?_⟩
  rcases up_facts q o hi with ⟨_,h2⟩ | ⟨j,h1,h2,h3,_,_⟩
  ·exact .inl (by omega)
  ·refine .inr ?_
   rw [h1,Int.toNat_natCast,bags_at q o h3,Bool.not_eq_true',<- Bool.not_eq_true,Zw,bag_mem h h3,lat_mem h h3]
   rintro (e | ⟨_,_,_,e⟩)
   ·have:=nodup_inj h.nd hi h3 e; omega
   ·exact e ((take_lt h.nd hi).2 h2)
 ·rw [decide_eq_false he]
  by_cases hb : o[p] ∈ dcBag q o i
  ·have hlt : i < p:=by
    rcases (bag_mem h hi _).1 hb with e | e
    ·exact absurd (nodup_inj h.nd hp hi e).symm he
    ·have:=((lat_mem h hi _).1 e).2.2.2
     rw [take_lt h.nd hp] at this
     omega
   rcases up_facts q o hi with ⟨h1,h2⟩ | ⟨j,h1,h2,h3,_,h6⟩
   ·omega
   ·obtain ⟨h7,h8⟩:=h6 p hlt hp (by rw [getD_el _ hp]; exact hb)
    rw [getD_el _ h3] at h7
    have : o[p] ∈ dcBag q o j:=by
     rw [bag_mem h h3,lat_mem h h3]
     by_cases e : j = p
     ·subst e; exact .inl rfl
     ·have hne : ¬ o[j] = o[p]:=fun e'=>e (nodup_inj h.nd h3 hp e')
      refine .inr ⟨hrp.1,hrp.2,dcM_mono q o _ _ (show i + 1 <= j by omega) ?_,by rw [take_lt h.nd hp]; omega⟩
      rw [dcM_succ]
      have hj:=h.rng _ (Jy h3)
      have e1:=(dcI_iff h hi hj.1 hj.2).2 ((bag_mem h hi _).1 h7)
      have e2:=(dcI_iff h hi hrp.1 hrp.2).2 ((bag_mem h hi _).1 hb)
      rw [e1,e2,decide_eq_false hne]
      simp
    rw [h1,Int.toNat_natCast,bags_at q o h3]
    simp [this]
  ·simp [hb]
theorem dc_ok {q : PQuery} {o : List Int} (h : ordOk q o = true) : decOk q (dcP q o) = true:=by
 have hd:=od_of h
 have hlen : 0 < o.length:=by have:=hd.len; have:=hd.n5; omega
 have hdc : dcP q o = ⟨bagsL q o,upsL q o⟩:=by rw [dcP,if_pos h]; rfl
 rw [hdc]
 simp only [decOk,Jq,Xj,Jk,Zg]
 refine ⟨⟨⟨⟨⟨hd.qok,by simp [bagsL,upsL]⟩,up_tree q o hlen⟩,fun b hb=>?_⟩,fun a ha=>dc_cover hd ha⟩,fun v hv=>?_⟩
 ·obtain ⟨i,hi,rfl⟩:=Xz.1 hb
  exact dcBag_ok hd (Zg.1 hi)
 ·obtain ⟨p,hp,e⟩:=List.mem_iff_getElem.1 (hd.all (v:=(v : Int)) (by omega) (by have:=hd.n5; omega))
  have hbl : (bagsL q o).length = o.length:=by simp [bagsL]
  rw [topN,hbl,<- e,List.filter_congr (q:=fun i=>decide (i = p)) fun i hi=>dc_top hd hp (Zg.1 hi),one_len,if_pos hp]
def frO (n : Nat) (p : List Int) : List Int:=(rangeI n).filter fun v=>!p.contains v
def extO (n : Nat) (p : List Int) : List (List Int):=(frO n p).map fun v=>p ++ [v]
def levO (n : Nat) : Nat -> List (List Int)
 | 0=>[[]]
 | k + 1=>(levO n k).flatMap (extO n)
def allO (q : PQuery) : List (List Int):=if queryOk q then levO q.n.toNat q.n.toNat else []
def bdS (q : PQuery) (s : Option (List Int)) (o : List Int) : Option (List Int):=match s with
 | none=>some o
 | some c=>if decW q (dcP q o) < decW q (dcP q c) then some o else some c
def bdT (q : PQuery) (i : Nat) : Option (List Int):=((allO q).take i).foldl (bdS q) none
def bdD (q : PQuery) : Option (List Int) -> PDec
 | none=>⟨[],[]⟩
 | some o=>dcP q o
def bdR (q : PQuery) : Option (List Int) -> List V
 | none=>[.d (.int .i64 0),.d (.int .i64 0)]
 | some o=>[.d (.int .i64 (decW q (dcP q o)).num),.d (.int .i64 ((decW q (dcP q o)).den : Int))]
theorem dec_bags {q : PQuery} {o : List Int} (h : ordOk q o = true) : (∀ b ∈ (dcP q o).bags,bagI q.n b = true) /\ (dcP q o).bags.length = o.length /\ (dcP q o).par.length = o.length /\ 0 < o.length /\ o.length <= 5:=by
 have hd:=od_of h
 have h1:=(dec_facts (dc_ok h)).2
 have h2:=hd.len
 have h3:=hd.n5
 refine ⟨h1,?_,?_,by omega,by omega⟩ <;> simp [dcP,h]
theorem nodup_sub : ∀ (l m : List Int),l.Nodup -> (∀ x ∈ l,x ∈ m) -> l.length <= m.length
 | [],_,_,_=>Nat.zero_le _
 | a :: r, m, hn, hs => by
   obtain ⟨h1,h2⟩:=List.nodup_cons.1 hn
   have ha:=hs a (by simp)
   have ih:=nodup_sub r (m.erase a) h2 fun x hx=>(List.mem_erase_of_ne (by rintro rfl; exact h1 hx)).2 (hs x (List.mem_cons_of_mem _ hx))
   have:=List.length_pos_of_mem ha
   rw [List.length_erase_of_mem ha] at ih
   simp only [Qv]; omega
section
variable {S : Nat -> Prop} {w : World}
end
def vrOk (b : PVRel) : Bool:=(List.range b.vars.length).all (bagAt 5 b.vars) && (rowsOk b.rel.ar b.rel.rows && decide (b.rel.ar = b.vars.length))
def njL (a b : PVRel) : List (List Int):=joinL (uniL a.vars b.vars) a.vars a.rel.rows b.vars b.rel.rows
def njB (a b : PVRel) : Bool:=vrOk a && vrOk b && decide ((njL a b).length <= 4000)
def njP (a b : PVRel) : PVRel:=if njB a b then ⟨uniL a.vars b.vars,⟨(uniL a.vars b.vars).length,srtU (njL a b)⟩⟩ else ⟨[],⟨0,[]⟩⟩
def prG (r : PReln) (cols : List Int) : Bool:=rowsOk r.ar r.rows && colsOk r.ar cols
def prL (r : PReln) (cols : List Int) : List (List Int):=r.rows.map (pickR cols)
def prB (r : PReln) (cols : List Int) : Bool:=prG r cols && newB cols.length (prL r cols)
def prP (r : PReln) (cols : List Int) : PReln:=if prG r cols then newR cols.length (prL r cols) else ⟨0,[]⟩
def comC (a b : List Int) : List Int:=(comL a b).map (idxL a)
def pjV (b : PVRel) (bag : List Int) : PVRel:=⟨comL b.vars bag,prP b.rel (comC b.vars bag)⟩
def abV (d : PDb) (a : PAtom) : PVRel:=⟨aVars a.vars,⟨(aVars a.vars).length,abR d a⟩⟩
def brS (d : PDb) (bag : List Int) (s : Option PVRel) (a : PAtom) : Option PVRel:=match s with
 | none=>none
 | some v=>if comL (aVars a.vars) bag = [] then some v else if njB v (pjV (abV d a) bag) then some (njP v (pjV (abV d a) bag)) else none
def brT (d : PDb) (q : PQuery) (bag : List Int) (i : Nat) : Option PVRel:=(q.atoms.take i).foldl (brS d bag) (some ⟨[],⟨0,[[]]⟩⟩)
def brO (d : PDb) (q : PQuery) (bag : List Int) : Option PVRel:=if qryFor d q && bagI q.n bag then brT d q bag q.atoms.length else none
def ovR : Option PVRel -> PVRel
 | none=>⟨[],⟨0,[]⟩⟩
 | some v=>v
theorem brT_zero (d : PDb) (q : PQuery) (bag : List Int) : brT d q bag 0 = some ⟨[],⟨0,[[]]⟩⟩:=rfl
theorem brT_succ (d : PDb) (q : PQuery) (bag : List Int) {i : Nat} (h : i < q.atoms.length) : brT d q bag (i + 1) = brS d bag (brT d q bag i) q.atoms[i]:=by
 rw [brT,Jz h,List.foldl_append]; rfl
theorem brT_none {d : PDb} {q : PQuery} {bag : List Int} {i : Nat} (h : brT d q bag i = none) : ∀ j,i <= j -> brT d q bag j = none:=by
 intro j hj
 have key : ∀ l : List PAtom,l.foldl (brS d bag) none = none:=fun l=>by
  induction l with
  | nil=>rfl
  | cons a r ih=>simpa [brS] using ih
 have e : q.atoms.take j = q.atoms.take i ++ (q.atoms.take j).drop i:=by
  have:=(List.take_append_drop i (q.atoms.take j)).symm
  rwa [List.take_take,Nat.min_eq_left hj] at this
 rw [brT,e,List.foldl_append,<- brT,h,key]
theorem vAsc_pw {l : List Int} (h : (List.range l.length).all (bagAt 5 l) = true) : l.Pairwise (· < ·) /\ ∀ x ∈ l,0 <= x /\ x < 5:=by
 simp only [bagAt,Jk,Jq,Zg] at h
 refine ⟨asc_pw (by simp only [ascB,Jk,Zg]; exact fun i hi=>(h i hi).2),fun x hx=>?_⟩
 obtain ⟨i,hi,rfl⟩:=List.getElem_of_mem hx
 have:=(h i hi).1
 rw [getD_el _ hi,show IntKind.i64.wrap (5 - 1) = 4 by decide] at this
 simp only [inR,Jq,Xj] at this
 omega
theorem pw_vAsc {l : List Int} (h : l.Pairwise (· < ·)) (hm : ∀ x ∈ l,0 <= x /\ x < 5) : (List.range l.length).all (bagAt 5 l) = true:=by
 simp only [bagAt,Jk,Jq,Zg]
 intro i hi
 have:=hm _ (Jy hi)
 refine ⟨?_,?_⟩
 ·rw [getD_el _ hi,show IntKind.i64.wrap (5 - 1) = 4 by decide]
  simp only [inR,Jq,Xj]
  omega
 ·simp only [ascAt,Xx,Xj]
  rcases Nat.eq_zero_or_pos i with h0 | h0
  ·exact .inl h0
  ·right
   rw [getD_el _ hi,getD_el _ (show i - 1 < l.length by omega)]
   exact List.pairwise_iff_getElem.1 h (i - 1) i (by omega) hi (by omega)
structure VrF (b : PVRel) : Prop where
 pw : b.vars.Pairwise (· < ·)
 rng : ∀ x ∈ b.vars,0 <= x /\ x < 5
 len : b.vars.length <= 5
 ar : b.rel.ar = b.vars.length
 rl : ∀ r ∈ b.rel.rows,r.length = b.vars.length /\ valsOk r = true
 nr : b.rel.rows.length <= 4000
 srt : Srt b.rel.rows
theorem vrF_of {b : PVRel} (h : vrOk b = true) : VrF b:=by
 simp only [vrOk,Jq,Xj] at h
 obtain ⟨h1,h2,h3⟩:=h
 obtain ⟨p1,p2⟩:=vAsc_pw h1
 have hs:=rowsOk_srt h2
 have hm : ∀ r ∈ b.rel.rows,(r.length : Int) = b.rel.ar /\ valsOk r = true:=fun r hr=>rowsOk_mem h2 hr
 refine ⟨p1,p2,pw_len5 p1 p2,h3,fun r hr=>?_,?_,hs⟩
 ·have:=hm r hr; exact ⟨by omega,this.2⟩
 ·simp only [rowsOk,Jq,Xj] at h2; exact h2.1.2
theorem nd_sub {α : Type} [BEq α] [LawfulBEq α] : ∀ (l m : List α),l.Nodup -> (∀ x ∈ l,x ∈ m) -> l.length <= m.length
 | [],_,_,_=>Nat.zero_le _
 | a :: r, m, hn, hs => by
   obtain ⟨h1,h2⟩:=List.nodup_cons.1 hn
   have ha:=hs a (by simp)
   have ih:=nd_sub r (m.erase a) h2 fun x hx=>(List.mem_erase_of_ne (by rintro rfl; exact h1 hx)).2 (hs x (List.mem_cons_of_mem _ hx))
   have:=List.length_pos_of_mem ha
   rw [List.length_erase_of_mem ha] at ih
   simp only [Qv]; omega
theorem srtU_nd {l : List (List Int)} (h : l.Nodup) : (srtU l).length = l.length:=
 Nat.le_antisymm (srtU_len l) (nd_sub l _ h fun x hx=>(srtU_mem l x).2 hx)
theorem srt_ndR {l : List (List Int)} (h : Srt l) : l.Nodup:=h.imp fun {a b} h e=>by subst e; rw [cmpL_self] at h; omega
theorem lookV_mem {a r : List Int} {v : Int} (hv : v ∈ a) (hl : r.length = a.length) : lookV a r v ∈ r:=by
 have:=(idxL_mem hv).1
 rw [lookV,getD_el _ (show (idxL a v).toNat < r.length by omega)]
 exact Jy _
theorem glO_back {u a r b s x : List Int} (ha : a.Nodup) (hb : b.Nodup) (hu : ∀ v,v ∈ u ↔ v ∈ a \/ v ∈ b) (hr : r.length = a.length) (hs : s.length = b.length) (h : glO u a r b s = some x) :
  r = a.map (lookV u x) /\ s = b.map (lookV u x):=by
 rw [glO] at h
 split at h
 ·rename_i hg
  obtain rfl:=Option.some.inj h
  have hgv : ∀ v ∈ u,v ∈ a -> v ∈ b -> lookV a r v = lookV b s v:=fun v h1 h2 h3=>by
   have:=(Jk.1 hg) v h1
   simpa [glV,Zw,h2,h3] using this
  constructor
  ·conv=>lhs; rw [<- map_lookV ha hr]
   refine map_congr_mem.2 fun v hv=>?_
   rw [glR,lookV_map _ ((hu v).2 (.inl hv))]
   simp [Zw,hv]
  ·conv=>lhs; rw [<- map_lookV hb hs]
   refine map_congr_mem.2 fun v hv=>?_
   rw [glR,lookV_map _ ((hu v).2 (.inr hv))]
   by_cases hva : v ∈ a
   ·simp [Zw,hva,hgv v ((hu v).2 (.inr hv)) hva hv]
   ·simp [Zw,hva]
 ·cases h
theorem uni_mem {a b : PVRel} (fa : VrF a) (x : Int) : x ∈ uniL a.vars b.vars ↔ x ∈ a.vars \/ x ∈ b.vars:=(uniL_pw b.vars fa.pw).2 x
theorem nj_nodup {a b : PVRel} (fa : VrF a) (fb : VrF b) : (njL a b).Nodup:=by
 have hu:=uni_mem (b:=b) fa
 have na:=pw_nodup fa.pw
 have nb:=pw_nodup fb.pw
 have bk : ∀ r ∈ a.rel.rows,∀ s ∈ b.rel.rows,∀ x,glO (uniL a.vars b.vars) a.vars r b.vars s = some x -> r = a.vars.map (lookV (uniL a.vars b.vars) x) /\ s = b.vars.map (lookV (uniL a.vars b.vars) x):=
  fun r hr s hs x h=>glO_back na nb hu (fa.rl r hr).1 (fb.rl s hs).1 h
 have n1:=srt_ndR fa.srt
 have n2:=srt_ndR fb.srt
 rw [njL,joinL]
 refine List.pairwise_flatMap.2 ⟨fun r hr=>?_,?_⟩
 ·refine List.pairwise_filterMap.2 (n2.imp_of_mem fun {s s'} hs hs' hne x hx y hy e=>?_)
  subst e
  exact hne ((bk r hr s hs x hx).2.trans (bk r hr s' hs' x hy).2.symm)
 ·refine n1.imp_of_mem fun {r r'} hr hr' hne x hx y hy e=>?_
  subst e
  obtain ⟨s,hs,h1⟩:=List.mem_filterMap.1 hx
  obtain ⟨s',hs',h2⟩:=List.mem_filterMap.1 hy
  exact hne ((bk r hr s hs x h1).1.trans (bk r' hr' s' hs' x h2).1.symm)
theorem nj_row {a b : PVRel} (fa : VrF a) (fb : VrF b) : ∀ x ∈ njL a b,x.length = (uniL a.vars b.vars).length /\ valsOk x = true:=fun x hx=>by
 refine ⟨join_len x hx,?_⟩
 rw [njL,joinL] at hx
 simp only [List.mem_flatMap,List.mem_filterMap,glO] at hx
 obtain ⟨r,hr,s,hs,h⟩:=hx
 split at h
 ·obtain rfl:=Option.some.inj h
  obtain ⟨l1,v1⟩:=fa.rl r hr
  obtain ⟨l2,v2⟩:=fb.rl s hs
  simp only [valsOk,Jk] at v1 v2 ⊢
  intro y hy
  rw [glR,Xz] at hy
  obtain ⟨v,hv,rfl⟩:=hy
  rcases (uni_mem fa v).1 hv with h' | h'
  ·simp only [Zw,h',if_true]
   exact v1 _ (lookV_mem h' l1)
  ·split
   ·rename_i hc; exact v1 _ (lookV_mem (Zw.1 hc) l1)
   ·exact v2 _ (lookV_mem h' l2)
 ·cases h
theorem uni_len5 {a b : PVRel} (fa : VrF a) (fb : VrF b) : (uniL a.vars b.vars).length <= 5:=
 pw_len5 (uniL_pw b.vars fa.pw).1 fun x hx=>by
  rcases (uni_mem fa x).1 hx with h | h
  ·exact fa.rng x h
  ·exact fb.rng x h
theorem nj_new {a b : PVRel} (fa : VrF a) (fb : VrF b) : newB (uniL a.vars b.vars).length (njL a b) = decide ((njL a b).length <= 4000):=by
 have h5:=uni_len5 fa fb
 rw [newB_of (by simp only [inR,Jq,Xj]; omega) (fun x hx=>by
  have:=nj_row fa fb x hx; exact ⟨by omega,this.2⟩),srtU_nd (nj_nodup fa fb)]
theorem njP_spec {a b : PVRel} (ha : vrOk a = true) (hb : vrOk b = true) : njB a b = newB (uniL a.vars b.vars).length (njL a b) /\
  njP a b = if newB (uniL a.vars b.vars).length (njL a b) then ⟨uniL a.vars b.vars,newR (uniL a.vars b.vars).length (njL a b)⟩ else ⟨[],⟨0,[]⟩⟩:=by
 have h:=nj_new (vrF_of ha) (vrF_of hb)
 have e : njB a b = newB (uniL a.vars b.vars).length (njL a b):=by rw [h,njB,ha,hb]; rfl
 refine ⟨e,?_⟩
 rw [njP,e]
 split
 ·rename_i hn; rw [newR,if_pos hn]
 ·rfl
theorem uni_flt {a b : List Int} (ha : a.Pairwise (· < ·)) (ra : ∀ x ∈ a,0 <= x /\ x < 5) (rb : ∀ x ∈ b,0 <= x /\ x < 5) : (rangeI 5).filter (fun v=>a.contains v || b.contains v) = uniL a b:=by
 have hu:=uniL_pw b ha
 refine pw_ext (List.Pairwise.filter _ (rangeI_pw 5)) hu.1 fun x=>?_
 rw [List.mem_filter,rangeI_mem,hu.2 x]
 simp only [Xx,Zw]
 constructor
 ·exact fun h=>h.2
 ·intro h
  refine ⟨?_,h⟩
  rcases h with h | h
  ·have:=ra x h; omega
  ·have:=rb x h; omega
theorem pick_com {a b r : List Int} : pickR (comC a b) r = (comL a b).map (lookV a r):=by
 rw [pickR,comC,List.map_map]; rfl
theorem pick_com2 {a b s : List Int} : pickR ((comL a b).map (idxL b)) s = (comL a b).map (lookV b s):=by
 rw [pickR,List.map_map]; rfl
theorem com_gl {u a b r s : List Int} (hu : ∀ v,v ∈ u ↔ v ∈ a \/ v ∈ b) : pickR (comC a b) r = pickR ((comL a b).map (idxL b)) s ↔ glB u a r b s = true:=by
 rw [pick_com,pick_com2,map_congr_mem]
 simp only [comL,List.mem_filter,Zw,glB,Jk,glV,Bool.not_eq_true',Bool.and_eq_false_iff]
 constructor
 ·intro h v hv
  by_cases h1 : v ∈ a
  ·by_cases h2 : v ∈ b
   ·simp [h v ⟨h1,h2⟩]
   ·simp [h2]
  ·simp [h1]
 ·intro h v ⟨h1,h2⟩
  have:=h v ((hu v).2 (.inl h1))
  simpa [h1,h2] using this
def abF (vs row : List Int) : List Int:=(aVars vs).map (lookV vs row)
def abZ (vs : List Int) (rows : List (List Int)) : List (List Int):=(rows.filter (fitR vs)).map (abF vs)
theorem abZ_succ {vs : List Int} {rows : List (List Int)} {i : Nat} (h : i < rows.length) : abZ vs (rows.take (i + 1)) = abZ vs (rows.take i) ++ if fitR vs rows[i] then [abF vs rows[i]] else []:=by
 rw [abZ,abZ,Jz h,List.filter_append,Zj]
 cases hf : fitR vs rows[i] <;> simp [hf]
theorem abZ_len (vs : List Int) (rows : List (List Int)) : (abZ vs rows).length <= rows.length:=by
 rw [abZ,List.length_map]; exact Xy _ _
theorem abZ_eq {vs : List Int} (hv : ∀ v ∈ vs,0 <= v /\ v < 5) (rows : List (List Int)) : abZ vs rows = abL vs rows:=by
 rw [abZ,abL]
 refine List.map_congr_left fun row hr=>?_
 have hf : row = vs.map (lookV vs row):=(of_decide_eq_true (List.mem_filter.1 hr).2).symm
 rw [abF,val_pick (lookV vs row) hf hv]
theorem abF_len (vs row : List Int) : (abF vs row).length = (aVars vs).length:=by simp [abF]
theorem abF_at {vs row : List Int} {v : Int} (h : v ∈ aVars vs) : (abF vs row).getD (idxL (aVars vs) v).toNat 0 = lookV vs row v:=lookV_map (lookV vs row) h
theorem ab_new {d : PDb} {nm : List UInt8} {vs : List Int} (hlk : lkB d nm = true) (har : (lkR d nm).ar = vs.length) (hv5 : vs.length <= 5) (hv : ∀ v ∈ vs,0 <= v /\ v < 5) :
  newB (aVars vs).length (abZ vs (lkR d nm).rows) = true /\ newR (aVars vs).length (abZ vs (lkR d nm).rows) = ⟨(aVars vs).length,abR d ⟨nm,vs⟩⟩:=by
 have hr:=lk_ok hlk
 have h16:=lk_rows hlk
 have ha5:=aVars_len5 vs
 have hl:=abZ_len vs (lkR d nm).rows
 have hb : newB (aVars vs).length (abZ vs (lkR d nm).rows) = true:=by
  rw [newB_of (by simp only [inR,Jq,Xj]; omega) (fun x hx=>?_)]
  ·have:=srtU_len (abZ vs (lkR d nm).rows)
   exact decide_eq_true (by omega)
  ·rw [abZ,Xz] at hx
   obtain ⟨row,hrow,rfl⟩:=hx
   have hm:=rowsOk_mem hr (List.mem_filter.1 hrow).1
   refine ⟨by rw [abF_len],?_⟩
   simp only [valsOk,Jk] at hm ⊢
   intro y hy
   rw [abF,Xz] at hy
   obtain ⟨v,hvv,rfl⟩:=hy
   exact hm.2 _ (lookV_mem (aVars_mem.1 hvv).1 (by omega))
 refine ⟨hb,?_⟩
 rw [newR,if_pos hb,abZ_eq hv]; rfl
structure VI (b : List Int) (i : Nat) : Prop where
 le : i <= b.length
 al : ∀ j,j < i -> bagAt 5 b j = true
theorem VI.zero {b : List Int} : VI b 0:=⟨by omega,fun j h=>by omega⟩
theorem VI.step {b : List Int} {i : Nat} (h : VI b i) (hi : i < b.length) (hb : bagAt 5 b i = true) : VI b (i + 1):=
 ⟨by omega,fun j hj=>by
  rcases Nat.lt_succ_iff_lt_or_eq.1 hj with h' | h'
  ·exact h.al j h'
  ·exact h' ▸ hb⟩
theorem VI.done {b : PVRel} {i : Nat} (h : VI b.vars i) (hi : b.vars.length <= i) : vrOk b = (rowsOk b.rel.ar b.rel.rows && decide (b.rel.ar = b.vars.length)):=by
 have : (List.range b.vars.length).all (bagAt 5 b.vars) = true:=by
  simp only [Jk,Zg]; exact fun j hj=>h.al j (by omega)
 rw [vrOk,this,Bool.true_and]
theorem vr_bad {b : PVRel} {i : Nat} (hi : i < b.vars.length) (hb : bagAt 5 b.vars i = false) : vrOk b = false:=by
 have : (List.range b.vars.length).all (bagAt 5 b.vars) = false:=by
  rw [List.all_eq_false]; exact ⟨i,Zg.2 hi,by simp [hb]⟩
 rw [vrOk,this,Zh]
theorem comL_succ {a b : List Int} {i : Nat} (h : i < a.length) : comL (a.take (i + 1)) b = comL (a.take i) b ++ if b.contains a[i] then [a[i]] else []:=by
 rw [comL,comL,Jz h,List.filter_append]
 cases hc : b.contains a[i] <;> simp only [List.filter_cons,List.filter_nil,hc] <;> rfl
theorem comL_len (a b : List Int) : (comL a b).length <= a.length:=Xy _ _
theorem comL_nil (b : List Int) : comL [] b = []:=rfl
theorem idxL_get {a : List Int} (h : a.Nodup) {i : Nat} (hi : i < a.length) : idxL a a[i] = (i : Int):=by
 have h1:=idxL_self h i hi
 have h2:=idxL_ge a a[i]
 have h3 : a.contains a[i] = true:=by simp
 rw [h3] at h2
 have:=of_decide_eq_true h2
 omega
theorem jnI_le {u a : List Int} {rows : List (List Int)} {b : List Int} {list : List (List Int)} {k j : Nat} (hk : k <= 4000) (hj : j <= 4000) (hl : list.length <= 4000) : (jnI u a rows b list k j).length <= 16004000:=by
 rw [jnI,Qw]
 have h1:=join_size (u:=u) (a:=a) (b:=b) (rows:=rows.take k) (list:=list)
 have h2:=List.length_filterMap_le (fun s=>glO u a (rows.getD k []) b s) (list.take j)
 have h3 : (rows.take k).length <= 4000:=by rw [Zq]; omega
 have h4 : (list.take j).length <= 4000:=by rw [Zq]; omega
 have h5:=Nat.mul_le_mul h3 hl
 omega
theorem join_le {u a b : List Int} {rows list : List (List Int)} (h3 : rows.length <= 4000) (hl : list.length <= 4000) : (joinL u a rows b list).length <= 16000000:=
 Zy join_size (Nat.mul_le_mul h3 hl)
def lvU (a b : List Int) (i : Nat) : List Int:=(rangeI i).filter fun v=>a.contains v || b.contains v
theorem lvU_succ (a b : List Int) (i : Nat) : lvU a b (i + 1) = lvU a b i ++ if a.contains (i : Int) || b.contains (i : Int) then [(i : Int)] else []:=by
 rw [lvU,lvU,rangeI_succ,List.filter_append]
 cases hc : (a.contains (i : Int) || b.contains (i : Int)) <;> simp only [List.filter_cons,List.filter_nil,hc] <;> rfl
theorem lvU_len (a b : List Int) (i : Nat) : (lvU a b i).length <= i:=by
 have:=Xy (fun v=>a.contains v || b.contains v) (rangeI i)
 rwa [rangeI_len] at this
theorem glR_get {u a r b s : List Int} {i : Nat} (h : i < u.length) : (glR u a r b s)[i]'(by simpa [glR] using h) = if a.contains u[i] then lookV a r u[i] else lookV b s u[i]:=by
 simp [glR]
theorem join_mono {u a b : List Int} {rows list : List (List Int)} (k : Nat) : (joinL u a (rows.take k) b list).length <= (joinL u a rows b list).length:=by
 conv=>rhs; rw [<- List.take_append_drop k rows]
 rw [joinL,joinL,List.flatMap_append,Qw]
 omega
theorem nj_ok {a b : PVRel} (h : njB a b = true) : vrOk (njP a b) = true:=by
 have h':=h
 simp only [njB,Jq] at h'
 have fa:=vrF_of h'.1.1
 have fb:=vrF_of h'.1.2
 have hs:=njP_spec h'.1.1 h'.1.2
 rw [h] at hs
 have hn:=hs.1.symm
 rw [njP,if_pos h]
 simp only [newB,Jq] at hn
 have hu:=uniL_pw b.vars fa.pw
 simp only [vrOk,Jq,Xj]
 refine ⟨pw_vAsc hu.1 fun x hx=>?_,hn.2,trivial⟩
 rcases (hu.2 x).1 hx with h1 | h1
 ·exact fa.rng x h1
 ·exact fb.rng x h1
theorem br_okT {d : PDb} {q : PQuery} {bag : List Int} : ∀ {i : Nat} {v : PVRel},i <= q.atoms.length -> brT d q bag i = some v -> vrOk v = true
 | 0, v, _, h => by
   rw [brT_zero] at h
   obtain rfl:=Option.some.inj h
   decide
 | i + 1, v, hi, h => by
   rw [brT_succ d q bag (by omega)] at h
   cases hb : brT d q bag i with
   | none=>rw [hb] at h; cases h
   | some c =>
     rw [hb] at h
     simp only [brS] at h
     split at h
     ·obtain rfl:=Option.some.inj h; exact br_okT (by omega) hb
     ·split at h
      ·rename_i hn; obtain rfl:=Option.some.inj h; exact nj_ok hn
      ·cases h
theorem br_ok {d : PDb} {q : PQuery} {bag : List Int} {v : PVRel} (h : brO d q bag = some v) : vrOk v = true:=by
 rw [brO] at h
 split at h
 ·exact br_okT (Jv _) h
 ·cases h
section
variable {α : Type} [Inhabited α]
omit [Inhabited α] in
omit [Inhabited α] in
omit [Inhabited α] in
omit [Inhabited α] in
end
def dpN (ps : List Int) (i : Nat) : Nat:=(pathS ps (ps.length + 1) (i : Int)).length
structure TreeF (ps : List Int) (rt : Nat) : Prop where
 hr : rt < ps.length
 rp : ps.getD rt 0 = -1
 par : ∀ i,i < ps.length -> i ≠ rt -> ∃ p : Nat,p < ps.length /\ ps.getD i 0 = (p : Int) /\ dpN ps i = dpN ps p + 1
 dl : ∀ i,i < ps.length -> dpN ps i <= ps.length
section
variable {ps : List Int} {rt : Nat} (T : TreeF ps rt)
include T
omit T in
end
def semR (a b : PVRel) (r : List Int) : Bool:=b.rel.rows.any fun s=>glB (uniL a.vars b.vars) a.vars r b.vars s
def smB (a b : PVRel) : Bool:=vrOk a && vrOk b
def smP (a b : PVRel) : PVRel:=if smB a b then ⟨a.vars,⟨a.rel.ar,a.rel.rows.filter (semR a b)⟩⟩ else ⟨[],⟨0,[]⟩⟩
def f1 (a b : PVRel) : Option PVRel:=some (smP a b)
def f2 (a b : PVRel) : Option PVRel:=if njB a b then some (njP a b) else none
section
variable {α : Type} [Inhabited α]
end
theorem bag_rng {n : Int} {b : List Int} (hn : 1 <= n /\ n <= 5) (h : bagI n b = true) : b.Pairwise (· < ·) /\ ∀ y ∈ b,0 <= y /\ y < n:=by
 simp only [bagI,setOf,Jq,Jk,Xj] at h
 refine ⟨asc_pw h.1.2,fun y hy=>?_⟩
 have:=h.2.1 y hy
 rw [wrap64_of (by omega) (by omega)] at this
 simp only [inR,Jq,Xj] at this
 omega
end Go.Vs
