/-
  A part of a proof of this seat: a value-level semantics of Go code without maps, walks, plain lemmas. It holds of all that its hypotheses name.
-/
import Derived.Test.YtgjfmjiildjelaaGreatDoorDJ1A4
set_option linter.unusedSimpArgs false
set_option linter.unusedVariables false
set_option linter.unnecessarySimpa false
namespace Go.Vs
section
variable {α : Type} [Inhabited α]
theorem sS (f : α -> α -> Option α) (p : Nat) : ∀ (l m : List Nat) (L : List α),twK f p (l ++ m) L = (twK f p l L).bind (twK f p m)
 | [],m,L=>rfl
 | c :: r, m, L => by
   rw [List.cons_append,twK,twK]
   cases f (L.getD p default) (L.getD c default) with
   | none=>rfl
   | some v=>simp only [Option.bind_some]; exact sS f p r m _
theorem sQ (f : α -> α -> Option α) (kids : Nat -> List Nat) : ∀ (l m : List Nat) (L : List α),twB f kids (l ++ m) L = (twB f kids l L).bind (twB f kids m)
 | [],m,L=>rfl
 | c :: r, m, L => by
   rw [List.cons_append,twB,twB]
   cases twK f c (kids c) L with
   | none=>rfl
   | some v=>simp only [Option.bind_some]; exact sQ f kids r m _
theorem sR {f : α -> α -> Option α} {kids : Nat -> List Nat} : ∀ {l : List Nat} {L M : List α},twB f kids l L = some M -> M.length = L.length
 | [],L,M,h=>by obtain rfl:=Option.some.inj h; rfl
 | c :: r, L, M, h => by
   rw [twB] at h
   cases hv : twK f c (kids c) L with
   | none=>rw [hv] at h; cases h
   | some v=>rw [hv] at h; have h1:=sR h; have h2:=oE hv; omega
theorem vb {f : α -> α -> Option α} {p : Nat} {l : List Nat} {L M : List α} {i : Nat} (hi : i < l.length) (h : twK f p (l.take i) L = some M) :
  twK f p (l.take (i + 1)) L = (f (M.getD p default) (M.getD l[i] default)).map fun v=>M.set p v:=by
 rw [Jz hi,sS,h,Option.bind_some,twK]
 cases f (M.getD p default) (M.getD l[i] default) <;> rfl
theorem u7 {f : α -> α -> Option α} {kids : Nat -> List Nat} {l : List Nat} {L M : List α} {i : Nat} (hi : i < l.length) (h : twB f kids (l.take i) L = some M) :
  twB f kids (l.take (i + 1)) L = twK f l[i] (kids l[i]) M:=by
 rw [Jz hi,sQ,h,Option.bind_some,twB]
 cases twK f l[i] (kids l[i]) M <;> rfl
theorem u9 {f : α -> α -> Option α} {p : Nat} {l : List Nat} {L : List α} {i : Nat} (h : twK f p (l.take i) L = none) : twK f p l L = none:=by
 conv=>lhs; rw [<- List.take_append_drop i l]
 rw [sS,h]; rfl
theorem u6 {f : α -> α -> Option α} {kids : Nat -> List Nat} {l : List Nat} {L : List α} {i : Nat} (h : twB f kids (l.take i) L = none) : twB f kids l L = none:=by
 conv=>lhs; rw [<- List.take_append_drop i l]
 rw [sQ,h]; rfl
end
theorem Bf {d : PDb} {q : ab} {x : PDec} {L0 : List aG} (h : rlO d q x = some L0) : evL d q x = (twS f1 (parN x.par) (ordP x.par) L0).bind (twS f2 (parN x.par) (ordP x.par)):=by rw [evL,h]
theorem HC {ps : List Int} {rt : Nat} (T : dK ps rt) (hrt : rtN ps = rt) : ∀ c ∈ ordP ps,c < ps.length /\ c ≠ rt /\ parN ps c < ps.length /\ ps.getD c 0 = (parN ps c : Int):=fun c hc=>by
 rw [ordP,hrt] at hc
 have hp : c ∈ bw (kidN ps) (ps.length + 2) rt:=by rw [gP]; exact List.mem_append_left _ hc
 have h1:=(T.post_facts _ rt T.hr c hp).1
 have hn:=T.post_nd (ps.length + 2) rt T.hr
 rw [gP] at hn
 have hne : c ≠ rt:=fun e=>(List.nodup_append.1 hn).2.2 c hc rt (by simp) e
 have h2:=T.par_kid h1 hne
 exact ⟨h1,hne,h2.1,h2.2.2.1⟩
theorem dR {α : Type} [Inhabited α] {l : List α} {i : Nat} (h : i < l.length) : l.getD i default = l[i]:=by simp [h]
def BH (v : Int) : Prop:=(0 <= v /\ v <= 5) \/ v < 0 \/ 99 <= v
def dmW (r : bE) : Prop:=r.rows.length <= 9 /\ ∀ t ∈ r.rows,∀ v ∈ t,BH v
def doms : List Int:=[0,1,2,3,4,5,99]
theorem Hq {v : Int} (h : BH v) (hr : 0 <= v /\ v <= 99) : v ∈ doms:=by
 simp only [BH] at h
 have : v = 0 \/ v = 1 \/ v = 2 \/ v = 3 \/ v = 4 \/ v = 5 \/ v = 99:=by omega
 simp only [doms,Zz,List.not_mem_nil,or_false]; exact this
def allT : Nat -> List (List Int)
 | 0=>[[]]
 | n + 1=>doms.flatMap fun v=>(allT n).map (v :: ·)
theorem th : ∀ n,(allT n).length = 7 ^ n
 | 0=>rfl
 | n + 1 => by
   rw [allT,List.length_flatMap]
   simp only [List.length_map,th n,doms]
   simp [Nat.pow_succ]; omega
theorem ti : ∀ {n : Nat} {z : List Int},z.length = n -> (∀ v ∈ z,v ∈ doms) -> z ∈ allT n
 | 0,[],_,_=>by simp [allT]
 | n + 1, v :: z, hl, hv => by
   rw [allT,List.mem_flatMap]
   exact ⟨v,hv v (by simp),Xz.2 ⟨z,ti (by simpa using hl) fun u hu=>hv u (List.mem_cons_of_mem _ hu),rfl⟩⟩
theorem pI {α : Type} [DecidableEq α] : ∀ {l l' : List α},l.Nodup -> (∀ x ∈ l,x ∈ l') -> l.length <= l'.length
 | [],_,_,_=>by simp
 | a :: l, l', hn, h => by
   obtain ⟨h1,h2⟩:=List.nodup_cons.1 hn
   have ha:=h a (by simp)
   have:=pI (l:=l) (l':=l'.erase a) h2 fun x hx=>(List.mem_erase_of_ne fun e=>h1 (by rw [<- e]; exact hx)).2 (h x (List.mem_cons_of_mem _ hx))
   rw [List.length_erase_of_mem ha] at this
   have:=List.length_pos_of_mem ha
   simp only [Qv]; omega
theorem q9 {α β : Type} {f : α -> β} : ∀ {l : List α},l.Nodup -> (∀ x ∈ l,∀ y ∈ l,f x = f y -> x = y) -> (l.map f).Nodup
 | [],_,_=>by simp
 | a :: l, hn, h => by
   obtain ⟨h1,h2⟩:=List.nodup_cons.1 hn
   rw [Qz,List.nodup_cons]
   refine ⟨fun hm=>?_,q9 h2 fun x hx y hy=>h x (List.mem_cons_of_mem _ hx) y (List.mem_cons_of_mem _ hy)⟩
   obtain ⟨b,hb,e⟩:=Xz.1 hm
   have:=h b (List.mem_cons_of_mem _ hb) a (by simp) e
   exact h1 (by rw [<- this]; exact hb)
theorem FR {t : List Int} (h : aZ t = true) : ∀ v ∈ t,0 <= v /\ v <= 99:=fun v hv=>by
 simp only [aZ,Jk] at h
 have:=h v hv
 simpa only [inR,Jq,Xj] using this
def MV (v : aG) (β : Int -> Int) : Prop:=v.vars.map β ∈ v.rel.rows
theorem sy {a b : aG} (h : njB a b = true) (y : Int) : y ∈ (njP a b).vars ↔ y ∈ a.vars \/ y ∈ b.vars:=by
 have h':=h
 simp only [njB,Jq] at h'
 rw [njP,if_pos h]; exact gg (ck h'.1.1) y
theorem xW {a b : aG} (ha : vrOk a = true) (hb : vrOk b = true) (β : Int -> Int) : (uniL a.vars b.vars).map β ∈ njL a b ↔ MV a β /\ MV b β:=by
 have fa:=ck ha
 have fb:=ck hb
 exact ui (cC fa.pw) (cC fb.pw) (gg fa) (fun r hr=>(fa.rl r hr).1) (fun s hs=>(fb.rl s hs).1) β
theorem uz {a b : aG} (h : njB a b = true) (β : Int -> Int) : MV (njP a b) β ↔ MV a β /\ MV b β:=by
 have h':=h
 simp only [njB,Jq] at h'
 rw [MV,njP,if_pos h]
 simp only
 rw [bZ,xW h'.1.1 h'.1.2]
theorem nj_B {a b : aG} (ha : vrOk a = true) (hb : vrOk b = true) (h : ∀ l : List (List Int),l.Nodup -> (∀ x ∈ l,∃ β : Int -> Int,x = (uniL a.vars b.vars).map β /\ MV a β /\ MV b β) -> l.length <= 4000) : njB a b = true:=by
 have fa:=ck ha
 have fb:=ck hb
 have:=h (njL a b) (uA fa fb) fun x hx=>by
  have hl:=(wu fa fb x hx).1
  have hu:=fw b.vars fa.pw
  have e:=gx (cC hu.1) hl
  refine ⟨bX (uniL a.vars b.vars) x,e.symm,(xW ha hb _).1 ?_⟩
  rw [e]; exact hx
 rw [njB,ha,hb,decide_eq_true this]; rfl
theorem Kb {a b : aG} (h : smB a b = true) (β : Int -> Int) : (smP a b).vars = a.vars /\ (MV (smP a b) β -> MV a β) /\ (MV a β -> MV b β -> MV (smP a b) β):=by
 rw [MV,smP,if_pos h]
 simp only [List.mem_filter]
 refine ⟨trivial,fun h=>h.1,fun h1 h2=>⟨h1,List.any_eq_true.2 ⟨_,h2,?_⟩⟩⟩
 simp only [glB,Jk]
 intro v _
 by_cases h1 : v ∈ a.vars
 ·by_cases h2 : v ∈ b.vars
  ·simp [glV,dn β h1,dn β h2]
  ·simp [glV,Zw,h2]
 ·simp [glV,Zw,h1]
structure Cx (d : PDb) (q : ab) : Prop where
 f : Qf d q
 sm : iE q
 dm : ∀ nm,dmW (lkR d nm)
def BdQ (d : PDb) (q : ab) (β : Int -> Int) : Prop:=∀ a ∈ q.atoms,a.vars.map β ∈ (lkR d a.rel).rows
theorem A6 {d : PDb} {q : ab} (c : Cx d q) {a : aH} (ha : a ∈ q.atoms) {β : Int -> Int} (h : a.vars.map β ∈ (lkR d a.rel).rows) : ∀ y ∈ a.vars,β y ∈ doms:=fun y hy=>by
 have hm : β y ∈ a.vars.map β:=List.mem_map_of_mem hy
 exact Hq ((c.dm a.rel).2 _ h _ hm) (FR (bK (um (c.f.lk a ha)) h).2 _ hm)
theorem all5 {u : List Int} (hu : u.Pairwise (· < ·)) (hr : ∀ y ∈ u,0 <= y /\ y < 5) (h5 : u.length = 5) : u = [0,1,2,3,4]:=by
 refine nq hu (l':=[0,1,2,3,4]) (by decide) fun y=>⟨fun h=>?_,fun h=>?_⟩
 ·have:=hr y h
  simp only [Zz,List.not_mem_nil,or_false]; omega
 ·refine Decidable.byContradiction fun hn=>?_
  have h0 : 0 <= y /\ y < 5:=by simp only [Zz,List.not_mem_nil,or_false] at h; omega
  have:=dF 5 (y :: u) (List.nodup_cons.2 ⟨hn,cC hu⟩) fun x hx=>by
   rcases Zz.1 hx with rfl | hx
   ·exact h0
   ·exact hr x hx
  simp only [Qv] at this; omega
theorem Gn {α β : Type} (L : List α) (F : α -> List β) (n : Nat) (h : ∀ a ∈ L,(F a).length <= n) : (L.flatMap F).length <= L.length * n:=by
 induction L with
 | nil=>simp
 | cons a L ih =>
   have:=ih fun b hb=>h b (List.mem_cons_of_mem _ hb)
   have:=h a (by simp)
   simp only [List.flatMap_cons,Qw,Qv,Nat.add_mul]; omega
theorem few {d : PDb} {q : ab} (c : Cx d q) {u : List Int} (hu : u.Pairwise (· < ·)) (hr : ∀ y ∈ u,0 <= y /\ y < q.n) {l : List (List Int)} (hn : l.Nodup)
  (hl : ∀ x ∈ l,∃ β : Int -> Int,x = u.map β /\ (∀ y ∈ u,β y ∈ doms) /\ (u.length = 5 -> q = jB -> BdQ d q β)) : l.length <= 4000:=by
 have hn5:=c.f.n5
 have hr5 : ∀ y ∈ u,0 <= y /\ y < 5:=fun y hy=>by have:=hr y hy; omega
 have h5:=mz hu hr5
 by_cases h4 : u.length = 5
 ·have hq : q = jB:=c.sm.resolve_left fun hs=>by
   have:=dF 4 u (cC hu) fun x hx=>by have:=hr x hx; omega
   omega
  have hu5:=all5 hu hr5 h4
  have pk : ∀ z ∈ l,∃ a b c e f : Int,z = [a,b,c,e,f] /\ [a,b] ∈ (lkR d [114]).rows /\ [c,e] ∈ (lkR d [116]).rows /\ [e,f] ∈ (lkR d [117]).rows:=fun z hz=>by
   obtain ⟨β,rfl,_,hb⟩:=hl z hz
   have hx:=hb h4 hq
   clear hb
   rw [hq] at hx
   refine ⟨β 0,β 1,β 2,β 3,β 4,by rw [hu5]; rfl,?_⟩
   exact ⟨hx ⟨[114],[0,1]⟩ (by simp [jB]),hx ⟨[116],[2,3]⟩ (by simp [jB]),hx ⟨[117],[3,4]⟩ (by simp [jB])⟩
  obtain ⟨g,hg⟩ : ∃ g : List Int -> List Int × List Int × List Int,g = fun z=>(z.take 2,(z.drop 2).take 2,z.drop 3):=⟨_,rfl⟩
  have hinj : ∀ z ∈ l,∀ w ∈ l,g z = g w -> z = w:=fun z hz w hw e=>by
   obtain ⟨a,b,c,e1,f,rfl,_⟩:=pk z hz
   obtain ⟨a',b',c',e1',f',rfl,_⟩:=pk w hw
   rw [hg] at e
   simp at e
   simp [e]
  have h1:=pI (l':=(lkR d [114]).rows.flatMap fun s=>(lkR d [116]).rows.flatMap fun t=>(lkR d [117]).rows.map fun u=>(s,t,u)) (q9 hn hinj) fun p hp=>by
   obtain ⟨z,hz,rfl⟩:=Xz.1 hp
   obtain ⟨a,b,c,e1,f,rfl,m1,m2,m3⟩:=pk z hz
   rw [hg]
   exact List.mem_flatMap.2 ⟨_,m1,List.mem_flatMap.2 ⟨_,m2,Xz.2 ⟨_,m3,rfl⟩⟩⟩
  rw [List.length_map] at h1
  have b1:=(c.dm [114]).1
  have b2:=(c.dm [116]).1
  have b3:=(c.dm [117]).1
  have h2:=Gn (lkR d [114]).rows (fun s=>(lkR d [116]).rows.flatMap fun t=>(lkR d [117]).rows.map fun u=>(s,t,u)) 81 fun s _=>by
   have:=Gn (lkR d [116]).rows (fun t=>(lkR d [117]).rows.map fun u=>(s,t,u)) 9 fun t _=>by simpa using b3
   omega
  omega
 ·have h1:=pI (l':=allT u.length) hn fun x hx=>by
   obtain ⟨β,rfl,hd,_⟩:=hl x hx
   exact ti (by simp) fun v hv=>by obtain ⟨y,hy,rfl⟩:=Xz.1 hv; exact hd y hy
  rw [th] at h1
  have h2 : 7 ^ u.length <= 7 ^ 4:=Nat.pow_le_pow_right (by omega) (by omega)
  omega
theorem ji {n : Int} {b : List Int} (hn : 1 <= n /\ n <= 5) (h : bagI n b = true) : b.Pairwise (· < ·) /\ ∀ y ∈ b,0 <= y /\ y < n:=by
 simp only [bagI,cJ,Jq,Jk,Xj] at h
 refine ⟨vM h.1.2,fun y hy=>?_⟩
 have:=h.2.1 y hy
 rw [aj (by omega) (by omega)] at this
 simp only [inR,Jq,Xj] at this
 omega
theorem DX {d : PDb} {q : ab} (f : Qf d q) {a : aH} (ha : a ∈ q.atoms) : aL (aS a.vars).length (abR d a) = true /\ (abR d a).length <= 16:=by
 have h:=G6 (d:=d) (nm:=a.rel) (vs:=a.vars) (f.lk a ha) (f.ar a ha) (f.vlen a ha).2 fun v hv=>by have:=f.vin a ha v hv; have:=f.n5; omega
 have h1:=h.1
 rw [mo] at h1
 have e : srtU (abZ a.vars (lkR d a.rel).rows) = abR d a:=by
  have:=h.2
  rw [newR,if_pos h.1] at this
  exact congrArg bE.rows this
 have h2:=dB (abZ a.vars (lkR d a.rel).rows)
 rw [e] at h1 h2
 have:=xi a.vars (lkR d a.rel).rows
 have:=kH (f.lk a ha)
 exact ⟨h1,by omega⟩
theorem JS {d : PDb} {q : ab} (f : Qf d q) {a : aH} (ha : a ∈ q.atoms) (bag : List Int) : vrOk (pjV (abV d a) bag) = true /\
  ∀ β,MV (pjV (abV d a) bag) β ↔ ∃ γ : Int -> Int,(∀ y ∈ comL (aS a.vars) bag,γ y = β y) /\ a.vars.map γ ∈ (lkR d a.rel).rows:=by
 obtain ⟨h1,h16⟩:=DX f ha
 have hv5 : ∀ v ∈ a.vars,0 <= v /\ v < 5:=fun v hv=>by have:=f.vin a ha v hv; have:=f.n5; omega
 have hpw:=oH a.vars
 have hA5:=jf a.vars
 have hcl:=tM (aS a.vars) bag
 have hcc : (comC (aS a.vars) bag).length = (comL (aS a.vars) bag).length:=by simp [comC]
 have hG : prG ⟨(aS a.vars).length,abR d a⟩ (comC (aS a.vars) bag) = true:=by
  simp only [prG,eA,Jq,Xj,Jk]
  refine ⟨h1,by omega,fun c hc=>?_⟩
  rw [comC] at hc
  obtain ⟨v,hv,rfl⟩:=Xz.1 hc
  have hva:=(List.mem_filter.1 hv).1
  have h3:=eH (aS a.vars) v
  rw [Zw.2 hva] at h3
  have h4:=of_decide_eq_true h3
  have h5:=(iS hva).1
  rw [aj (by omega) (by omega)]
  simp only [inR,Jq,Xj]
  omega
 have hN : newB (comC (aS a.vars) bag).length (prL ⟨(aS a.vars).length,abR d a⟩ (comC (aS a.vars) bag)) = true:=by
  rw [ov (by simp only [inR,Jq,Xj]; omega) fun x hx=>?_]
  ·have:=dB (prL ⟨(aS a.vars).length,abR d a⟩ (comC (aS a.vars) bag))
   have e : (prL ⟨(aS a.vars).length,abR d a⟩ (comC (aS a.vars) bag)).length = (abR d a).length:=by simp [prL]
   exact decide_eq_true (by omega)
  ·obtain ⟨s,hs,rfl⟩:=Xz.1 hx
   refine ⟨by rw [dp],?_⟩
   obtain ⟨l1,v1⟩:=bK h1 hs
   simp only [aZ,Jk] at v1 ⊢
   intro y hy
   rw [pN,Xz] at hy
   obtain ⟨v,hv,rfl⟩:=hy
   exact v1 _ (iT (List.mem_filter.1 hv).1 (by omega))
 have hP : pjV (abV d a) bag = ⟨comL (aS a.vars) bag,⟨(comC (aS a.vars) bag).length,srtU (prL ⟨(aS a.vars).length,abR d a⟩ (comC (aS a.vars) bag))⟩⟩:=by
  show (⟨comL (aS a.vars) bag,prP ⟨(aS a.vars).length,abR d a⟩ (comC (aS a.vars) bag)⟩ : aG) = _
  rw [prP,if_pos hG,newR,if_pos hN]
 rw [mo] at hN
 rw [hP]
 refine ⟨?_,fun β=>?_⟩
 ·simp only [vrOk,Jq,Xj]
  exact ⟨yd (List.Pairwise.filter _ hpw) fun x hx=>(gl.1 (List.mem_filter.1 hx).1).2,hN,by omega⟩
 ·rw [MV]
  simp only [bZ,prL,Xz]
  constructor
  ·rintro ⟨r,hr,e⟩
   rw [pN] at e
   have hl : r.length = (aS a.vars).length:=by have:=(bK h1 hr).1; omega
   refine ⟨bX (aS a.vars) r,aY.1 e,?_⟩
   rw [<- vI hv5,gx (cC hpw) hl]
   exact hr
  ·rintro ⟨γ,h,hm⟩
   refine ⟨(aS a.vars).map γ,(vI hv5 γ).2 hm,?_⟩
   rw [pN]
   refine aY.2 fun y hy=>?_
   rw [dn γ (List.mem_filter.1 hy).1,h y hy]
structure BrF (d : PDb) (q : ab) (bag : List Int) (i : Nat) (v : aG) : Prop where
 ok : vrOk v = true
 vars : ∀ y,y ∈ v.vars ↔ y ∈ bag /\ ∃ a ∈ q.atoms.take i,y ∈ a.vars
 sub : ∀ β,MV v β -> ∀ a ∈ q.atoms.take i,(∀ y ∈ a.vars,y ∈ bag) -> a.vars.map β ∈ (lkR d a.rel).rows
 dom : ∀ β,MV v β -> ∀ y ∈ v.vars,β y ∈ doms
 sup : ∀ β,(∀ a ∈ q.atoms.take i,a.vars.map β ∈ (lkR d a.rel).rows) -> MV v β
theorem BrF.zero (d : PDb) (q : ab) (bag : List Int) : BrF d q bag 0 ⟨[],⟨0,[[]]⟩⟩:=
 ⟨by decide,fun y=>by simp,fun β _ a ha=>by simp at ha,fun β _ y hy=>by simp at hy,fun β _=>by simp [MV]⟩
theorem Da {α : Type} {l : List α} {i : Nat} (h : i < l.length) (x : α) : x ∈ l.take (i + 1) ↔ x ∈ l.take i \/ x = l[i]:=by
 rw [Jz h,Qq,Qg]
theorem BrF.step {d : PDb} {q : ab} (c : Cx d q) {bag : List Int} (hb : bagI q.n bag = true) {i : Nat} {v : aG} (h : BrF d q bag i v) (hi : i < q.atoms.length) :
  ∃ w,brS d bag (some v) q.atoms[i] = some w /\ BrF d q bag (i + 1) w:=by
 obtain ⟨a,ha⟩ : ∃ a,q.atoms[i] = a:=⟨_,rfl⟩
 have ham : a ∈ q.atoms:=ha ▸ Jy hi
 have tm : ∀ x,x ∈ q.atoms.take (i + 1) ↔ x ∈ q.atoms.take i \/ x = a:=fun x=>by rw [Da hi,ha]
 have hn5:=c.f.n5
 have hcm : ∀ y,y ∈ comL (aS a.vars) bag ↔ y ∈ a.vars /\ y ∈ bag:=fun y=>by
  rw [comL,List.mem_filter,gl,Zw]
  exact ⟨fun h=>⟨h.1.1,h.2⟩,fun h=>⟨⟨h.1,by have:=c.f.vin a ham y h.1; omega⟩,h.2⟩⟩
 obtain ⟨pw,rng⟩:=ji hn5 hb
 rw [ha]
 simp only [brS]
 by_cases h0 : comL (aS a.vars) bag = []
 ·rw [if_pos h0]
  have no : ∀ y,y ∈ a.vars -> y ∉ bag:=fun y h1 h2=>by
   have:=(hcm y).2 ⟨h1,h2⟩
   rw [h0] at this; simp at this
  refine ⟨v,rfl,h.ok,fun y=>?_,fun β hm b hbm hin=>?_,h.dom,fun β hs=>h.sup β fun b hbm=>hs b ((tm b).2 (.inl hbm))⟩
  ·rw [h.vars]
   constructor
   ·rintro ⟨h1,b,h2,h3⟩; exact ⟨h1,b,(tm b).2 (.inl h2),h3⟩
   ·rintro ⟨h1,b,h2,h3⟩
    rcases (tm b).1 h2 with h2 | rfl
    ·exact ⟨h1,b,h2,h3⟩
    ·exact absurd h1 (no y h3)
  ·rcases (tm b).1 hbm with h2 | rfl
   ·exact h.sub β hm b h2 hin
   ·have hl:=(c.f.vlen b ham).1
    cases e : b.vars with
    | nil=>rw [e] at hl; simp at hl
    | cons y r=>exact absurd (hin y (by rw [e]; simp)) (no y (by rw [e]; simp))
 ·rw [if_neg h0]
  obtain ⟨ok2,mv2⟩:=JS c.f ham bag
  obtain ⟨P,hP⟩ : ∃ P,P = pjV (abV d a) bag:=⟨_,rfl⟩
  have hPv : P.vars = comL (aS a.vars) bag:=by rw [hP]; rfl
  rw [<- hP] at ok2 mv2 ⊢
  have hu:=gg (b:=P) (ck h.ok)
  have hub : ∀ y ∈ uniL v.vars P.vars,y ∈ bag:=fun y hy=>by
   rcases (hu y).1 hy with h1 | h1
   ·exact ((h.vars y).1 h1).1
   ·rw [hPv] at h1; exact ((hcm y).1 h1).2
  have hdom : ∀ β,MV v β -> MV P β -> ∀ y ∈ uniL v.vars P.vars,β y ∈ doms:=fun β m1 m2 y hy=>by
   rcases (hu y).1 hy with h1 | h1
   ·exact h.dom β m1 y h1
   ·rw [hPv] at h1
    obtain ⟨γ,g1,g2⟩:=(mv2 β).1 m2
    rw [<- g1 y h1]
    exact A6 c ham g2 y ((hcm y).1 h1).1
  have hnew : ∀ β,MV P β -> (∀ y ∈ a.vars,y ∈ bag) -> a.vars.map β ∈ (lkR d a.rel).rows:=fun β m2 hin=>by
   obtain ⟨γ,g1,g2⟩:=(mv2 β).1 m2
   rwa [<- aY.2 fun y hy=>g1 y ((hcm y).2 ⟨hy,hin y hy⟩)]
  have hB : njB v P = true:=nj_B h.ok ok2 fun l hn hl=>by
   refine few c (fw P.vars (ck h.ok).pw).1 (fun y hy=>rng y (hub y hy)) hn fun x hx=>?_
   obtain ⟨β,rfl,m1,m2⟩:=hl x hx
   refine ⟨β,rfl,hdom β m1 m2,fun h5 hq=>?_⟩
   have hu5:=all5 (fw P.vars (ck h.ok).pw).1 (fun y hy=>by have:=rng y (hub y hy); omega) h5
   have hbag : ∀ y,0 <= y -> y < 5 -> y ∈ bag:=fun y y0 y5=>hub y (by rw [hu5]; simp only [Zz,List.not_mem_nil,or_false]; omega)
   have h4u : (4 : Int) ∈ uniL v.vars P.vars:=by rw [hu5]; simp
   have hi3 : i = 3:=by
    have : ∃ b ∈ q.atoms.take (i + 1),(4 : Int) ∈ b.vars:=by
     rcases (hu 4).1 h4u with h1 | h1
     ·obtain ⟨_,b,b1,b2⟩:=(h.vars 4).1 h1
      exact ⟨b,(tm b).2 (.inl b1),b2⟩
     ·rw [hPv] at h1; exact ⟨a,(tm a).2 (.inr rfl),((hcm 4).1 h1).1⟩
    rw [hq] at this hi
    have hi4 : i < 4:=hi
    obtain ⟨b,b1,b2⟩:=this
    match i,hi4 with
    | 0,_=>simp [jB] at b1; subst b1; simp at b2
    | 1,_=>simp [jB] at b1; rcases b1 with rfl | rfl <;> simp at b2
    | 2,_=>simp [jB] at b1; rcases b1 with rfl | rfl | rfl <;> simp at b2
    | 3,_=>rfl
   have hall : q.atoms.take (i + 1) = q.atoms:=by rw [hi3,hq]; rfl
   intro b hbm
   have hin : ∀ y ∈ b.vars,y ∈ bag:=fun y hy=>by have:=c.f.vin b hbm y hy; exact hbag y this.1 (by omega)
   rw [<- hall] at hbm
   rcases (tm b).1 hbm with h1 | rfl
   ·exact h.sub β m1 b h1 hin
   ·exact hnew β m2 hin
  rw [if_pos hB]
  refine ⟨_,rfl,Ck hB,fun y=>?_,fun β hm b hbm hin=>?_,fun β hm y hy=>?_,fun β hs=>?_⟩
  ·rw [sy hB,h.vars,hPv,hcm]
   constructor
   ·rintro (⟨h1,b,h2,h3⟩ | ⟨h1,h2⟩)
    ·exact ⟨h1,b,(tm b).2 (.inl h2),h3⟩
    ·exact ⟨h2,a,(tm a).2 (.inr rfl),h1⟩
   ·rintro ⟨h1,b,h2,h3⟩
    rcases (tm b).1 h2 with h2 | rfl
    ·exact .inl ⟨h1,b,h2,h3⟩
    ·exact .inr ⟨h3,h1⟩
  ·obtain ⟨m1,m2⟩:=(uz hB β).1 hm
   rcases (tm b).1 hbm with h2 | rfl
   ·exact h.sub β m1 b h2 hin
   ·exact hnew β m2 hin
  ·obtain ⟨m1,m2⟩:=(uz hB β).1 hm
   exact hdom β m1 m2 y ((hu y).2 ((sy hB y).1 hy))
  ·exact (uz hB β).2 ⟨h.sup β fun b hbm=>hs b ((tm b).2 (.inl hbm)),(mv2 β).2 ⟨β,fun _ _=>rfl,hs a ((tm a).2 (.inr rfl))⟩⟩
structure BgF (d : PDb) (q : ab) (bag : List Int) (v : aG) : Prop where
 ok : vrOk v = true
 vars : v.vars = bag
 sub : ∀ β,MV v β -> ∀ a ∈ q.atoms,(∀ y ∈ a.vars,y ∈ bag) -> a.vars.map β ∈ (lkR d a.rel).rows
 dom : ∀ β,MV v β -> ∀ y ∈ bag,β y ∈ doms
 sup : ∀ β,BdQ d q β -> MV v β
theorem CC {d : PDb} {q : ab} (f : Qf d q) : cf d q = true:=by
 simp only [cf,f.qok,f.dok,Bool.true_and,Jk,Jq,Xj]
 exact fun a ha=>⟨f.lk a ha,f.ar a ha⟩
theorem Jt {d : PDb} {q : ab} (c : Cx d q) {bag : List Int} (hb : bagI q.n bag = true) : ∃ v,brO d q bag = some v /\ BgF d q bag v:=by
 have key : ∀ i,i <= q.atoms.length -> ∃ v,brT d q bag i = some v /\ BrF d q bag i v:=fun i=>by
  induction i with
  | zero=>intro _; exact ⟨_,oR d q bag,BrF.zero d q bag⟩
  | succ i ih =>
    intro hi
    obtain ⟨v,e,h⟩:=ih (by omega)
    rw [oQ d q bag (by omega),e]
    exact h.step c hb (by omega)
 obtain ⟨v,e,h⟩:=key _ (Jv _)
 obtain ⟨pw,rng⟩:=ji c.f.n5 hb
 have hv : v.vars = bag:=nq (ck h.ok).pw pw fun y=>by
  rw [h.vars]
  refine ⟨fun h=>h.1,fun hy=>⟨hy,?_⟩⟩
  have:=rng y hy
  have:=c.f.all y this.1 this.2
  simp only [br,List.mem_flatMap] at this
  rw [List.take_length]; exact this
 refine ⟨v,?_,h.ok,hv,fun β hm a ha=>h.sub β hm a (by rw [List.take_length]; exact ha),fun β hm y hy=>h.dom β hm y (by rw [hv]; exact hy),fun β hs=>h.sup β fun a ha=>hs a (List.mem_of_mem_take ha)⟩
 rw [brO,CC c.f,hb]; exact e
theorem Er {p : Nat -> Bool} {n : Nat} (h : ((List.range n).filter p).length = 1) {i j : Nat} (hi : i < n) (hj : j < n) (pi : p i = true) (pj : p j = true) : i = j:=by
 match hl : (List.range n).filter p,h with
 | [x], _ =>
   have a : i ∈ (List.range n).filter p:=List.mem_filter.2 ⟨Zg.2 hi,pi⟩
   have b : j ∈ (List.range n).filter p:=List.mem_filter.2 ⟨Zg.2 hj,pj⟩
   rw [hl] at a b
   simp at a b; omega
structure DcF (q : ab) (x : PDec) : Prop where
 T : dK x.par (rtN x.par)
 len : x.bags.length = x.par.length
 bag : ∀ j,j < x.par.length -> bagI q.n (x.bags.getD j []) = true
 at' : ∀ a ∈ q.atoms,∃ j,j < x.par.length /\ ∀ y ∈ a.vars,y ∈ x.bags.getD j []
 top : ∀ y : Int,0 <= y -> y < q.n -> ∀ i j,i < x.par.length -> j < x.par.length -> bR x.bags x.par y i = true -> bR x.bags x.par y j = true -> i = j
 ex : ∀ y : Int,0 <= y -> y < q.n -> ∃ j,j < x.par.length /\ y ∈ x.bags.getD j []
theorem A3 {d : PDb} {q : ab} {x : PDec} (f : Qf d q) (h : bH q x = true) : DcF q x:=by
 obtain ⟨T,hl,_⟩:=pe h
 simp only [bH,Jq,Xj,Jk,Zg] at h
 obtain ⟨⟨⟨⟨⟨hq,_⟩,_⟩,hb⟩,ha⟩,ht⟩:=h
 have one : ∀ y : Int,0 <= y -> y < q.n -> ((List.range x.par.length).filter (bR x.bags x.par y)).length = 1:=fun y h0 h1=>by
  have:=ht y.toNat (by omega)
  rw [topN,Int.toNat_of_nonneg h0,hl] at this
  exact this
 refine ⟨T,hl,fun j hj=>?_,fun a ham=>?_,fun y h0 h1 i j hi hj=>Er (one y h0 h1) hi hj,fun y h0 h1=>?_⟩
 ·rw [ak _ (by omega)]; exact hb _ (Jy _)
 ·have:=ha a ham
  rw [gE,List.any_eq_true] at this
  obtain ⟨b,hbm,hin⟩:=this
  have hat : b6 q.n a = true:=by
   simp only [aw,Jq,Jk] at hq
   exact hq.1.2 a ham
  rw [sr f.n5 hat,insD,Jk] at hin
  obtain ⟨j,hj,rfl⟩:=List.getElem_of_mem hbm
  refine ⟨j,by omega,fun y hy=>?_⟩
  rw [ak _ hj]
  exact Zw.1 (hin y hy)
 ·have:=one y h0 h1
  match hl : (List.range x.par.length).filter (bR x.bags x.par y),this with
  | [j], _ =>
    have hj : j ∈ (List.range x.par.length).filter (bR x.bags x.par y):=by rw [hl]; simp
    obtain ⟨h2,h3⟩:=List.mem_filter.1 hj
    simp only [bR,Jq,Zw] at h3
    exact ⟨j,Zg.1 h2,h3.1⟩
structure Up (ps : List Int) (i : Nat) (S : Nat -> Prop) : Prop where
 self : S i
 lt : ∀ j,S j -> j < ps.length
 up : ∀ j,S j -> j = i \/ (S (parN ps j) /\ dpN ps i < dpN ps j)
section
variable {d : PDb} {q : ab} {x : PDec} (h : DcF q x)
include h
theorem DcF.step {y : Int} {j : Nat} (hj : j < x.par.length) (hy : y ∈ x.bags.getD j []) : bR x.bags x.par y j = true \/ (parN x.par j < x.par.length /\ y ∈ x.bags.getD (parN x.par j) [] /\ dpN x.par j = dpN x.par (parN x.par j) + 1):=by
 by_cases e : j = rtN x.par
 ·left
  simp only [bR,Jq,Xx,Zw,Xj]
  refine ⟨hy,.inl ?_⟩
  have:=h.T.rp
  rw [<- e] at this; omega
 ·obtain ⟨h1,_,h2,h3⟩:=h.T.par_kid hj e
  by_cases hp : y ∈ x.bags.getD (parN x.par j) []
  ·exact .inr ⟨h1,hp,h3⟩
  ·left
   simp only [bR,Jq,Xx,Zw,Xj,Bool.not_eq_true']
   refine ⟨hy,.inr ?_⟩
   have e2 : (x.par.getD j 0).toNat = parN x.par j:=rfl
   rw [e2]
   simpa [Zw] using hp
theorem DcF.top_dp {y : Int} : ∀ (n j : Nat),dpN x.par j <= n -> j < x.par.length -> y ∈ x.bags.getD j [] -> ∃ t,t < x.par.length /\ bR x.bags x.par y t = true /\ dpN x.par t <= dpN x.par j
 | 0, j, hn, hj, hy => by
   rcases h.step hj hy with h1 | ⟨_,_,h3⟩
   ·exact ⟨j,hj,h1,Jv _⟩
   ·omega
 | n + 1, j, hn, hj, hy => by
   rcases h.step hj hy with h1 | ⟨h1,h2,h3⟩
   ·exact ⟨j,hj,h1,Jv _⟩
   ·obtain ⟨t,t1,t2,t3⟩:=DcF.top_dp n _ (by omega) h1 h2
    exact ⟨t,t1,t2,by omega⟩
theorem DcF.chain {i : Nat} {S : Nat -> Prop} (U : Up x.par i S) {y : Int} : ∀ (n j : Nat),dpN x.par j <= n -> S j -> y ∈ x.bags.getD j [] -> (∃ t,S t /\ bR x.bags x.par y t = true) \/ y ∈ x.bags.getD i []
 | 0, j, hn, hj, hy => by
   rcases h.step (U.lt j hj) hy with h1 | ⟨_,_,h3⟩
   ·exact .inl ⟨j,hj,h1⟩
   ·omega
 | n + 1, j, hn, hj, hy => by
   rcases h.step (U.lt j hj) hy with h1 | ⟨h1,h2,h3⟩
   ·exact .inl ⟨j,hj,h1⟩
   ·rcases U.up j hj with rfl | ⟨h4,_⟩
    ·exact .inr hy
    ·exact DcF.chain U n _ (by omega) h4 h2
theorem DcF.cover {i : Nat} {S : Nat -> Prop} (U : Up x.par i S) {A : List Int} (hA : ∀ y ∈ A,0 <= y /\ y < q.n) (hS : ∀ y ∈ A,∃ j,S j /\ y ∈ x.bags.getD j []) :
  ∀ (n B : Nat),dpN x.par B <= n -> B < x.par.length -> (∀ y ∈ A,y ∈ x.bags.getD B []) -> ∃ s,S s /\ ∀ y ∈ A,y ∈ x.bags.getD s []:=by
 intro n
 induction n with
 | zero =>
   intro B hn hB hy
   by_cases hb : B = rtN x.par
   ·by_cases hs : S B
    ·exact ⟨B,hs,hy⟩
    ·refine ⟨i,U.self,fun w hw=>?_⟩
     have tB : ∀ w ∈ A,bR x.bags x.par w B = true:=fun w hw=>by
      rcases h.step hB (hy w hw) with h1 | ⟨_,_,h3⟩
      ·exact h1
      ·omega
     obtain ⟨j,j1,j2⟩:=hS w hw
     rcases h.chain U _ j (Jv _) j1 j2 with ⟨t,t1,t2⟩ | h1
     ·exact absurd ((h.top w (hA w hw).1 (hA w hw).2 t B (U.lt t t1) hB t2 (tB w hw)) ▸ t1) hs
     ·exact h1
   ·have:=(h.T.par_kid hB hb).2.2.2; omega
 | succ n ih =>
   intro B hn hB hy
   by_cases hs : S B
   ·exact ⟨B,hs,hy⟩
   by_cases hall : ∀ y ∈ A,bR x.bags x.par y B = false
   ·by_cases hA0 : A = []
    ·subst hA0; exact ⟨i,U.self,by simp⟩
    ·obtain ⟨y0,hy0⟩:=List.exists_mem_of_ne_nil A hA0
     have st : ∀ y ∈ A,parN x.par B < x.par.length /\ y ∈ x.bags.getD (parN x.par B) [] /\ dpN x.par B = dpN x.par (parN x.par B) + 1:=fun y hya=>by
      rcases h.step hB (hy y hya) with h1 | h1
      ·rw [hall y hya] at h1; cases h1
      ·exact h1
     have s0:=st y0 hy0
     exact ih _ (by omega) s0.1 fun y hya=>(st y hya).2.1
   ·have : ∃ v ∈ A,bR x.bags x.par v B = true:=by
     refine Decidable.byContradiction fun hn=>hall fun y hya=>?_
     cases e : bR x.bags x.par y B with
     | false=>rfl
     | true=>exact absurd ⟨y,hya,e⟩ hn
    obtain ⟨v,hv,tv⟩:=this
    have hvi : v ∈ x.bags.getD i []:=by
     obtain ⟨j,j1,j2⟩:=hS v hv
     rcases h.chain U _ j (Jv _) j1 j2 with ⟨t,t1,t2⟩ | h1
     ·exact absurd ((h.top v (hA v hv).1 (hA v hv).2 t B (U.lt t t1) hB t2 tv) ▸ t1) hs
     ·exact h1
    have hBi : dpN x.par B <= dpN x.par i:=by
     obtain ⟨t,t1,t2,t3⟩:=h.top_dp _ i (Jv _) (U.lt i U.self) hvi
     rw [h.top v (hA v hv).1 (hA v hv).2 t B t1 hB t2 tv] at t3
     exact t3
    refine ⟨i,U.self,fun w hw=>?_⟩
    obtain ⟨j,j1,j2⟩:=hS w hw
    rcases h.chain U _ j (Jv _) j1 j2 with ⟨t,t1,t2⟩ | h1
    ·obtain ⟨t',a1,a2,a3⟩:=h.top_dp _ B (Jv _) hB (hy w hw)
     rw [h.top w (hA w hw).1 (hA w hw).2 t' t a1 (U.lt t t1) a2 t2] at a3
     rcases U.up t t1 with rfl | ⟨_,h4⟩
     ·simp only [bR,Jq,Zw] at t2
      exact t2.1
     ·omega
    ·exact h1
end
structure Inv (d : PDb) (q : ab) (x : PDec) (L0 : List aG) (i : Nat) (S : Nat -> Prop) (v : aG) : Prop where
 ok : vrOk v = true
 vars : ∀ y,y ∈ v.vars ↔ ∃ j,S j /\ y ∈ x.bags.getD j []
 sub : ∀ β,MV v β -> ∀ j,S j -> MV (L0.getD j default) β
 sup : ∀ β,BdQ d q β -> MV v β
 up : Up x.par i S
theorem Inv.join {d : PDb} {q : ab} {x : PDec} {L0 : List aG} (c : Cx d q) (h : DcF q x) (hL : ∀ j,j < x.par.length -> BgF d q (x.bags.getD j []) (L0.getD j default)) {i k : Nat} {S R : Nat -> Prop} {a b : aG}
  (ha : Inv d q x L0 i S a) (hb : Inv d q x L0 k R b) (hk : k ∈ kidN x.par i) : njB a b = true /\ Inv d q x L0 i (fun j=>S j \/ R j) (njP a b):=by
 have hd:=h.T.kd hk
 have U : Up x.par i fun j=>S j \/ R j:=by
  refine ⟨.inl ha.up.self,fun j hj=>?_,fun j hj=>?_⟩
  ·rcases hj with hj | hj
   ·exact ha.up.lt j hj
   ·exact hb.up.lt j hj
  ·rcases hj with hj | hj
   ·rcases ha.up.up j hj with e | ⟨e1,e2⟩
    ·exact .inl e
    ·exact .inr ⟨.inl e1,e2⟩
   ·rcases hb.up.up j hj with rfl | ⟨e1,e2⟩
    ·refine .inr ⟨.inl ?_,by omega⟩
     rw [eb hk]; exact ha.up.self
    ·exact .inr ⟨.inr e1,by omega⟩
 have hu:=gg (b:=b) (ck ha.ok)
 have hbag : ∀ y ∈ uniL a.vars b.vars,∃ j,(S j \/ R j) /\ y ∈ x.bags.getD j []:=fun y hy=>by
  rcases (hu y).1 hy with h1 | h1
  ·obtain ⟨j,j1,j2⟩:=(ha.vars y).1 h1; exact ⟨j,.inl j1,j2⟩
  ·obtain ⟨j,j1,j2⟩:=(hb.vars y).1 h1; exact ⟨j,.inr j1,j2⟩
 have hmv : ∀ β,MV a β -> MV b β -> ∀ j,S j \/ R j -> MV (L0.getD j default) β:=fun β m1 m2 j hj=>by
  rcases hj with hj | hj
  ·exact ha.sub β m1 j hj
  ·exact hb.sub β m2 j hj
 have hB : njB a b = true:=nj_B ha.ok hb.ok fun l hn hl=>by
  refine few c (fw b.vars (ck ha.ok).pw).1 (fun y hy=>?_) hn fun z hz=>?_
  ·obtain ⟨j,j1,j2⟩:=hbag y hy
   exact (ji c.f.n5 (h.bag j (U.lt j j1))).2 y j2
  ·obtain ⟨β,rfl,m1,m2⟩:=hl z hz
   refine ⟨β,rfl,fun y hy=>?_,fun h5 hq A hA=>?_⟩
   ·obtain ⟨j,j1,j2⟩:=hbag y hy
    exact (hL j (U.lt j j1)).dom β (hmv β m1 m2 j j1) y j2
   ·have hu5:=all5 (fw b.vars (ck ha.ok).pw).1 (fun y hy=>by
     obtain ⟨j,j1,j2⟩:=hbag y hy
     have:=(ji c.f.n5 (h.bag j (U.lt j j1))).2 y j2
     have:=c.f.n5; omega) h5
    obtain ⟨B,hB,hin⟩:=h.at' A hA
    have hr:=c.f.vin A hA
    obtain ⟨s,s1,s2⟩:=h.cover U hr (fun y hy=>hbag y (by
     have:=hr y hy
     have:=c.f.n5
     rw [hu5]; simp only [Zz,List.not_mem_nil,or_false]; omega)) _ B (Jv _) hB hin
    exact (hL s (U.lt s s1)).sub β (hmv β m1 m2 s s1) A hA s2
 refine ⟨hB,Ck hB,fun y=>?_,fun β hm j hj=>?_,fun β hs=>(uz hB β).2 ⟨ha.sup β hs,hb.sup β hs⟩,U⟩
 ·rw [sy hB,ha.vars,hb.vars]
  constructor
  ·rintro (⟨j,j1,j2⟩ | ⟨j,j1,j2⟩)
   ·exact ⟨j,.inl j1,j2⟩
   ·exact ⟨j,.inr j1,j2⟩
  ·rintro ⟨j,j1 | j1,j2⟩
   ·exact .inl ⟨j,j1,j2⟩
   ·exact .inr ⟨j,j1,j2⟩
 ·obtain ⟨m1,m2⟩:=(uz hB β).1 hm
  exact hmv β m1 m2 j hj
structure Ps1 (d : PDb) (q : ab) (L0 L : List aG) : Prop where
 len : L.length = L0.length
 all : ∀ j,j < L0.length -> vrOk (L.getD j default) = true /\ (L.getD j default).vars = (L0.getD j default).vars /\ (∀ β,MV (L.getD j default) β -> MV (L0.getD j default) β) /\ ∀ β,BdQ d q β -> MV (L.getD j default) β
theorem Ps1.run {d : PDb} {q : ab} {par : Nat -> Nat} {L0 : List aG} : ∀ (l : List Nat) (L : List aG),Ps1 d q L0 L -> (∀ k ∈ l,k < L0.length /\ par k < L0.length) -> ∃ M,twS f1 par l L = some M /\ Ps1 d q L0 M
 | [],L,h,_=>⟨L,rfl,h⟩
 | k :: r, L, h, hl => by
   obtain ⟨k1,k2⟩:=hl k (by simp)
   have hp:=h.all _ k2
   have hk:=h.all _ k1
   have hB : smB (L.getD (par k) default) (L.getD k default) = true:=by rw [smB,hp.1,hk.1]; rfl
   rw [twS,f1,Option.bind_some]
   refine Ps1.run r _ ⟨by rw [List.length_set]; exact h.len,fun j hj=>?_⟩ fun k hk=>hl k (List.mem_cons_of_mem _ hk)
   rw [eG (by rw [h.len]; exact hj)]
   split
   ·rename_i e
    subst e
    have sm:=Kb hB
    refine ⟨Kc hB,by rw [(sm fun _=>0).1]; exact hp.2.1,fun β hm=>hp.2.2.1 β ((sm β).2.1 hm),fun β hs=>(sm β).2.2 (hp.2.2.2 β hs) (hk.2.2.2 β hs)⟩
   ·exact h.all j hj
theorem Dl {d : PDb} {q : ab} {x : PDec} {L0 L1 : List aG} (c : Cx d q) (h : DcF q x) (hL : ∀ j,j < x.par.length -> BgF d q (x.bags.getD j []) (L0.getD j default)) (hl : L0.length = x.par.length) (hp : Ps1 d q L0 L1)
  {W : Nat -> Option aG} (hW : ∀ i,W i = cx f2 W (kidN x.par i) (some (L1.getD i default))) :
  ∀ (n i : Nat),rkN x.par i <= n -> i < x.par.length -> ∃ v S,W i = some v /\ Inv d q x L0 i S v /\ ∀ j,S j -> ∀ k ∈ kidN x.par j,S k:=by
 have base : ∀ i,i < x.par.length -> Inv d q x L0 i (fun j=>j = i) (L1.getD i default):=fun i hi=>by
  obtain ⟨h1,h2,h3,h4⟩:=hp.all i (by omega)
  refine ⟨h1,fun y=>?_,fun β hm j hj=>by subst hj; exact h3 β hm,h4,rfl,fun j hj=>by subst hj; exact hi,fun j hj=>.inl hj⟩
  rw [h2,(hL i hi).vars]
  exact ⟨fun hy=>⟨i,rfl,hy⟩,fun ⟨j,hj,hy⟩=>by subst hj; exact hy⟩
 have fold : ∀ i,i < x.par.length -> (∀ k ∈ kidN x.par i,∃ v S,W k = some v /\ Inv d q x L0 k S v /\ ∀ j,S j -> ∀ k' ∈ kidN x.par j,S k') ->
   ∀ (ks : List Nat) (a : aG) (S : Nat -> Prop),(∀ k ∈ ks,k ∈ kidN x.par i) -> Inv d q x L0 i S a -> (∀ j,S j -> j = i \/ ∀ k ∈ kidN x.par j,S k) ->
   ∃ b R,cx f2 W ks (some a) = some b /\ Inv d q x L0 i R b /\ (∀ j,R j -> j = i \/ ∀ k ∈ kidN x.par j,R k) /\ (∀ j,S j -> R j) /\ ∀ k ∈ ks,R k:=by
  intro i hi hkid ks
  induction ks with
  | nil=>intro a S _ ha hc; exact ⟨a,S,rfl,ha,hc,fun _ h=>h,by simp⟩
  | cons k r ih =>
    intro a S hks ha hc
    obtain ⟨v,R,w1,w2,w3⟩:=hkid k (hks k (by simp))
    obtain ⟨nB,nI⟩:=ha.join c h hL w2 (hks k (by simp))
    rw [lI,w1,Option.bind_some,f2,if_pos nB]
    obtain ⟨b,R',b1,b2,b3,b4,b5⟩:=ih (njP a v) (fun j=>S j \/ R j) (fun k hk=>hks k (List.mem_cons_of_mem _ hk)) nI fun j hj=>by
     rcases hj with hj | hj
     ·rcases hc j hj with e | e
      ·exact .inl e
      ·exact .inr fun k hk=>.inl (e k hk)
     ·exact .inr fun k hk=>.inr (w3 j hj k hk)
    refine ⟨b,R',b1,b2,b3,fun j hj=>b4 j (.inl hj),fun k' hk'=>?_⟩
    rcases Zz.1 hk' with rfl | hk'
    ·exact b4 _ (.inr w2.up.self)
    ·exact b5 k' hk'
 intro n
 induction n with
 | zero =>
   intro i hn hi
   have hd:=h.T.dl i hi
   rw [rkN] at hn; omega
 | succ n ih =>
   intro i hn hi
   obtain ⟨b,R,b1,b2,b3,b4,b5⟩:=fold i hi (fun k hk=>ih k (by have:=h.T.rk hk; omega) (dy.1 hk).1) (kidN x.par i) _ _ (fun _ h=>h) (base i hi) fun j hj=>.inl hj
   refine ⟨b,R,by rw [hW]; exact b1,b2,fun j hj k hk=>?_⟩
   rcases b3 j hj with rfl | e
   ·exact b5 k hk
   ·exact e k hk
theorem Hp {d : PDb} {q : ab} {x : PDec} (c : Cx d q) (hx : bH q x = true) :
  ∃ L0 L,rlO d q x = some L0 /\ L0.length = x.par.length /\ (∀ j,j < x.par.length -> BgF d q (x.bags.getD j []) (L0.getD j default)) /\ evL d q x = some L /\ (L.getD (rtN x.par) default).rel = bdP d q /\ bdB d q = true:=by
 have h:=A3 c.f hx
 have hT:=h.T
 obtain ⟨L0,hL0,hlen,hL⟩ : ∃ L0,rlO d q x = some L0 /\ L0.length = x.par.length /\ ∀ j,j < x.par.length -> BgF d q (x.bags.getD j []) (L0.getD j default):=by
  have key : ∀ i,i <= x.bags.length -> ∃ l,rlT d q x.bags i = some l /\ l.length = i /\ ∀ j,j < i -> BgF d q (x.bags.getD j []) (l.getD j default):=fun i=>by
   induction i with
   | zero=>intro _; exact ⟨[],rfl,rfl,fun j hj=>by omega⟩
   | succ i ih =>
     intro hi
     obtain ⟨l,e,hl,hF⟩:=ih (by omega)
     have hb:=h.bag i (by have:=h.len; omega)
     obtain ⟨v,hv,hB⟩:=Jt c hb
     rw [ak _ (by omega)] at hv hB
     refine ⟨l ++ [v],?_,by simp [hl],fun j hj=>?_⟩
     ·rw [jZ d q (by omega),e]
      simp only [rlS,hv]
     ·by_cases hji : j < i
      ·have:=hF j hji
       rw [dR (show j < (l ++ [v]).length by simp; omega),List.getElem_append_left (by omega)]
       rw [dR (show j < l.length by omega)] at this
       exact this
      ·have : j = i:=by omega
       subst this
       rw [dR (show j < (l ++ [v]).length by simp; omega),List.getElem_append_right (by omega),ak _ (by omega)]
       simpa [hl] using hB
  obtain ⟨l,e,hl,hF⟩:=key _ (Jv _)
  exact ⟨l,by rw [rlO,if_pos hx,e],by rw [hl]; exact h.len,fun j hj=>hF j (by rw [h.len]; exact hj)⟩
 have hord:=HC hT rfl
 obtain ⟨L1,e1,p1⟩:=Ps1.run (d:=d) (q:=q) (par:=parN x.par) (L0:=L0) (ordP x.par) L0 ⟨rfl,fun j hj=>by
  have:=hL j (by omega)
  exact ⟨this.ok,rfl,fun _ h=>h,this.sup⟩⟩ fun k hk=>by have:=hord k hk; omega
 have hrk : ∀ i,∀ k ∈ kidN x.par i,rkN x.par k < rkN x.par i:=fun i k hk=>hT.rk hk
 obtain ⟨W,hWd⟩ : ∃ W,W = trW f2 (kidN x.par) L1 (rkN x.par):=⟨_,rfl⟩
 have hW : ∀ i,W i = cx f2 W (kidN x.par i) (some (L1.getD i default)):=fun i=>by rw [hWd]; exact Dk hrk i
 have hl1 : L1.length = x.par.length:=by rw [p1.len,hlen]
 obtain ⟨v,S,w1,w2,w3⟩:=Dl c h hL hlen p1 hW _ (rtN x.par) (Jv _) hT.hr
 have hS2:=vc (f:=f2) (par:=parN x.par) hW (fun i k hk=>eb hk) hrk (x.par.length + 2) (rtN x.par) L1 (E5 x.par)
  (fun i hi=>⟨by rw [hl1]; exact (hT.post_facts _ _ hT.hr i hi).1,rfl⟩) (hT.post_nd _ _ hT.hr)
 rw [w1,Option.isSome_some,if_pos rfl] at hS2
 have hroot : rtN x.par ∈ bw (kidN x.par) (x.par.length + 2) (rtN x.par):=by rw [gP]; simp
 have hSall : ∀ j,j < x.par.length -> S j:=hT.ind w2.up.self fun k hk=>w3 k hk
 have hn5:=c.f.n5
 have hmv : ∀ β,MV v β ↔ BdQ d q β:=fun β=>by
  refine ⟨fun hm A hA=>?_,w2.sup β⟩
  obtain ⟨j,j1,j2⟩:=h.at' A hA
  exact (hL j j1).sub β (w2.sub β hm j (hSall j j1)) A hA j2
 have hvars : v.vars = aI q.n.toNat:=nq (ck w2.ok).pw (gy _) fun y=>by
  rw [w2.vars,b8]
  constructor
  ·rintro ⟨j,j1,j2⟩
   have:=(ji hn5 (h.bag j (w2.up.lt j j1))).2 y j2; omega
  ·rintro ⟨y0,y1⟩
   obtain ⟨j,j1,j2⟩:=h.ex y y0 (by omega)
   exact ⟨j,hSall j j1,j2⟩
 have fv:=ck w2.ok
 have hrows : v.rel.rows = srtU (binds d q.atoms).2:=oC fv.srt (gS _) fun z=>by
  rw [bZ,mW c.f]
  have hvl : v.vars.length = q.n.toNat:=by rw [hvars,bJ]
  have key : z.length = q.n.toNat -> (z ∈ v.rel.rows ↔ ∀ a ∈ q.atoms,bp a.vars z ∈ (lkR d a.rel).rows):=fun hz=>by
   have:=hmv fun u=>z.getD u.toNat 0
   rw [MV,hvars,pR hz] at this
   exact this
  constructor
  ·intro hz
   have hl:=(fv.rl z hz).1
   rw [hvl] at hl
   exact ⟨hl,(key hl).1 hz⟩
  ·rintro ⟨hl,hz⟩
   exact (key hl).2 hz
 have har : v.rel.ar = q.n:=by rw [fv.ar,hvars,bJ]; omega
 have hB : bdB d q = true:=by
  have:=w2.ok
  simp only [vrOk,Jq] at this
  have:=this.2.1
  rw [har,hrows] at this
  rw [bdB,CC c.f,this]; rfl
 refine ⟨L0,_,hL0,hlen,hL,by rw [Bf hL0,e1,Option.bind_some,ordP,hS2],?_,hB⟩
 rw [gf (by rw [hl1]; exact hT.hr) hroot,w1,bdP,if_pos hB,Option.getD_some,<- har,<- hrows]
theorem E6 {d : PDb} {q : ab} {x : PDec} (h : (cf d q && bH q x) = false) : rlO d q x = none /\ evB d q x = false:=by
 have key : rlO d q x = none:=by
  rw [rlO]
  split
  ·rename_i hd
   have hq : cf d q = false:=by simpa [hd] using h
   obtain ⟨T,hl,_⟩:=pe hd
   have h0 : 0 < x.bags.length:=by have:=T.hr; omega
   have h1 : rlT d q x.bags 1 = none:=by
    rw [jZ d q h0,pX,rlS,brO,hq]; rfl
   exact uS h1 _ h0
  ·rfl
 exact ⟨key,by rw [evB,evL,key]⟩
theorem Cw {r : bE} {cols : List Int} (h : aL r.ar r.rows = true) (h5 : cols.length <= 5) (hc : ∀ c ∈ cols,0 <= c /\ c < r.ar) :
  prB r cols = true /\ prP r cols = ⟨cols.length,srtU (r.rows.map (bp cols))⟩ /\ aL cols.length (srtU (r.rows.map (bp cols))) = true:=by
 have hin:=pY h
 simp only [inR,Jq,Xj] at hin
 have hG : prG r cols = true:=by
  simp only [prG,h,eA,Bool.true_and,Jq,Xj,Jk]
  refine ⟨h5,fun c hcm=>?_⟩
  have:=hc c hcm
  rw [aj (by omega) (by omega)]
  simp only [inR,Jq,Xj]; omega
 have hl:=lQ h
 have hN : newB cols.length (r.rows.map (bp cols)) = true:=by
  rw [ov (by simp only [inR,Jq,Xj]; omega) fun y hy=>?_]
  ·have:=dB (r.rows.map (bp cols))
   rw [List.length_map] at this
   exact decide_eq_true (by omega)
  ·obtain ⟨z,hz,rfl⟩:=Xz.1 hy
   obtain ⟨z1,z2⟩:=bK h hz
   exact ⟨by rw [dp],Co z2 fun c hcm=>by have:=hc c hcm; omega⟩
 refine ⟨by rw [prB,hG]; exact hN,by rw [prP,if_pos hG,newR,prL,if_pos hN],by rw [<- mo]; exact hN⟩
theorem EO {d : PDb} {q : ab} (f : Qf d q) : ∀ c ∈ q.out,0 <= c /\ c < q.n:=fun c hc=>by
 have:=f.qok
 have h5:=f.n5
 simp only [aw,cJ,Jq,Jk] at this
 have:=this.1.1.2.1 c hc
 rw [aj (by omega) (by omega)] at this
 simp only [inR,Jq,Xj] at this
 omega
structure Djf (d : PDb) (q : ab) (x : PDec) (L : List aG) : Prop where
 rl : rlO d q x = some L
 len : L.length = x.bags.length
 par : x.bags.length = x.par.length
 ev : evB d q x = true
 evp : evP d q x = prP (bdP d q) q.out
 pr : prB (bdP d q) q.out = true
 bd : bdB d q = true
 bag : ∀ i (h : i < L.length) (h2 : i < x.bags.length),L[i].vars = x.bags[i] /\ (difR (prP (bdP d q) x.bags[i]) L[i].rel).rows = []
theorem A5 {d : PDb} {q : ab} {x : PDec} (c : Cx d q) (hx : bH q x = true) : ∃ L,Djf d q x L:=by
 obtain ⟨L0,L,h1,h2,h3,h4,h5,h6⟩:=Hp c hx
 have hd:=A3 c.f hx
 have hB : bdP d q = ⟨q.n,srtU (binds d q.atoms).2⟩:=by rw [bdP,if_pos h6]
 have hro : aL (bdP d q).ar (bdP d q).rows = true:=by
  have:=h6
  simp only [bdB,Jq] at this
  rw [hB]; exact this.2
 have har : (bdP d q).ar = q.n:=by rw [hB]
 obtain ⟨p1,p2,_⟩:=Cw hro c.f.out5 (by rw [har]; exact EO c.f)
 refine ⟨L0,h1,by rw [h2,hd.len],hd.len,?_,?_,p1,h6,fun i hi hi2=>?_⟩
 ·rw [evB,h4]; simp only; rw [h5]; exact p1
 ·rw [evP,h4]; simp only; rw [h5]
 ·have hF:=h3 i (by omega)
  rw [dR hi,ak _ hi2] at hF
  refine ⟨hF.vars,?_⟩
  have hb:=hd.bag i (by omega)
  rw [ak _ hi2] at hb
  obtain ⟨pw,rng⟩:=ji c.f.n5 hb
  have h5:=mz pw fun y hy=>by have:=rng y hy; have:=c.f.n5; omega
  obtain ⟨_,q2,_⟩:=Cw hro h5 (by rw [har]; exact rng)
  rw [q2,difR]
  split
  ·rw [difL]
   refine List.filter_eq_nil_iff.2 fun r hr=>?_
   have hv:=ck hF.ok
   have : r ∈ L0[i].rel.rows:=by
    rw [bZ,hB] at hr
    simp only at hr
    obtain ⟨z,hz,rfl⟩:=Xz.1 hr
    rw [bZ,mW c.f] at hz
    have:=hF.sup (fun v=>z.getD v.toNat 0) fun a ha=>hz.2 a ha
    rw [MV,hF.vars] at this
    exact this
   simp [(lO hv.srt).2 this]
  ·rfl
end Go.Vs
