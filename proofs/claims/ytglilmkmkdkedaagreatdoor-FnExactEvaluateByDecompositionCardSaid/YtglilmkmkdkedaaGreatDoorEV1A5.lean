/-
  EV1A5: a part of a proof of this seat: the value-level semantics of Go code without maps, its walk rules, the frame of a row, facts of types, schedules, walks, plain lemmas (Pl82 Pl83 Pl84 Pl85 Pl86 Pl87 Pl88 Pl89 Pl90 Pl91 Pl92 Pl102 Pl103 Pl104 Pl105 Pl106 Pl107 Pl108 Pl46 Pl47 Pl48 Pl49 Pl50 Pl51 Pl52 Pl53 Pl54 Pl55 Pl56). It holds of every program and state that its hypotheses name.
-/
import Derived.Test.YtglilmkmkdkedaaGreatDoorEV1A4
set_option linter.unusedSimpArgs false
set_option linter.unusedVariables false
set_option linter.unnecessarySimpa false
namespace Go.Vs
theorem dotF_two {a x : Nat -> _root_.Rat} {i j : Nat} : ∀ {n : Nat},i < n -> j < n -> i ≠ j -> (∀ k,k < n -> k ≠ i -> k ≠ j -> a k * x k = 0) -> dotF n a x = a i * x i + a j * x j
 | 0,h,_,_,_=>by omega
 | n + 1, hi, hj, hij, hz => by
   rw [dotF]
   by_cases e : i = n
   ·subst e
    rw [dotF_one (j:=j) (by omega) fun k hk hkj=>hz k (by omega) (by omega) hkj]
    grind
   ·by_cases e2 : j = n
    ·subst e2
     rw [dotF_one (j:=i) (by omega) fun k hk hki=>hz k (by omega) hki (by omega)]
    ·rw [dotF_two (n:=n) (i:=i) (j:=j) (by omega) (by omega) hij fun k hk=>hz k (by omega),hz n (by omega) (by omega) (by omega)]
     grind
theorem gj_inv {n : Nat} {m0 : List (List _root_.Rat)} (hl : m0.length = n) (hr : ∀ r ∈ m0,r.length = n + 1) (hb : Bd n 0 m0) : ∀ p,p <= n -> ∀ m,gj m0 p = some m -> GJ n p m0 m /\ Bd n p m
 | 0, _, m, h => by
   simp only [gj,Option.some.injEq] at h
   subst h
   exact ⟨⟨hl,hr,fun i j _ h=>by omega,fun i h=>by omega,fun y=>Iff.rfl⟩,hb⟩
 | p + 1, hp, m, h => by
   rw [gj] at h
   cases e : gj m0 p with
   | none=>rw [e] at h; cases h
   | some m1 =>
     obtain ⟨g1,b1⟩:=gj_inv hl hr hb p (by omega) m1 e
     rw [e,Option.bind_some,gjStep] at h
     split at h
     ·rename_i hlt
      simp only [Option.some.injEq] at h
      subst h
      obtain ⟨h1,h2⟩:=piv_lt hlt
      have g2:=g1.swap h1 (by rw [<- g1.len]; exact hlt)
      have b2:=Bd.swap g1 h1 (by rw [<- g1.len]; exact hlt) b1
      have hne : rowQ (swapM m1 p (pivAt m1 p)) p p ≠ 0:=by
       have hp' : p < m1.length:=by rw [g1.len]; omega
       rw [rowQ,swap_get hp' hlt]
       split
       ·rename_i e; rw [<- e] at h2; exact h2
       ·rw [if_pos rfl]; exact h2
      exact ⟨g2.step (by omega) hne,Bd.step g2 (by omega) hne b2⟩
     ·cases h
theorem gj_ex {n : Nat} {m0 : List (List _root_.Rat)} (hl : m0.length = n) (hr : ∀ r ∈ m0,r.length = n + 1) (hb : Bd n 0 m0) (hK : Ker n (m0.map fnL)) : ∀ p,p <= n -> ∃ m,gj m0 p = some m
 | 0,_=>⟨m0,rfl⟩
 | p + 1, hp => by
   obtain ⟨m,hm⟩:=gj_ex hl hr hb hK p (by omega)
   obtain ⟨g,_⟩:=gj_inv hl hr hb p (by omega) m hm
   rw [gj,hm,Option.bind_some,gjStep]
   split
   ·exact ⟨_,rfl⟩
   ·rename_i hno
    exfalso
    have hpz:=piv_none hno
    obtain ⟨y,hy⟩ : ∃ y : Nat -> _root_.Rat,y = fun k=>if k < p then - rowQ m k p / rowQ m k k else if k = p then 1 else 0:=⟨_,rfl⟩
    have y1 : ∀ k,k < p -> y k = - rowQ m k p / rowQ m k k:=fun k hk=>by rw [hy]; simp only [if_pos hk]
    have y2 : y p = 1:=by rw [hy]; simp
    have y3 : ∀ k,p < k -> y k = 0:=fun k hk=>by rw [hy]; simp only [if_neg (show ¬ k < p by omega),if_neg (show ¬ k = p by omega)]
    have hz : ∀ r ∈ m,dotF (n + 1) (fnL r) y = 0:=fun r hr'=>by
     obtain ⟨i,hi,rfl⟩:=List.mem_iff_getElem.1 hr'
     rw [<- gd hi (d:=[])]
     show dotF (n + 1) (rowQ m i) y = 0
     have hin : i < n:=by rw [<- g.len]; exact hi
     by_cases hip : i < p
     ·rw [dotF_two (i:=i) (j:=p) (by omega) (by omega) (by omega) fun k hk hki hkp=>by
       by_cases hkl : k < p
       ·rw [g.dia i k hin hkl (by omega)]; grind
       ·rw [y3 k (by omega)]; grind]
      rw [y1 i hip,y2]
      have:=g.piv i hip
      grind
     ·refine dotF_zero fun k hk=>?_
      by_cases hkl : k < p
      ·rw [g.dia i k hin hkl (by omega)]; grind
      ·by_cases hkp : k = p
       ·subst hkp; rw [hpz i (by omega) hi]; grind
       ·rw [y3 k (by omega)]; grind
    have h0:=(g.sol y).1 hz
    have h1:=hK y (fun a ha=>by
     obtain ⟨r,hr',rfl⟩:=List.mem_map.1 ha
     have:=h0 r hr'
     rw [dotF,y3 n (by omega)] at this
     grind) p (by omega)
    rw [y2] at h1
    grind
theorem sol_some {n : Nat} {m0 : List (List _root_.Rat)} {v : Nat -> _root_.Rat} (hl : m0.length = n) (hr : ∀ r ∈ m0,r.length = n + 1) (hb : Bd n 0 m0) (hK : Ker n (m0.map fnL)) (hv : ∀ r ∈ m0,dotF n (fnL r) v = fnL r n) :
  solQ n m0 = some ((List.range n).map v):=by
 obtain ⟨m,hm⟩:=gj_ex hl hr hb hK n (Nat.le_refl _)
 obtain ⟨g,_⟩:=gj_inv hl hr hb n (Nat.le_refl _) m hm
 rw [solQ,hm,Option.map_some,outM]
 congr 1
 refine List.map_congr_left fun p hp=>?_
 have hp:=List.mem_range.1 hp
 obtain ⟨y,hy⟩ : ∃ y : Nat -> _root_.Rat,y = fun k=>if k < n then v k else -1:=⟨_,rfl⟩
 have y1 : ∀ k,k < n -> y k = v k:=fun k hk=>by rw [hy]; simp only [if_pos hk]
 have y2 : y n = -1:=by rw [hy]; simp
 have h0 : ∀ r ∈ m0,dotF (n + 1) (fnL r) y = 0:=fun r hr'=>by
  rw [dotF,y2,dotF_congr (a':=fnL r) (x':=v) (fun _ _=>rfl) y1,hv r hr']
  grind
 have h1:=(g.sol y).2 h0 _ (getD_mem' (i:=p) (d:=[]) (by rw [g.len]; exact hp))
 have h2 : dotF (n + 1) (rowQ m p) y = 0:=h1
 rw [dotF_two (i:=p) (j:=n) (by omega) (by omega) (by omega) fun k hk hkp hkn=>by rw [g.dia p k hp (by omega) (by omega)]; grind] at h2
 rw [y1 p hp,y2] at h2
 have:=g.piv p hp
 grind
def rbQ (N D : Nat) (q : _root_.Rat) : Prop:=∃ s M : Int,s ≠ 0 /\ q * (s : _root_.Rat) = (M : _root_.Rat) /\ M.natAbs <= N /\ s.natAbs <= D
theorem rb_num {N D : Nat} {q : _root_.Rat} (h : rbQ N D q) : q.num.natAbs <= N /\ q.den <= D:=by
 obtain ⟨s,M,hs,hq,hM,hD⟩:=h
 have hs' : (s : _root_.Rat) ≠ 0:=fun e=>hs (Rat.intCast_inj.1 (by simpa using e))
 have e : q = Rat.divInt M s:=by
  rw [Rat.divInt_eq_div]
  grind
 constructor
 ·rw [e,Rat.num_divInt]
  refine Nat.le_trans ?_ hM
  rw [Int.natAbs_ediv_of_dvd (Int.dvd_trans (Int.gcd_dvd_right _ _) (Int.dvd_mul_left _ _)),Int.natAbs_mul]
  refine Nat.le_trans (Nat.div_le_self _ _) ?_
  have : s.sign.natAbs <= 1:=by
   rcases Int.lt_trichotomy s 0 with h | h | h
   ·rw [Int.sign_eq_neg_one_of_neg h]; decide
   ·exact absurd h hs
   ·rw [Int.sign_eq_one_of_pos h]; decide
  have:=Nat.mul_le_mul_right M.natAbs this
  omega
 ·rw [e,Rat.den_divInt,if_neg hs]
  exact Nat.le_trans (Nat.div_le_self _ _) hD
def smQ (q : _root_.Rat) : Prop:=q.num.natAbs <= 1000000000 /\ q.den <= 1000000000
theorem rb_sm {N D : Nat} {q : _root_.Rat} (h : rbQ N D q) (h1 : N <= 1000000000) (h2 : D <= 1000000000) : smQ q:=by
 have:=rb_num h
 exact ⟨by omega,by omega⟩
theorem bb4 {p : Nat} (h : p <= 4) : bbQ p <= 32768 /\ cbQ p <= 2048:=by
 have : p = 0 \/ p = 1 \/ p = 2 \/ p = 3 \/ p = 4:=by omega
 rcases this with rfl | rfl | rfl | rfl | rfl <;> simp [bbQ,cbQ]
theorem bb3 {p : Nat} (h : p <= 3) : bbQ p <= 128 /\ cbQ p <= 16:=by
 have : p = 0 \/ p = 1 \/ p = 2 \/ p = 3:=by omega
 rcases this with rfl | rfl | rfl | rfl <;> simp [bbQ,cbQ]
structure SafeS (n p : Nat) (m : List (List _root_.Rat)) : Prop where
 at_ : ∀ i k,i < n -> k <= n -> smQ (rowQ m i k)
 f : ∀ i,i < n -> smQ (rowQ m i p / rowQ m p p)
 q : ∀ i k,i < n -> k <= n -> smQ (rowQ m i p / rowQ m p p * rowQ m p k)
 d : ∀ i k,i < n -> k <= n -> smQ (rowQ m i k - rowQ m i p / rowQ m p p * rowQ m p k)
theorem bd_at {n p : Nat} {m : List (List _root_.Rat)} (h : Bd n p m) (hp : p <= 4) {i k : Nat} (hi : i < n) (hk : k <= n) : smQ (rowQ m i k):=by
 obtain ⟨D,_,_,h3⟩:=h
 obtain ⟨s,M,r,_⟩:=h3 i hi
 have:=bb4 hp
 have:=r.sc
 have:=r.bd k hk
 exact rb_sm (N:=32768) (D:=2048) ⟨s,M k,r.ne,r.eq k hk,by omega,by omega⟩ (by omega) (by omega)
theorem bd_safe {n p : Nat} {m : List (List _root_.Rat)} (h : Bd n p m) (hp : p <= 3) (hpn : p < n) (hne : rowQ m p p ≠ 0) : SafeS n p m:=by
 have h0:=h
 obtain ⟨D,_,_,h3⟩:=h
 obtain ⟨sp,P,rp,_⟩:=h3 p hpn
 have hb:=bb3 hp
 have hP : P p ≠ 0:=fun e=>by
  have:=rp.eq p (by omega)
  rw [e] at this
  have hs : (sp : _root_.Rat) ≠ 0:=fun e=>rp.ne (Rat.intCast_inj.1 (by simpa using e))
  have : rowQ m p p * (sp : _root_.Rat) = 0:=by simpa using this
  grind
 have cut : ∀ {a b : Int} {x y X Y : Nat},a.natAbs <= x -> b.natAbs <= y -> x <= X -> y <= Y -> (a * b).natAbs <= X * Y:=fun h1 h2 h3 h4=>Nat.le_trans (natAbs_mul_le h1 h2) (Nat.mul_le_mul h3 h4)
 refine ⟨fun i k hi hk=>bd_at h0 (by omega) hi hk,fun i hi=>?_,fun i k hi hk=>?_,fun i k hi hk=>?_⟩
 all_goals obtain ⟨s,M,ri,_⟩:=h3 i hi
 all_goals have hs:=Int.mul_ne_zero ri.ne hP
 all_goals have hsb : (s * P p).natAbs <= 16 * 128:=cut ri.sc (rp.bd p (by omega)) hb.2 hb.1
 ·exact rb_sm (N:=128 * 16) (D:=16 * 128) ⟨s * P p,M p * sp,hs,by rw [Rat.intCast_mul,Rat.intCast_mul]; exact el_f hne (ri.eq p (by omega)) (rp.eq p (by omega)),cut (ri.bd p (by omega)) rp.sc hb.1 hb.2,hsb⟩ (by omega) (by omega)
 ·exact rb_sm (N:=128 * 128) (D:=16 * 128) ⟨s * P p,M p * P k,hs,by rw [Rat.intCast_mul,Rat.intCast_mul]; exact el_q hne (ri.eq p (by omega)) (rp.eq p (by omega)) (rp.eq k hk),cut (ri.bd p (by omega)) (rp.bd k hk) hb.1 hb.1,hsb⟩ (by omega) (by omega)
 ·refine rb_sm (N:=2 * (128 * 128)) (D:=16 * 128) ⟨s * P p,P p * M k - M p * P k,hs,by rw [Rat.intCast_mul,Rat.intCast_sub,Rat.intCast_mul,Rat.intCast_mul]; exact el_num hne (ri.eq k hk) (ri.eq p (by omega)) (rp.eq p (by omega)) (rp.eq k hk),?_,hsb⟩ (by omega) (by omega)
  have a1 : (P p * M k).natAbs <= 128 * 128:=cut (rp.bd p (by omega)) (ri.bd k hk) hb.1 hb.1
  have a2 : (M p * P k).natAbs <= 128 * 128:=cut (ri.bd p (by omega)) (rp.bd k hk) hb.1 hb.1
  have a3:=natAbs_sub_le' (P p * M k) (M p * P k)
  omega
structure SolB (n : Nat) (x : List _root_.Rat) : Prop where
 len : x.length = n
 ex : ∃ D : Int,D ≠ 0 /\ D.natAbs <= 2048 /\ ∀ k,k < n -> ∃ X : Int,fnL x k * (D : _root_.Rat) = (X : _root_.Rat) /\ X.natAbs <= 67108864
theorem sol_bd {n : Nat} {m0 : List (List _root_.Rat)} {x : List _root_.Rat} (hn : n <= 4) (hl : m0.length = n) (hr : ∀ r ∈ m0,r.length = n + 1) (hb : Bd n 0 m0) (h : solQ n m0 = some x) : SolB n x:=by
 rw [solQ] at h
 cases e : gj m0 n with
 | none=>rw [e] at h; cases h
 | some m =>
   obtain ⟨g,b⟩:=gj_inv hl hr hb n (Nat.le_refl _) m e
   rw [e,Option.map_some,Option.some.injEq] at h
   subst h
   obtain ⟨D,h1,h2,h3⟩:=b
   have hb:=bb4 hn
   refine ⟨by simp [outM],D,h1,by omega,fun k hk=>?_⟩
   obtain ⟨s,M,r,he⟩:=h3 k hk
   obtain ⟨x,hx⟩:=he hk
   have hxn : x ≠ 0:=fun e=>h1 (by rw [hx,e,Int.mul_zero])
   have hMn : M k ≠ 0:=fun e=>h1 (by rw [hx,e,Int.zero_mul])
   have hxb : x.natAbs <= 2048:=by
    have h4 : (M k * x).natAbs <= 2048:=by rw [<- hx]; omega
    rw [Int.natAbs_mul] at h4
    have h5:=Nat.mul_le_mul_right x.natAbs (show 1 <= (M k).natAbs by omega)
    omega
   refine ⟨M n * x,?_,?_⟩
   ·rw [fnL,gd (by simpa [outM] using hk)]
    simp only [outM,List.getElem_map,List.getElem_range]
    have e1:=r.eq k (by omega)
    have e2:=r.eq n (by omega)
    have e3:=g.piv k hk
    rw [hx,Rat.intCast_mul,Rat.intCast_mul]
    grind
   ·exact Nat.le_trans (natAbs_mul_le (Nat.le_trans (r.bd n (by omega)) hb.1) hxb) (by omega)
def combs {α : Type} : Nat -> List α -> List (List α)
 | 0,_=>[[]]
 | _ + 1,[]=>[]
 | n + 1,a :: l=>(combs n l).map (a :: ·) ++ combs (n + 1) l
theorem combs_mem {α : Type} : ∀ {n : Nat} {l M : List α},M ∈ combs n l ↔ M.Sublist l /\ M.length = n
 | 0, l, M => by
   simp only [combs,List.mem_singleton]
   constructor
   ·rintro rfl; exact ⟨List.nil_sublist _,rfl⟩
   ·rintro ⟨_,h⟩; exact List.eq_nil_of_length_eq_zero h
 | n + 1, [], M => by
   simp only [combs,List.not_mem_nil,false_iff,not_and,List.sublist_nil]
   rintro rfl; simp
 | n + 1, a :: l, M => by
   simp only [combs,List.mem_append,List.mem_map,combs_mem,List.sublist_cons_iff]
   constructor
   ·rintro (⟨x,⟨h1,h2⟩,rfl⟩ | ⟨h1,h2⟩)
    ·exact ⟨.inr ⟨x,rfl,h1⟩,by simp [h2]⟩
    ·exact ⟨.inl h1,h2⟩
   ·rintro ⟨h | ⟨x,rfl,h⟩,h2⟩
    ·exact .inr ⟨h,h2⟩
    ·exact .inl ⟨x,⟨h,by simpa using h2⟩,rfl⟩
def unitR (n j : Nat) : List _root_.Rat:=(List.range n).map fun k=>if k = j then 1 else 0
def augR (A : List (List _root_.Rat)) (n : Nat) : List (List _root_.Rat):=A.map (· ++ [1]) ++ (List.range n).map fun j=>unitR n j ++ [0]
def sumQ (x : List _root_.Rat) : _root_.Rat:=dotF x.length (fun _=>1) (fnL x)
def feasQ (A : List (List _root_.Rat)) (x : List _root_.Rat) : Bool:=x.all (fun q=>decide (0 <= q)) && A.all fun r=>decide (1 <= dotF x.length (fnL r) (fnL x))
def addPt (out : List (List _root_.Rat)) (x : List _root_.Rat) : List (List _root_.Rat):=if x ∈ out then out else out ++ [x]
def ptStep (A : List (List _root_.Rat)) (n : Nat) (out : List (List _root_.Rat)) (M : List (List _root_.Rat)) : List (List _root_.Rat):=match solQ n M with
 | some x=>if feasQ A x then addPt out x else out
 | none=>out
def ptsQ (A : List (List _root_.Rat)) (n : Nat) : List (List _root_.Rat):=(combs n (augR A n)).foldl (ptStep A n) []
def bestS (b : Option (List _root_.Rat × _root_.Rat)) (x : List _root_.Rat) : Option (List _root_.Rat × _root_.Rat):=match b with
 | none=>some (x,sumQ x)
 | some p=>if sumQ x < p.2 then some (x,sumQ x) else some p
def bestQ (l : List (List _root_.Rat)) : Option (List _root_.Rat × _root_.Rat):=l.foldl bestS none
def minQ (A : List (List _root_.Rat)) (n : Nat) : Option (List _root_.Rat × _root_.Rat):=bestQ (ptsQ A n)
theorem addPt_mem {out : List (List _root_.Rat)} {x y : List _root_.Rat} : y ∈ addPt out x ↔ y ∈ out \/ y = x:=by
 rw [addPt]
 split
 ·rename_i h
  constructor
  ·exact .inl
  ·rintro (h1 | rfl)
   ·exact h1
   ·exact h
 ·simp
theorem ptStep_mem {A : List (List _root_.Rat)} {n : Nat} {out M : List (List _root_.Rat)} {y : List _root_.Rat} : y ∈ ptStep A n out M ↔ y ∈ out \/ (solQ n M = some y /\ feasQ A y = true):=by
 rw [ptStep]
 cases h : solQ n M with
 | none=>simp
 | some x =>
   simp only [Option.some.injEq]
   split
   ·rename_i hf
    rw [addPt_mem]
    constructor
    ·rintro (h | rfl)
     ·exact .inl h
     ·exact .inr ⟨rfl,hf⟩
    ·rintro (h | ⟨rfl,_⟩)
     ·exact .inl h
     ·exact .inr rfl
   ·rename_i hf
    constructor
    ·exact .inl
    ·rintro (h | ⟨rfl,h⟩)
     ·exact h
     ·exact absurd h hf
theorem pts_fold {A : List (List _root_.Rat)} {n : Nat} {y : List _root_.Rat} : ∀ (l : List (List (List _root_.Rat))) (out : List (List _root_.Rat)),y ∈ l.foldl (ptStep A n) out ↔ y ∈ out \/ ∃ M ∈ l,solQ n M = some y /\ feasQ A y = true
 | [],out=>by simp
 | M :: l, out => by
   rw [List.foldl_cons,pts_fold l,ptStep_mem]
   simp only [List.mem_cons]
   constructor
   ·rintro ((h | h) | ⟨M',hM,h⟩)
    ·exact .inl h
    ·exact .inr ⟨M,.inl rfl,h⟩
    ·exact .inr ⟨M',.inr hM,h⟩
   ·rintro (h | ⟨M',rfl | hM,h⟩)
    ·exact .inl (.inl h)
    ·exact .inl (.inr h)
    ·exact .inr ⟨M',hM,h⟩
theorem pts_mem {A : List (List _root_.Rat)} {n : Nat} {y : List _root_.Rat} : y ∈ ptsQ A n ↔ ∃ M,M.Sublist (augR A n) /\ M.length = n /\ solQ n M = some y /\ feasQ A y = true:=by
 rw [ptsQ,pts_fold]
 simp only [List.not_mem_nil,false_or,combs_mem]
 constructor
 ·rintro ⟨M,⟨h1,h2⟩,h⟩; exact ⟨M,h1,h2,h⟩
 ·rintro ⟨M,h1,h2,h⟩; exact ⟨M,⟨h1,h2⟩,h⟩
theorem best_fold : ∀ (l : List (List _root_.Rat)) (b : Option (List _root_.Rat × _root_.Rat)),(∀ p,b = some p -> p.2 = sumQ p.1) ->
  (∀ p,l.foldl bestS b = some p -> p.2 = sumQ p.1 /\ (p.1 ∈ l \/ b = some p) /\ (∀ x ∈ l,p.2 <= sumQ x) /\ ∀ p',b = some p' -> p.2 <= p'.2) /\ (l.foldl bestS b = none -> b = none /\ l = [])
 | [], b, hb => by
   refine ⟨fun p hp=>⟨hb p hp,.inr hp,by simp,fun p' hp'=>?_⟩,fun h=>⟨h,rfl⟩⟩
   rw [List.foldl_nil] at hp
   rw [hp,Option.some.injEq] at hp'
   subst hp'; exact Rat.le_refl
 | x :: l, b, hb => by
   have hs : ∃ p,bestS b x = some p /\ p.2 = sumQ p.1 /\ (p.1 = x \/ b = some p) /\ p.2 <= sumQ x /\ ∀ p',b = some p' -> p.2 <= p'.2:=by
    cases b with
    | none=>exact ⟨(x,sumQ x),rfl,rfl,.inl rfl,Rat.le_refl,fun p' h=>by cases h⟩
    | some q =>
      simp only [bestS]
      by_cases h : sumQ x < q.2
      ·rw [if_pos h]
       exact ⟨(x,sumQ x),rfl,rfl,.inl rfl,Rat.le_refl,fun p' h'=>by simp only [Option.some.injEq] at h'; subst h'; exact Rat.le_of_lt h⟩
      ·rw [if_neg h]
       exact ⟨q,rfl,hb q rfl,.inr rfl,by grind,fun p' h'=>by simp only [Option.some.injEq] at h'; subst h'; exact Rat.le_refl⟩
   obtain ⟨q,h1,h2,h3,h4,h5⟩:=hs
   rw [List.foldl_cons,h1]
   obtain ⟨i1,i2⟩:=best_fold l (some q) fun p hp=>by simp only [Option.some.injEq] at hp; subst hp; exact h2
   refine ⟨fun p hp=>?_,fun h=>absurd (i2 h).1 (by simp)⟩
   obtain ⟨j1,j2,j3,j4⟩:=i1 p hp
   have j5:=j4 q rfl
   refine ⟨j1,?_,fun y hy=>?_,fun p' hp'=>by have:=h5 p' hp'; grind⟩
   ·rcases j2 with h | h
    ·exact .inl (List.mem_cons_of_mem _ h)
    ·simp only [Option.some.injEq] at h
     subst h
     rcases h3 with h | h
     ·exact .inl (by rw [h]; simp)
     ·exact .inr h
   ·rcases List.mem_cons.1 hy with rfl | hy
    ·grind
    ·exact j3 y hy
theorem best_some {l : List (List _root_.Rat)} (h : l ≠ []) : ∃ p,bestQ l = some p /\ p.2 = sumQ p.1 /\ p.1 ∈ l /\ ∀ x ∈ l,p.2 <= sumQ x:=by
 obtain ⟨h1,h2⟩:=best_fold l none (fun p h=>by cases h)
 cases e : l.foldl bestS none with
 | none=>exact absurd (h2 e).2 h
 | some p =>
   obtain ⟨a,b,c,_⟩:=h1 p e
   refine ⟨p,e,a,?_,c⟩
   rcases b with b | b
   ·exact b
   ·cases b
structure Mat01 (A : List (List _root_.Rat)) (n : Nat) : Prop where
 len : ∀ r ∈ A,r.length = n
 z : ∀ r ∈ A,∀ q ∈ r,q = 0 \/ q = 1
 one : ∀ r ∈ A,∃ q ∈ r,q = 1
def feasC (A : List (List _root_.Rat)) (n : Nat) (y : Nat -> _root_.Rat) : Prop:=(∀ k,k < n -> 0 <= y k) /\ ∀ r ∈ A,1 <= dotF n (fnL r) y
theorem unit_get {n j k : Nat} (hk : k < n) : fnL (unitR n j) k = if k = j then 1 else 0:=by
 rw [fnL,gd (by simpa [unitR] using hk)]; simp [unitR]
theorem app_get {r : List _root_.Rat} {n : Nat} {b : _root_.Rat} (hr : r.length = n) : (∀ k,k < n -> fnL (r ++ [b]) k = fnL r k) /\ fnL (r ++ [b]) n = b:=by
 constructor
 ·intro k hk
  rw [fnL,fnL,gd (by simp; omega),gd (by omega),List.getElem_append_left]
 ·rw [fnL,gd (by simp; omega)]
  simp [<- hr]
theorem aug_mem {A : List (List _root_.Rat)} {n : Nat} {r : List _root_.Rat} : r ∈ augR A n ↔ (∃ a ∈ A,r = a ++ [1]) \/ ∃ j,j < n /\ r = unitR n j ++ [0]:=by
 simp only [augR,List.mem_append,List.mem_map,List.mem_range]
 constructor
 ·rintro (⟨a,h,rfl⟩ | ⟨j,h,rfl⟩)
  ·exact .inl ⟨a,h,rfl⟩
  ·exact .inr ⟨j,h,rfl⟩
 ·rintro (⟨a,h,rfl⟩ | ⟨j,h,rfl⟩)
  ·exact .inl ⟨a,h,rfl⟩
  ·exact .inr ⟨j,h,rfl⟩
theorem aug_len {A : List (List _root_.Rat)} {n : Nat} (h : Mat01 A n) : ∀ r ∈ augR A n,r.length = n + 1:=fun r hr=>by
 rcases aug_mem.1 hr with ⟨a,ha,rfl⟩ | ⟨j,_,rfl⟩
 ·simp [h.len a ha]
 ·simp [unitR]
theorem aug_01 {A : List (List _root_.Rat)} {n : Nat} (h : Mat01 A n) : ∀ r ∈ augR A n,∀ q ∈ r,q = 0 \/ q = 1:=fun r hr q hq=>by
 rcases aug_mem.1 hr with ⟨a,ha,rfl⟩ | ⟨j,_,rfl⟩
 ·rcases List.mem_append.1 hq with hq | hq
  ·exact h.z a ha q hq
  ·exact .inr (List.mem_singleton.1 hq)
 ·rcases List.mem_append.1 hq with hq | hq
  ·obtain ⟨k,_,rfl⟩:=List.mem_map.1 hq
   split
   ·exact .inr rfl
   ·exact .inl rfl
  ·exact .inl (List.mem_singleton.1 hq)
theorem bd_01 {n : Nat} {M : List (List _root_.Rat)} (hl : M.length = n) (h : ∀ r ∈ M,∀ q ∈ r,q = 0 \/ q = 1) : Bd n 0 M:=by
 refine ⟨1,by omega,by simp [cbQ],fun i hi=>⟨1,fun k=>if rowQ M i k = 1 then 1 else 0,⟨by omega,by simp [cbQ],fun k _=>?_,fun k _=>?_⟩,fun h=>by omega⟩⟩
 ·have hr:=h _ (getD_mem' (i:=i) (d:=[]) (by omega))
  have : rowQ M i k = 0 \/ rowQ M i k = 1:=by
   by_cases hk : k < (M.getD i []).length
   ·rw [rowQ,fnL,gd hk]
    exact hr _ (List.getElem_mem hk)
   ·left
    rw [rowQ,fnL,List.getD,List.getElem?_eq_none (by omega)]; rfl
  rcases this with e | e
  ·rw [e,if_neg (by grind)]; simp
  ·rw [e,if_pos rfl]; simp
 ·simp only [bbQ]
  split <;> decide
theorem range_fn {n : Nat} {v : Nat -> _root_.Rat} {k : Nat} (hk : k < n) : fnL ((List.range n).map v) k = v k:=by
 rw [fnL,gd (by simpa using hk)]; simp
theorem min_cov {A : List (List _root_.Rat)} {n : Nat} (h : Mat01 A n) : ∃ p,minQ A n = some p /\ p.1.length = n /\ p.2 = dotF n (fun _=>1) (fnL p.1) /\ feasC A n (fnL p.1) /\ ∀ y,feasC A n y -> p.2 <= dotF n (fun _=>1) y:=by
 have hrow : ∀ r ∈ augR A n,r.length = n + 1:=aug_len h
 have key : ∀ y,feasC A n y -> ∃ x ∈ ptsQ A n,x.length = n /\ sumQ x <= dotF n (fun _=>1) y:=fun y hy=>by
  obtain ⟨C,hC⟩ : ∃ C : List Cst,C = (augR A n).map fun r=>(fnL r,fnL r n):=⟨_,rfl⟩
  have hfe : ∀ y,feasF n C y ↔ feasC A n y:=fun y=>by
   constructor
   ·intro hf
    refine ⟨fun k hk=>?_,fun r hr=>?_⟩
    ·have h1:=hf (fnL (unitR n k ++ [0]),fnL (unitR n k ++ [0]) n) (by rw [hC]; exact List.mem_map.2 ⟨_,aug_mem.2 (.inr ⟨k,hk,rfl⟩),rfl⟩)
     have h2:=app_get (r:=unitR n k) (n:=n) (b:=0) (by simp [unitR])
     simp only [h2.2] at h1
     rw [dotF_congr (a':=fnL (unitR n k)) (x':=y) h2.1 (fun _ _=>rfl),dotF_one (j:=k) hk fun i hi hik=>by rw [unit_get hi,if_neg hik]; grind,unit_get hk,if_pos rfl] at h1
     grind
    ·have h1:=hf (fnL (r ++ [1]),fnL (r ++ [1]) n) (by rw [hC]; exact List.mem_map.2 ⟨_,aug_mem.2 (.inl ⟨r,hr,rfl⟩),rfl⟩)
     have h2:=app_get (r:=r) (n:=n) (b:=1) (h.len r hr)
     simp only [h2.2] at h1
     rwa [dotF_congr (a':=fnL r) (x':=y) h2.1 (fun _ _=>rfl)] at h1
   ·rintro ⟨h1,h2⟩ p hp
    rw [hC] at hp
    obtain ⟨r,hr,rfl⟩:=List.mem_map.1 hp
    rcases aug_mem.1 hr with ⟨a,ha,rfl⟩ | ⟨j,hj,rfl⟩
    ·have h3:=app_get (r:=a) (n:=n) (b:=1) (h.len a ha)
     simp only [h3.2]
     rw [dotF_congr (a':=fnL a) (x':=y) h3.1 (fun _ _=>rfl)]
     exact h2 a ha
    ·have h3:=app_get (r:=unitR n j) (n:=n) (b:=0) (by simp [unitR])
     simp only [h3.2]
     rw [dotF_congr (a':=fnL (unitR n j)) (x':=y) h3.1 (fun _ _=>rfl),dotF_one (j:=j) hj fun i hi hik=>by rw [unit_get hi,if_neg hik]; grind,unit_get hj,if_pos rfl]
     have:=h1 j hj
     grind
  obtain ⟨v,v1,v2,v3⟩:=vert_ex (n:=n) (C:=C) (c:=fun _=>1) (fun _ _=>by show (0 : _root_.Rat) <= 1; decide) (fun k hk=>by
   refine ⟨(fnL (unitR n k ++ [0]),fnL (unitR n k ++ [0]) n),by rw [hC]; exact List.mem_map.2 ⟨_,aug_mem.2 (.inr ⟨k,hk,rfl⟩),rfl⟩,?_,fun x=>?_⟩
   ·exact (app_get (by simp [unitR])).2
   ·have h2:=app_get (r:=unitR n k) (n:=n) (b:=0) (by simp [unitR])
    simp only
    rw [dotF_congr (a':=fnL (unitR n k)) (x':=x) h2.1 (fun _ _=>rfl),dotF_one (j:=k) hk fun i hi hik=>by rw [unit_get hi,if_neg hik]; grind,unit_get hk,if_pos rfl]
    grind) _ y ((hfe y).2 hy) (Nat.le_refl _)
  obtain ⟨B,hB,hBl,hBk⟩:=ker_sub _ _ (Nat.le_refl _) v3
  have he : (C.filter (tgt n v)).map Prod.fst = ((augR A n).filter fun r=>tgt n v (fnL r,fnL r n)).map fnL:=by
   rw [hC,List.filter_map,List.map_map]
   rfl
  rw [he] at hB
  obtain ⟨M,hM,rfl⟩:=List.sublist_map_iff.1 hB
  have hMs : M.Sublist (augR A n):=hM.trans List.filter_sublist
  have hMt : ∀ r ∈ M,dotF n (fnL r) v = fnL r n:=fun r hr=>by
   have:=(List.mem_filter.1 (hM.subset hr)).2
   simpa [tgt] using this
  have hMl : M.length = n:=by simpa using hBl
  have hMr : ∀ r ∈ M,r.length = n + 1:=fun r hr=>hrow r (hMs.subset hr)
  have hMb : Bd n 0 M:=bd_01 hMl fun r hr=>aug_01 h r (hMs.subset hr)
  have hs:=sol_some hMl hMr hMb hBk hMt
  have hvf:=(hfe v).1 v1
  have hsum : sumQ ((List.range n).map v) = dotF n (fun _=>1) v:=by
   rw [sumQ,List.length_map,List.length_range]
   exact dotF_congr (fun _ _=>rfl) fun k hk=>range_fn hk
  refine ⟨(List.range n).map v,pts_mem.2 ⟨M,hMs,hMl,hs,?_⟩,by simp,?_⟩
  ·simp only [feasQ,Bool.and_eq_true,List.all_eq_true,decide_eq_true_eq,List.length_map,List.length_range]
   refine ⟨fun q hq=>?_,fun r hr=>?_⟩
   ·obtain ⟨k,hk,rfl⟩:=List.mem_map.1 hq
    exact hvf.1 k (List.mem_range.1 hk)
   ·rw [dotF_congr (a':=fnL r) (x':=v) (fun _ _=>rfl) fun k hk=>range_fn hk]
    exact hvf.2 r hr
  ·rw [hsum]; exact v2
 have h1 : feasC A n (fun _=>1):=by
  refine ⟨fun _ _=>by show (0 : _root_.Rat) <= 1; decide,fun r hr=>?_⟩
  obtain ⟨q,hq,rfl⟩:=h.one r hr
  obtain ⟨i,hi,hqi⟩:=List.mem_iff_getElem.1 hq
  have hl:=h.len r hr
  have hz : ∀ k,k < n -> 0 <= fnL r k:=fun k hk=>by
   rw [fnL,gd (by omega)]
   rcases h.z r hr _ (List.getElem_mem (show k < r.length by omega)) with e | e <;> rw [e] <;> decide
  have hd : dotF n (fnL r) (fun _=>1) = dotF n (fun k=>fnL r k - if k = i then 1 else 0) (fun _=>1) + dotF n (fun k=>if k = i then 1 else 0) (fun _=>1):=by
   rw [dotF_comm (fun k=>fnL r k - if k = i then 1 else 0),dotF_comm (fun k=>if k = i then (1 : _root_.Rat) else 0),<- dotF_add,dotF_comm]
   exact dotF_congr (fun _ _=>rfl) fun k _=>by grind
  have h2 : 0 <= dotF n (fun k=>fnL r k - if k = i then 1 else 0) (fun _=>1):=dotF_nonneg fun k hk=>by
   by_cases e : k = i
   ·subst e
    have : fnL r k = 1:=by rw [fnL,gd hi,hqi]
    rw [this,if_pos rfl]; grind
   ·have:=hz k hk
    rw [if_neg e]; grind
  have h3 : dotF n (fun k=>if k = i then (1 : _root_.Rat) else 0) (fun _=>1) = 1:=by
   rw [dotF_one (j:=i) (by omega) fun k _ hk=>by rw [if_neg hk]; grind,if_pos rfl]
   grind
  rw [hd,h3]
  grind
 obtain ⟨x0,hx0,_⟩:=key _ h1
 obtain ⟨p,p1,p2,p3,p4⟩:=best_some (List.ne_nil_of_mem hx0)
 obtain ⟨M,hM,hMl,hMs,hMf⟩:=pts_mem.1 p3
 have hpl : p.1.length = n:=by
  rw [solQ] at hMs
  cases e : gj M n with
  | none=>rw [e] at hMs; cases hMs
  | some m=>rw [e,Option.map_some,Option.some.injEq] at hMs; rw [<- hMs]; simp [outM]
 refine ⟨p,p1,hpl,by rw [p2,sumQ,hpl],?_,fun y hy=>?_⟩
 ·simp only [feasQ,Bool.and_eq_true,List.all_eq_true,decide_eq_true_eq,hpl] at hMf
  exact ⟨fun k hk=>by rw [fnL,gd (by omega)]; exact hMf.1 _ (List.getElem_mem _),hMf.2⟩
 ·obtain ⟨x,hx,_,hs⟩:=key y hy
  have:=p4 x hx
  grind
theorem tdiv_dvd {a b : Int} (h : b ∣ a) : a.tdiv b = a / b:=Int.tdiv_eq_ediv_of_dvd h
theorem q_norm (n d : Int) (hd : 0 < d) : (_root_.Rat.divInt n d).num = n.tdiv (Nat.gcd n.natAbs d.natAbs : Nat) /\ (((_root_.Rat.divInt n d).den : Nat) : Int) = d.tdiv (Nat.gcd n.natAbs d.natAbs : Nat):=by
 have e : _root_.Rat.divInt n d = _root_.Rat.normalize n d.natAbs (by omega):=by
  have : d = (d.natAbs : Int):=by omega
  conv=>lhs; rw [this]
  show _root_.mkRat n d.natAbs = _
  rw [_root_.Rat.normalize_eq_mkRat]
 rw [e,_root_.Rat.normalize_eq]
 simp only
 have h1 : ((Nat.gcd n.natAbs d.natAbs : Nat) : Int) ∣ n:=Int.ofNat_dvd_left.2 (Nat.gcd_dvd_left _ _)
 have h2 : ((Nat.gcd n.natAbs d.natAbs : Nat) : Int) ∣ d:=Int.ofNat_dvd_left.2 (Nat.gcd_dvd_right _ _)
 rw [tdiv_dvd h1,tdiv_dvd h2]
 refine ⟨rfl,?_⟩
 rw [Int.natCast_ediv]
 congr 1
 omega
theorem q_add (a b : _root_.Rat) : a + b = _root_.Rat.divInt (a.num * b.den + b.num * a.den) ((a.den : Int) * b.den):=by
 rw [_root_.Rat.add_def,_root_.Rat.normalize_eq_mkRat]
 rfl
theorem q_mul (a b : _root_.Rat) : a * b = _root_.Rat.divInt (a.num * b.num) ((a.den : Int) * b.den):=by
 rw [_root_.Rat.mul_def,_root_.Rat.normalize_eq_mkRat]
 rfl
theorem q_self (a : _root_.Rat) : _root_.Rat.divInt a.num a.den = a:=_root_.Rat.num_divInt_den a
theorem q_div (a b : _root_.Rat) : a / b = _root_.Rat.divInt (a.num * b.den) ((a.den : Int) * b.num):=by
 rw [_root_.Rat.div_def,_root_.Rat.inv_def]
 conv=>lhs; rw [<- q_self a]
 rw [_root_.Rat.divInt_mul_divInt]
theorem q_flip (n d : Int) : _root_.Rat.divInt (-n) (-d) = _root_.Rat.divInt n d:=_root_.Rat.neg_divInt_neg n d
theorem q_neg (a : _root_.Rat) : (-a).num = - a.num /\ (-a).den = a.den:=⟨rfl,rfl⟩
theorem q_sub (a b : _root_.Rat) : a - b = a + -b:=by grind
def r01 (b : Bool) : _root_.Rat:=if b then 1 else 0
def covM (atoms : List PAtom) (bag : List Int) : List (List _root_.Rat):=bag.map fun v=>atoms.map fun a=>r01 (a.vars.contains v)
def widQ (atoms : List PAtom) (bag : List Int) : _root_.Rat:=((minQ (covM atoms bag) atoms.length).map (·.2)).getD 0
def covered (atoms : List PAtom) (bag : List Int) : Prop:=∀ v ∈ bag,∃ a ∈ atoms,v ∈ a.vars
theorem covM_01 {atoms : List PAtom} {bag : List Int} (h : covered atoms bag) : Mat01 (covM atoms bag) atoms.length:=by
 refine ⟨fun r hr=>?_,fun r hr q hq=>?_,fun r hr=>?_⟩
 ·obtain ⟨v,_,rfl⟩:=List.mem_map.1 hr; simp
 ·obtain ⟨v,_,rfl⟩:=List.mem_map.1 hr
  obtain ⟨a,_,rfl⟩:=List.mem_map.1 hq
  simp only [r01]; split <;> simp
 ·obtain ⟨v,hv,rfl⟩:=List.mem_map.1 hr
  obtain ⟨a,ha,hva⟩:=h v hv
  exact ⟨1,List.mem_map.2 ⟨a,ha,by simp [r01,hva]⟩,rfl⟩
theorem wid_min {atoms : List PAtom} {bag : List Int} (h : covered atoms bag) : ∃ p,minQ (covM atoms bag) atoms.length = some p /\ p.2 = widQ atoms bag /\ p.1.length = atoms.length /\
  p.2 = dotF atoms.length (fun _=>1) (fnL p.1) /\ feasC (covM atoms bag) atoms.length (fnL p.1) /\ ∀ y,feasC (covM atoms bag) atoms.length y -> p.2 <= dotF atoms.length (fun _=>1) y:=by
 obtain ⟨p,h1,h2,h3,h4,h5⟩:=min_cov (covM_01 h)
 exact ⟨p,h1,by simp [widQ,h1],h2,h3,h4,h5⟩
def qR (q : _root_.Rat) : PRat:=⟨q.num,q.den⟩
theorem qR_inj {a b : _root_.Rat} : qR a = qR b ↔ a = b:=by
 constructor
 ·intro h
  have h1 : a.num = b.num:=congrArg PRat.num h
  have h2 : (a.den : Int) = b.den:=congrArg PRat.den h
  exact _root_.Rat.ext h1 (by omega)
 ·rintro rfl; rfl
def cmpQ (a b : _root_.Rat) : Int:=if a < b then -1 else if b < a then 1 else 0
theorem cmpQ_lt {a b : _root_.Rat} : cmpQ a b < 0 ↔ a < b:=by
 unfold cmpQ
 split
 ·simp [*]
 ·split <;> simp [*]
theorem cmpQ_eq {a b : _root_.Rat} : cmpQ a b = (if a.num * b.den < b.num * a.den then -1 else if b.num * a.den < a.num * b.den then 1 else 0):=by
 unfold cmpQ
 simp only [_root_.Rat.lt_iff]
theorem mulB {a b : Int} {x y : Nat} (ha : a.natAbs <= x) (hb : b.natAbs <= y) : (a * b).natAbs <= x * y:=natAbs_mul_le ha hb
theorem num_ne {q : _root_.Rat} (h : q ≠ 0) : q.num ≠ 0:=fun e=>h (_root_.Rat.num_eq_zero.1 e)
theorem sm_pos {q : _root_.Rat} : 0 < (q.den : Int):=by have:=q.den_pos; omega
theorem sm_gcd (q : _root_.Rat) : Nat.gcd q.num.natAbs q.den = 1:=q.reduced
theorem sm_neg {q : _root_.Rat} (h : smQ q) : smQ (-q):=⟨by have:=h.1; simp [(q_neg q).1]; exact this,by have:=h.2; simp [(q_neg q).2]; exact this⟩
theorem sm_zero : smQ 0:=by constructor <;> decide
theorem sm_one : smQ 1:=by constructor <;> decide
theorem sm_mul {a b : _root_.Rat} (ha : smQ a) (hb : smQ b) : (a.num * b.den).natAbs <= 1000000000000000000 /\ (b.num * a.den).natAbs <= 1000000000000000000 /\ (a.num * b.num).natAbs <= 1000000000000000000 /\ ((a.den : Int) * b.den).natAbs <= 1000000000000000000 /\ ((a.den : Int) * b.num).natAbs <= 1000000000000000000:=by
 have h1:=ha.1
 have h2:=ha.2
 have h3:=hb.1
 have h4:=hb.2
 exact ⟨mulB h1 (y:=1000000000) (by omega),mulB h3 (y:=1000000000) (by omega),mulB h1 h3,mulB (x:=1000000000) (y:=1000000000) (by omega) (by omega),mulB (x:=1000000000) (by omega) h3⟩
theorem den_mul {a b : _root_.Rat} : (0 : Int) < (a.den : Int) * b.den:=Int.mul_pos sm_pos sm_pos
theorem norm_num {n d : Int} {q : _root_.Rat} (hq : q = _root_.Rat.divInt n d) (hd : 0 < d) : n.tdiv (Nat.gcd n.natAbs d.natAbs : Nat) = q.num /\ d.tdiv (Nat.gcd n.natAbs d.natAbs : Nat) = q.den:=by
 subst hq
 have:=q_norm n d hd
 exact ⟨this.1.symm,this.2.symm⟩
theorem gcd_le {n d : Int} (hd : 0 < d) : 1 <= Nat.gcd n.natAbs d.natAbs /\ ((Nat.gcd n.natAbs d.natAbs : Nat) : Int) <= d:=by
 have h1 : 0 < d.natAbs:=by omega
 have h2:=Nat.gcd_pos_of_pos_right n.natAbs h1
 have h3:=Nat.gcd_le_right n.natAbs h1
 omega
theorem tmod_nat (a b : Nat) : ((a : Int).tmod (b : Int)) = ((a % b : Nat) : Int):=by
 rw [Int.tmod_eq_emod_of_nonneg (by omega)]; simp
theorem sm_i {q : _root_.Rat} (h : smQ q) : -1000000000 <= q.num /\ q.num <= 1000000000 /\ (1 : Int) <= q.den /\ (q.den : Int) <= 1000000000:=by
 have h1:=h.1
 have h2:=h.2
 have h3:=q.den_pos
 omega
def eQ (q : _root_.Rat) : List D:=eRat (qR q)
def cR (T : TypeId × Nat) (r : Nat × List _root_.Rat) : List D:=[.sl (some r.1) (some T) (r.2.map eQ)]
theorem eQ_def (q : _root_.Rat) : eQ q = [.int .i64 q.num,.int .i64 (q.den : Int)]:=rfl
@[simp] theorem eQ_len (q : _root_.Rat) : (eQ q).length = 2:=rfl
@[simp] theorem ids_eQ (q : _root_.Rat) : idsL (eQ q) = []:=rfl
@[simp] theorem ids_eQs (l : List _root_.Rat) : idsLL (l.map eQ) = [] := by
  induction l with
  | nil=>rfl
  | cons a r ih=>simp [idsLL,ih]
@[simp] theorem hp_eQs (l : List _root_.Rat) : hpLL (l.map eQ) = false := by
  induction l with
  | nil=>rfl
  | cons a r ih=>simp [hpLL,hpL,eQ,eRat,cI,D.hp] at ih ⊢
@[simp] theorem tk_eQs (l : List _root_.Rat) : tkLL (l.map eQ) = true := by
  induction l with
  | nil=>rfl
  | cons a r ih=>simp [tkLL,ih,eQ,eRat,cI,tkL,D.tk]
@[simp] theorem re_eQs (φ : Nat → Option D) (l : List _root_.Rat) : reLL φ (l.map eQ) = some (l.map eQ) := by
  induction l with
  | nil=>rfl
  | cons a r ih=>simp [reLL,ih,eQ,eRat,cI,reL,reD]
@[simp] theorem ids_cR (T : TypeId × Nat) (r : Nat × List _root_.Rat) : idsL (cR T r) = [r.1]:=by simp [cR,idsL,D.ids]
@[simp] theorem ids_cRs (T : TypeId × Nat) (l : List (Nat × List _root_.Rat)) : idsLL (l.map (cR T)) = l.map (·.1) := by
  induction l with
  | nil=>rfl
  | cons a r ih=>simp [idsLL,ih]
@[simp] theorem cR_len (T : TypeId × Nat) (r : Nat × List _root_.Rat) : (cR T r).length = 1:=rfl
@[simp] theorem hp_cRs (T : TypeId × Nat) (l : List (Nat × List _root_.Rat)) : hpLL (l.map (cR T)) = false := by
  induction l with
  | nil=>rfl
  | cons a r ih=>simp [hpLL,hpL,cR,D.hp] at ih ⊢
@[simp] theorem tk_cRs (T : TypeId × Nat) (l : List (Nat × List _root_.Rat)) : tkLL (l.map (cR T)) = true := by
  induction l with
  | nil=>rfl
  | cons a r ih=>simp [tkLL,ih,cR,tkL,D.tk]
theorem len_eQs {l l' : List _root_.Rat} (h : l'.length = l.length) : (l'.map eQ).map List.length = (l.map eQ).map List.length:=by
 simp only [List.map_map,Function.comp_def,eQ_len,List.map_const',h]
theorem nd_idx {α : Type} {l : List α} (h : l.Nodup) {i j : Nat} {a : α} (hi : l[i]? = some a) (hj : l[j]? = some a) : i = j:=by
 obtain ⟨hi',ei⟩:=List.getElem?_eq_some_iff.1 hi
 obtain ⟨hj',ej⟩:=List.getElem?_eq_some_iff.1 hj
 have h1:=List.pairwise_iff_getElem.1 h
 refine Classical.byContradiction fun hne=>?_
 rcases Nat.lt_or_gt_of_ne hne with hlt | hlt
 ·exact h1 i j hi' hj' hlt (ei.trans ej.symm)
 ·exact h1 j i hj' hi' hlt (ej.trans ei.symm)
theorem re_rowQ {φ : Nat -> Option D} {gm : Nat} {TM : Option (TypeId × Nat)} {T : TypeId × Nat} {rows : List (Nat × List _root_.Rat)} {i : Nat} {g : Nat} {r r' : List _root_.Rat} (hi : rows[i]? = some (g,r)) (hl : r'.length = r.length)
  (hnd : (rows.map (·.1)).Nodup) (hgm : φ gm = none) (hg : φ g = some (.sl (some g) (some T) (r'.map eQ))) (ho : ∀ q ∈ rows.map (·.1),q ≠ g -> φ q = none) :
  reV φ (.d (.sl (some gm) TM (rows.map (cR T)))) = .d (.sl (some gm) TM ((rows.set i (g,r')).map (cR T))):=by
 obtain ⟨hlt,he⟩:=List.getElem?_eq_some_iff.1 hi
 have h1 : rows.map (cR T) = (rows.map (cR T)).set i (cR T (g,r)):=by
  rw [<- he,set_same (by simp [hlt])]
 rw [h1,<- set_map]
 refine re_elemD hgm ?_ (fun j e hji hj q hq=>?_) (by simp)
 ·simp only [cR,reL,reD,hg]
  rw [if_pos ⟨trivial,rfl,trivial,len_eQs hl⟩]
 ·rw [List.getElem?_map] at hj
  cases hr : rows[j]? with
  | none=>simp [hr] at hj
  | some p =>
    simp only [hr,Option.map_some,Option.some.injEq] at hj
    subst hj
    simp only [ids_cR,List.mem_singleton] at hq
    subst hq
    have hpm : p ∈ rows:=List.mem_of_getElem? hr
    refine ho _ (List.mem_map.2 ⟨p,hpm,rfl⟩) fun e=>hji ?_
    obtain ⟨hj',hjp⟩:=List.getElem?_eq_some_iff.1 hr
    have a1 : (rows.map (·.1))[j]? = some g:=by simp [hr,e]
    have a2 : (rows.map (·.1))[i]? = some g:=by simp [hi]
    exact nd_idx hnd a1 a2
theorem VC.erase {P : Program} {f : FuncId} {args : List V} {post : Nat -> V -> Prop} {v : V} (h : VC P f args post) (hv : ∀ n r,post n r -> rp (fun _=>none) r = some v) : VC P f args (fun _ r=>r = v):=by
 refine ⟨h.1,fun w vals A hg hLR=>(h.2 w vals A hg hLR).mono fun e w' he=>?_⟩
 obtain ⟨val,r,rfl,hb,hvr,_,hp⟩:=he
 have hr:=hv _ _ hp
 exact ⟨val,v,rfl,hb,VR.er _ _ _ hvr hr,rp_rd _ _ hr,rfl⟩
theorem fnL_at {l : List _root_.Rat} {i : Nat} (h : i < l.length) : fnL l i = l[i]:=by rw [fnL,gd h]
structure DotS (n : Nat) (a x : Nat -> _root_.Rat) : Prop where
 sa : ∀ k,k < n -> smQ (a k)
 sx : ∀ k,k < n -> smQ (x k)
 sm : ∀ k,k < n -> smQ (a k * x k)
 ss : ∀ k,k <= n -> smQ (dotF k a x)
theorem sm_01 {q : _root_.Rat} (h : q = 0 \/ q = 1) : smQ q:=by
 rcases h with rfl | rfl
 ·exact sm_zero
 ·exact sm_one
theorem sol_dots {n : Nat} {x : List _root_.Rat} (h : SolB n x) (hn : n <= 4) {a : Nat -> _root_.Rat} (ha : ∀ k,k < n -> a k = 0 \/ a k = 1) : DotS n a (fnL x):=by
 obtain ⟨_,D,hD,hDb,hX⟩:=h
 have hx : ∀ k,k < n -> smQ (fnL x k):=fun k hk=>by
  obtain ⟨X,h1,h2⟩:=hX k hk
  exact rb_sm (N:=67108864) (D:=2048) ⟨D,X,hD,h1,h2,hDb⟩ (by omega) (by omega)
 obtain ⟨c,hc⟩ : ∃ c : Nat,c = 67108864:=⟨_,rfl⟩
 rw [<- hc] at hX
 have hs : ∀ k,k <= n -> ∃ M : Int,dotF k a (fnL x) * (D : _root_.Rat) = (M : _root_.Rat) /\ M.natAbs <= k * c:=by
  intro k
  induction k with
  | zero=>intro _; exact ⟨0,by simp [dotF],by simp⟩
  | succ k ih =>
    intro hk
    obtain ⟨M,h1,h2⟩:=ih (by omega)
    obtain ⟨X,h3,h4⟩:=hX k (by omega)
    rcases ha k (by omega) with e | e
    ·refine ⟨M,?_,by rw [Nat.succ_mul]; omega⟩
     rw [dotF,e]; grind
    ·refine ⟨M + X,?_,by rw [Nat.succ_mul]; omega⟩
     rw [dotF,e,Rat.intCast_add]; grind
 refine ⟨fun k hk=>sm_01 (ha k hk),hx,fun k hk=>?_,fun k hk=>?_⟩
 ·rcases ha k hk with e | e
  ·rw [e,_root_.Rat.zero_mul]; exact sm_zero
  ·rw [e,_root_.Rat.one_mul]; exact hx k hk
 ·obtain ⟨M,h1,h2⟩:=hs k hk
  have h3 : k * c <= 4 * c:=Nat.mul_le_mul_right c (by omega)
  exact rb_sm (N:=268435456) (D:=2048) ⟨D,M,hD,h1,by omega,hDb⟩ (by omega) (by omega)
structure LPok (A : List (List _root_.Rat)) (n : Nat) : Prop where
 m01 : Mat01 A n
 n1 : 1 <= n
 n4 : n <= 4
 m1 : 1 <= A.length
 m5 : A.length <= 5
theorem LPok.sm {A : List (List _root_.Rat)} {n : Nat} (h : LPok A n) {r : List _root_.Rat} (hr : r ∈ A) : ∀ q ∈ r,smQ q:=fun q hq=>sm_01 (h.m01.z r hr q hq)
theorem rep_sm {m : Nat} : ∀ q ∈ List.replicate m (1 : _root_.Rat),smQ q:=fun q hq=>by rw [List.eq_of_mem_replicate hq]; exact sm_one
theorem LPok.dots {A : List (List _root_.Rat)} {n : Nat} {x : List _root_.Rat} (h : LPok A n) (hx : SolB n x) {r : List _root_.Rat} (hr : r ∈ A) : DotS n (fnL r) (fnL x):=
 sol_dots hx h.n4 fun k hk=>by
  have hl:=h.m01.len r hr
  rw [fnL_at (by omega)]
  exact h.m01.z r hr _ (List.getElem_mem _)
theorem sol_sm {n : Nat} {x : List _root_.Rat} (h : SolB n x) (hn : n <= 4) : ∀ q ∈ x,smQ q:=fun q hq=>by
 obtain ⟨i,hi,rfl⟩:=List.mem_iff_getElem.1 hq
 have:=(sol_dots h hn (a:=fun _=>1) fun _ _=>.inr rfl).sx i (by rw [<- h.len]; exact hi)
 rwa [fnL_at hi] at this
theorem one_at {n k : Nat} (h : k < n) : fnL (List.replicate n (1 : _root_.Rat)) k = 1:=by rw [fnL_at (by simpa using h)]; simp
theorem one_dots {n : Nat} {x : List _root_.Rat} (hx : SolB n x) (hn : n <= 4) : DotS n (fnL (List.replicate n (1 : _root_.Rat))) (fnL x):=
 sol_dots hx hn fun k hk=>.inr (one_at hk)
theorem nneg_num {q : _root_.Rat} : 0 <= q ↔ 0 <= q.num:=_root_.Rat.num_nonneg.symm
theorem sumQ_eq {n : Nat} {x : List _root_.Rat} (h : x.length = n) : dotF n (fnL (List.replicate n (1 : _root_.Rat))) (fnL x) = sumQ x:=by
 rw [sumQ,h]; exact dotF_congr (fun k hk=>one_at hk) fun _ _=>rfl
def elimT (p k : Nat) (piv row : List _root_.Rat) : List _root_.Rat:=row.mapIdx fun i x=>if p <= i /\ i < k then x - fnL row p / fnL piv p * fnL piv i else x
@[simp] theorem elimT_len {p k : Nat} {piv row : List _root_.Rat} : (elimT p k piv row).length = row.length:=by simp [elimT]
theorem elimT_zero {p : Nat} {piv row : List _root_.Rat} : elimT p p piv row = row:=by
 apply List.ext_getElem (by simp)
 intro i h1 h2
 simp only [elimT,List.getElem_mapIdx]
 rw [if_neg (by omega)]
theorem elimT_all {p k : Nat} {piv row : List _root_.Rat} (h : row.length <= k) : elimT p k piv row = elimR p piv row:=by
 apply List.ext_getElem (by simp [elimR])
 intro i h1 h2
 have hi : i < row.length:=by simpa using h1
 simp only [elimT,elimR,List.getElem_mapIdx]
 by_cases e : i < p
 ·rw [if_neg (by omega),if_pos e]
 ·rw [if_pos (by omega),if_neg e]
theorem elimT_at {p k : Nat} {piv row : List _root_.Rat} (h : k < row.length) : (elimT p k piv row)[k]'(by simpa using h) = row[k]:=by
 simp only [elimT,List.getElem_mapIdx]
 rw [if_neg (by omega)]
theorem elimT_succ {p k : Nat} {piv row : List _root_.Rat} (hp : p <= k) (h : k < row.length) : elimT p (k + 1) piv row = (elimT p k piv row).set k (row[k] - fnL row p / fnL piv p * fnL piv k):=by
 apply List.ext_getElem (by simp)
 intro i h1 h2
 have hi : i < row.length:=by simpa using h1
 rw [List.getElem_set]
 simp only [elimT,List.getElem_mapIdx]
 by_cases e : k = i
 ·subst e; rw [if_pos rfl,if_pos (by omega)]
 ·rw [if_neg e]
  by_cases e2 : p <= i /\ i < k
  ·rw [if_pos e2,if_pos (by omega)]
  ·rw [if_neg e2,if_neg (by omega)]
structure ElimS (n p : Nat) (piv row : List _root_.Rat) : Prop where
 lr : row.length = n + 1
 lv : piv.length = n + 1
 hp : p <= n
 ne : fnL piv p ≠ 0
 f : smQ (fnL row p / fnL piv p)
 r : ∀ k,k <= n -> smQ (fnL row k)
 v : ∀ k,k <= n -> smQ (fnL piv k)
 q : ∀ k,k <= n -> smQ (fnL row p / fnL piv p * fnL piv k)
 d : ∀ k,k <= n -> smQ (fnL row k - fnL row p / fnL piv p * fnL piv k)
theorem elim_zero {p : Nat} {piv row : List _root_.Rat} (h : fnL row p = 0) : elimR p piv row = row:=by
 apply List.ext_getElem (by simp [elimR])
 intro i h1 h2
 simp only [elimR,List.getElem_mapIdx]
 split
 ·rfl
 ·simp only [h]; grind
def stepQ (p i : Nat) (m : List (List _root_.Rat)) : List (List _root_.Rat):=m.mapIdx fun j r=>if j < i /\ j ≠ p then elimR p (m.getD p []) r else r
@[simp] theorem stepQ_len {p i : Nat} {m : List (List _root_.Rat)} : (stepQ p i m).length = m.length:=by simp [stepQ]
theorem stepQ_zero {p : Nat} {m : List (List _root_.Rat)} : stepQ p 0 m = m:=by
 apply List.ext_getElem (by simp)
 intro i h1 h2
 simp only [stepQ,List.getElem_mapIdx]
 rw [if_neg (by omega)]
theorem stepQ_all {p i : Nat} {m : List (List _root_.Rat)} (h : m.length <= i) : stepQ p i m = stepM p m:=by
 apply List.ext_getElem (by simp [stepM])
 intro j h1 h2
 have hj : j < m.length:=by simpa using h1
 simp only [stepQ,stepM,List.getElem_mapIdx]
 by_cases e : j = p
 ·rw [if_neg (by omega),if_pos e]
 ·rw [if_pos ⟨by omega,e⟩,if_neg e]
theorem stepQ_at {p i : Nat} {m : List (List _root_.Rat)} (h : i < m.length) : (stepQ p i m)[i]'(by simpa using h) = m[i]:=by
 simp only [stepQ,List.getElem_mapIdx]
 rw [if_neg (by omega)]
theorem stepQ_piv {p i : Nat} {m : List (List _root_.Rat)} (h : p < m.length) : (stepQ p i m)[p]'(by simpa using h) = m[p]:=by
 simp only [stepQ,List.getElem_mapIdx]
 rw [if_neg (by simp)]
theorem stepQ_p {p : Nat} {m : List (List _root_.Rat)} : stepQ p (p + 1) m = stepQ p p m:=by
 apply List.ext_getElem (by simp)
 intro j h1 h2
 simp only [stepQ,List.getElem_mapIdx]
 by_cases e : j < p
 ·rw [if_pos (by omega),if_pos (by omega)]
 ·rw [if_neg (by omega),if_neg (by omega)]
theorem stepQ_succ {p i : Nat} {m : List (List _root_.Rat)} (h : i < m.length) (hp : p < m.length) (hne : i ≠ p) : stepQ p (i + 1) m = (stepQ p i m).set i (elimR p m[p] m[i]):=by
 apply List.ext_getElem (by simp)
 intro j h1 h2
 rw [List.getElem_set]
 simp only [stepQ,List.getElem_mapIdx,gd hp]
 by_cases e : i = j
 ·subst e; rw [if_pos ⟨by omega,hne⟩,if_pos rfl]
 ·rw [if_neg e]
  by_cases e2 : j < i /\ j ≠ p
  ·rw [if_pos ⟨by omega,e2.2⟩,if_pos e2]
  ·rw [if_neg (fun h=>e2 ⟨by omega,h.2⟩),if_neg e2]
theorem SafeS.elim {n p i : Nat} {m : List (List _root_.Rat)} (h : SafeS n p m) (hl : m.length = n) (hr : ∀ r ∈ m,r.length = n + 1) (hp : p < n) (hi : i < n) (hne : rowQ m p p ≠ 0) : ElimS n p (m[p]'(by omega)) (m[i]'(by omega)):=by
 have e1 : ∀ j (hj : j < n),rowQ m j = fnL (m[j]'(by omega)):=fun j hj=>by rw [rowQ,gd]
 have:=e1 p hp
 have:=e1 i hi
 refine ⟨hr _ (List.getElem_mem _),hr _ (List.getElem_mem _),by omega,?_,?_,fun k hk=>?_,fun k hk=>?_,fun k hk=>?_,fun k hk=>?_⟩
 ·rw [<- e1 p hp]; exact hne
 ·rw [<- e1 p hp,<- e1 i hi]; exact h.f i hi
 ·rw [<- e1 i hi]; exact h.at_ i k hi hk
 ·rw [<- e1 p hp]; exact h.at_ p k hp hk
 ·rw [<- e1 p hp,<- e1 i hi]; exact h.q i k hi hk
 ·rw [<- e1 p hp,<- e1 i hi]; exact h.d i k hi hk
theorem re_self {g : Nat} {T : TypeId × Nat} {l l' : List _root_.Rat} (h : l'.length = l.length) : reV (one g (.sl (some g) (some T) (l'.map eQ))) (.d (.sl (some g) (some T) (l.map eQ))) = .d (.sl (some g) (some T) (l'.map eQ)):=by
 refine reV_d ?_
 simp only [reD,one,if_true]
 rw [if_pos ⟨trivial,rfl,trivial,len_eQs h⟩]
theorem piv_eq {m : List (List _root_.Rat)} {p k : Nat} (hp : p <= k) (hz : ∀ j,p <= j -> j < k -> rowQ m j p = 0) (h : k = m.length \/ (k < m.length /\ rowQ m k p ≠ 0)) : pivAt m p = k:=by
 have hk : k <= m.length:=by omega
 have key : (m.drop p).findIdx (fun r=>decide (fnL r p ≠ 0)) = k - p:=by
  rcases h with h | ⟨h1,h2⟩
  ·have : (m.drop p).findIdx (fun r=>decide (fnL r p ≠ 0)) = (m.drop p).length:=by
    rw [List.findIdx_eq_length]
    intro x hx
    obtain ⟨j,hj,rfl⟩:=List.mem_iff_getElem.1 hx
    rw [List.length_drop] at hj
    have:=hz (p + j) (by omega) (by omega)
    rw [rowQ,gd (by omega)] at this
    simp only [List.getElem_drop,this,ne_eq,not_true_eq_false,decide_false]
   rw [this,List.length_drop]; omega
  ·rw [List.findIdx_eq (by rw [List.length_drop]; omega)]
   constructor
   ·simp only [List.getElem_drop,decide_eq_true_eq]
    rw [rowQ,gd h1] at h2
    have : p + (k - p) = k:=by omega
    simp only [this]; exact h2
   ·intro j hj
    have:=hz (p + j) (by omega) (by omega)
    rw [rowQ,gd (by omega)] at this
    simp only [List.getElem_drop,this,ne_eq,not_true_eq_false,decide_false]
 unfold pivAt
 rw [key]; omega
theorem gj_none {m0 : List (List _root_.Rat)} {p : Nat} (h : gj m0 p = none) : ∀ q,p <= q -> gj m0 q = none
 | 0, hq => by have : p = 0 := by omega
               subst this; exact h
 | q + 1, hq => by
   by_cases e : p = q + 1
   ·subst e; exact h
   ·rw [gj,gj_none h q (by omega)]; rfl
theorem gj_succ {m0 m : List (List _root_.Rat)} {p : Nat} (h : gj m0 p = some m) : gj m0 (p + 1) = gjStep p m:=by rw [gj,h]; rfl
theorem sol_none {n p : Nat} {m0 m : List (List _root_.Rat)} (h : gj m0 p = some m) (hk : ¬ pivAt m p < m.length) (hp : p < n) : solQ n m0 = none:=by
 rw [solQ,gj_none (p:=p + 1) (by rw [gj_succ h,gjStep,if_neg hk]) n hp]; rfl
structure StpI (n p k : Nat) (R M : List (List _root_.Rat)) : Prop where
 kn : k < n
 pk : p <= k
 safe : SafeS n p (swapM M p k)
 len : (swapM M p k).length = n
 row : ∀ r ∈ swapM M p k,r.length = n + 1
 ne : rowQ (swapM M p k) p p ≠ 0
 nxt : gj R (p + 1) = some (stepM p (swapM M p k))
theorem stp_of {n p k : Nat} {R M : List (List _root_.Rat)} (hn : n <= 4) (hl : R.length = n) (hr : ∀ r ∈ R,r.length = n + 1) (hb : Bd n 0 R) (h : gj R p = some M) (hp : p < n) (hk : pivAt M p = k) (hkn : k < n) : StpI n p k R M:=by
 obtain ⟨g,b⟩:=gj_inv hl hr hb p (by omega) M h
 have hM:=g.len
 have hpl : pivAt M p < M.length:=by omega
 obtain ⟨h1,h2⟩:=piv_lt hpl
 rw [hk] at h1 h2
 have g2:=g.swap h1 hkn
 have b2:=Bd.swap g h1 hkn b
 have hne : rowQ (swapM M p k) p p ≠ 0:=by
  rw [rowQ,swap_get (by omega) (by omega)]
  by_cases e : p = k
  ·rw [if_pos e]; subst e; exact h2
  ·rw [if_neg e,if_pos rfl]; exact h2
 refine ⟨hkn,h1,bd_safe b2 (by omega) hp hne,g2.len,g2.row,hne,?_⟩
 rw [gj_succ h,gjStep,if_pos hpl,hk]
theorem sol_end {n : Nat} {R M : List (List _root_.Rat)} (hn : n <= 4) (hl : R.length = n) (hr : ∀ r ∈ R,r.length = n + 1) (hb : Bd n 0 R) (h : gj R n = some M) :
  M.length = n /\ (∀ r ∈ M,r.length = n + 1) /\ solQ n R = some (outM n M) /\ SolB n (outM n M) /\ (∀ p (hp : p < M.length),fnL M[p] p ≠ 0 /\ smQ (fnL M[p] p) /\ smQ (fnL M[p] n) /\ smQ (fnL M[p] n / fnL M[p] p)):=by
 obtain ⟨g,b⟩:=gj_inv hl hr hb n (Nat.le_refl _) M h
 have hs : solQ n R = some (outM n M):=by rw [solQ,h]; rfl
 have hB:=sol_bd hn hl hr hb hs
 refine ⟨g.len,g.row,hs,hB,fun p hp=>?_⟩
 have hpn : p < n:=by rw [<- g.len]; exact hp
 have e : rowQ M p = fnL M[p]:=by rw [rowQ,gd hp]
 refine ⟨by rw [<- e]; exact g.piv p hpn,by rw [<- e]; exact bd_at b hn hpn (by omega),by rw [<- e]; exact bd_at b hn hpn (Nat.le_refl _),?_⟩
 have:=(sol_dots hB hn (a:=fun _=>1) fun _ _=>.inr rfl).sx p hpn
 rw [fnL,gd (by simpa [outM] using hpn)] at this
 simpa [outM,e] using this
theorem phi_single {g : Nat} {T : Option (TypeId × Nat)} {es : List (List D)} : phi [g] [.sl (some g) T es] = one g (.sl (some g) T es):=by
 funext j
 by_cases e : j = g
 ·subst e; simp [phi,one,lookL,lookD]
 ·simp [phi,one,e]
theorem re_rowout {φ : Nat -> Option D} {g : Nat} {T : Option (TypeId × Nat)} {l : List _root_.Rat} (h : φ g = none) : reV φ (.d (.sl (some g) T (l.map eQ))) = .d (.sl (some g) T (l.map eQ)):=by
 simp [reV,reD,h]
theorem re_mset {gm : Nat} {TM : TypeId × Nat} {es : List (List D)} {i : Nat} {e' : List D} (h : i < es.length) (h1 : e'.length = es[i].length) : reV (one gm (.sl (some gm) (some TM) (es.set i e'))) (.d (.sl (some gm) (some TM) es)) = .d (.sl (some gm) (some TM) (es.set i e')):=
 re_oneSet2 (by simp [List.getD,h,h1])
def swapR (R : List (Nat × List _root_.Rat)) (p k : Nat) : List (Nat × List _root_.Rat):=(R.set p (R.getD k (0,[]))).set k (R.getD p (0,[]))
theorem swapR_snd {R : List (Nat × List _root_.Rat)} {p k : Nat} : (swapR R p k).map (·.2) = swapM (R.map (·.2)) p k:=by
 simp only [swapR,swapM,List.map_set]
 have e : ∀ i,(R.map (·.2)).getD i [] = (R.getD i (0,[])).2:=fun i=>by
  simp only [List.getD_eq_getElem?_getD,List.getElem?_map]
  cases R[i]? <;> rfl
 rw [e,e]
theorem swapR_len {R : List (Nat × List _root_.Rat)} {p k : Nat} : (swapR R p k).length = R.length:=by simp [swapR]
theorem swapR_perm {R : List (Nat × List _root_.Rat)} {p k : Nat} (hp : p < R.length) (hk : k < R.length) : (swapR R p k).Perm R:=by
 have : swapR R p k = (R.set p R[k]).set k R[p]:=by rw [swapR,gd hp,gd hk]
 rw [this]
 exact List.set_set_perm hp hk
theorem app_last {r : List _root_.Rat} {n : Nat} (h : r.length = n + 1) : r.take n ++ [fnL r n] = r:=by
 rw [fnL_at (by omega),List.take_append_getElem (by omega)]
 exact List.take_of_length_le (by omega)
theorem swapR_set {R : List (Nat × List _root_.Rat)} {p k : Nat} (hp : p < R.length) (hk : k < R.length) : swapR R p k = (R.set p R[k]).set k R[p]:=by rw [swapR,gd hp,gd hk]
theorem combs_none {α : Type} : ∀ {n : Nat} {l : List α},l.length < n -> combs n l = []
 | 0,_,h=>by omega
 | n + 1,[],_=>rfl
 | n + 1, a :: l, h => by
   simp only [List.length_cons] at h
   rw [combs,combs_none (n:=n) (by omega),combs_none (n:=n + 1) (by omega)]; rfl
theorem combs_map {α β : Type} (f : α -> β) : ∀ (n : Nat) (l : List α),combs n (l.map f) = (combs n l).map (·.map f)
 | 0,_=>by simp [combs]
 | n + 1,[]=>rfl
 | n + 1, a :: l => by
   rw [List.map_cons,combs,combs,combs_map f n l,combs_map f (n + 1) l,List.map_append,List.map_map,List.map_map]
   rfl
theorem combs_len {α : Type} : ∀ (n : Nat) (l : List α),(combs n l).length <= 2 ^ l.length
 | 0,l=>by simp [combs,Nat.one_le_two_pow]
 | n + 1,[]=>by simp [combs]
 | n + 1, a :: l => by
   have h1:=combs_len n l
   have h2:=combs_len (n + 1) l
   rw [combs,List.length_append,List.length_map,List.length_cons,Nat.pow_succ]
   omega
def rgF (a b : Nat) : List Nat:=List.range' a (b - a)
theorem rgF_cons {a b : Nat} (h : a < b) : rgF a b = a :: rgF (a + 1) b:=by
 unfold rgF
 obtain ⟨k,hk⟩ : ∃ k,b - a = k + 1:=⟨b - a - 1,by omega⟩
 rw [hk,List.range'_succ]
 congr 2; omega
theorem rgF_len {a b : Nat} : (rgF a b).length = b - a:=by simp [rgF]
theorem combs_rg {n a b : Nat} (h : a < b) : combs (n + 1) (rgF a b) = (combs n (rgF (a + 1) b)).map (a :: ·) ++ combs (n + 1) (rgF (a + 1) b):=by
 rw [rgF_cons h,combs]
theorem combs_end {n a b : Nat} (h : b < a + n) (h0 : 0 < n) : combs n (rgF a b) = []:=combs_none (by rw [rgF_len]; omega)
theorem combs_le {n a b : Nat} (h : b <= 9) : (combs n (rgF a b)).length <= 512:=by
 have h1:=combs_len n (rgF a b)
 rw [rgF_len] at h1
 have h2 : 2 ^ (b - a) <= 2 ^ 9:=Nat.pow_le_pow_right (by omega) (by omega)
 omega
def intsN (c : List Nat) : List Int:=c.map Int.ofNat
@[simp] theorem intsN_len (c : List Nat) : (intsN c).length = c.length:=by simp [intsN]
theorem intsN_at {c : List Nat} {i : Nat} (h : i < c.length) : (intsN c)[i]'(by simpa using h) = (c[i] : Int):=by simp [intsN]
def rowsA (AR : List (List _root_.Rat)) (c : List Nat) : List (List _root_.Rat):=c.map fun i=>AR.getD i []
theorem rowsA_len {AR : List (List _root_.Rat)} {c : List Nat} : (rowsA AR c).length = c.length:=by simp [rowsA]
theorem rowsA_mem {AR : List (List _root_.Rat)} {c : List Nat} (h : ∀ i ∈ c,i < AR.length) {r : List _root_.Rat} (hr : r ∈ rowsA AR c) : r ∈ AR:=by
 obtain ⟨i,hi,rfl⟩:=List.mem_map.1 hr
 exact getD_mem' (h i hi)
theorem rg_all (AR : List (List _root_.Rat)) : (rgF 0 AR.length).map (fun i=>AR.getD i []) = AR:=by
 apply List.ext_getElem (by simp [rgF])
 intro i h1 h2
 simp [rgF,List.getD,h2]
theorem combs_AR (n : Nat) (AR : List (List _root_.Rat)) : combs n AR = (combs n (rgF 0 AR.length)).map (rowsA AR):=by
 conv=>lhs; rw [<- rg_all AR]
 rw [combs_map]
 rfl
theorem augR_len {A : List (List _root_.Rat)} {n : Nat} : (augR A n).length = A.length + n:=by simp [augR]
theorem take_app {r : List _root_.Rat} {n : Nat} {b : _root_.Rat} (h : r.length = n) : (r ++ [b]).take n = r /\ fnL (r ++ [b]) n = b:=
 ⟨by rw [List.take_append_of_le_length (by omega),List.take_of_length_le (by omega)],(app_get h).2⟩
theorem unitR_len {n j : Nat} : (unitR n j).length = n:=by simp [unitR]
def foldC (A : List (List _root_.Rat)) (n : Nat) (c : List Nat) (a : Nat) (out : List (List _root_.Rat)) : List (List _root_.Rat):=
 ((combs (n - c.length) (rgF a (A.length + n))).map fun s=>rowsA (augR A n) (c ++ s)).foldl (ptStep A n) out
theorem foldC_full {A : List (List _root_.Rat)} {n : Nat} {c : List Nat} {a : Nat} {out : List (List _root_.Rat)} (h : c.length = n) : foldC A n c a out = ptStep A n out (rowsA (augR A n) c):=by
 unfold foldC
 rw [show n - c.length = 0 by omega]
 simp [combs]
theorem foldC_step {A : List (List _root_.Rat)} {n : Nat} {c : List Nat} {a : Nat} {out : List (List _root_.Rat)} (h : c.length < n) (ha : a < A.length + n) : foldC A n c a out = foldC A n c (a + 1) (foldC A n (c ++ [a]) (a + 1) out):=by
 unfold foldC
 obtain ⟨k,hk⟩ : ∃ k,n - c.length = k + 1:=⟨n - c.length - 1,by omega⟩
 rw [hk,combs_rg ha,List.map_append,List.foldl_append,List.map_map]
 have e : n - (c ++ [a]).length = k:=by simp; omega
 rw [e]
 congr 2
 apply List.map_congr_left
 intro s _
 simp
theorem foldC_end {A : List (List _root_.Rat)} {n : Nat} {c : List Nat} {a : Nat} {out : List (List _root_.Rat)} (h : c.length < n) (ha : A.length + n <= a) : foldC A n c a out = out:=by
 unfold foldC
 rw [combs_end (by omega) (by omega)]; rfl
theorem foldC_all (A : List (List _root_.Rat)) (n : Nat) : foldC A n [] 0 [] = ptsQ A n:=by
 unfold foldC ptsQ
 rw [combs_AR,augR_len]
 simp
theorem ptStep_len {A : List (List _root_.Rat)} {n : Nat} {out M : List (List _root_.Rat)} : (ptStep A n out M).length <= out.length + 1:=by
 unfold ptStep
 split
 ·split
  ·unfold addPt; split <;> simp
  ·omega
 ·omega
theorem fold_len {A : List (List _root_.Rat)} {n : Nat} : ∀ (l : List (List (List _root_.Rat))) (out : List (List _root_.Rat)),(l.foldl (ptStep A n) out).length <= out.length + l.length
 | [],out=>by simp
 | M :: l, out => by
   have:=fold_len (A:=A) (n:=n) l (ptStep A n out M)
   have:=ptStep_len (A:=A) (n:=n) (out:=out) (M:=M)
   simp only [List.foldl_cons,List.length_cons]
   omega
def cntC (A : List (List _root_.Rat)) (n : Nat) (c : List Nat) (a : Nat) : Nat:=(combs (n - c.length) (rgF a (A.length + n))).length
theorem cntC_step {A : List (List _root_.Rat)} {n : Nat} {c : List Nat} {a : Nat} (h : c.length < n) (ha : a < A.length + n) : cntC A n c a = cntC A n (c ++ [a]) (a + 1) + cntC A n c (a + 1):=by
 unfold cntC
 obtain ⟨k,hk⟩ : ∃ k,n - c.length = k + 1:=⟨n - c.length - 1,by omega⟩
 have e : n - (c ++ [a]).length = k:=by simp; omega
 rw [hk,combs_rg ha,e]
 simp
theorem foldC_len {A : List (List _root_.Rat)} {n : Nat} {c : List Nat} {a : Nat} {out : List (List _root_.Rat)} : (foldC A n c a out).length <= out.length + cntC A n c a:=by
 unfold foldC cntC
 have:=fold_len (A:=A) (n:=n) ((combs (n - c.length) (rgF a (A.length + n))).map fun s=>rowsA (augR A n) (c ++ s)) out
 simpa using this
theorem cntC_full {A : List (List _root_.Rat)} {n : Nat} {c : List Nat} {a : Nat} (h : c.length = n) : cntC A n c a = 1:=by
 unfold cntC
 rw [show n - c.length = 0 by omega]
 simp [combs]
theorem cntC_all {A : List (List _root_.Rat)} {n : Nat} (h : A.length + n <= 9) : cntC A n [] 0 <= 512:=by
 unfold cntC
 exact combs_le h
theorem pts_sol {A : List (List _root_.Rat)} {n : Nat} (h : LPok A n) : ∀ x ∈ ptsQ A n,SolB n x:=fun x hx=>by
 obtain ⟨M,h1,h2,h3,_⟩:=pts_mem.1 hx
 have hr : ∀ r ∈ M,r.length = n + 1:=fun r hr=>aug_len h.m01 r (h1.subset hr)
 have h01 : ∀ r ∈ M,∀ q ∈ r,q = 0 \/ q = 1:=fun r hr=>aug_01 h.m01 r (h1.subset hr)
 exact sol_bd h.n4 h2 hr (bd_01 h2 h01) h3
theorem pts_len {A : List (List _root_.Rat)} {n : Nat} (h : LPok A n) : (ptsQ A n).length <= 512:=by
 have h1:=h.n4
 have h2:=h.m5
 have:=foldC_len (A:=A) (n:=n) (c:=[]) (a:=0) (out:=[])
 rw [foldC_all] at this
 have:=cntC_all (A:=A) (n:=n) (by omega)
 simp at *
 omega
theorem sum_sm {n : Nat} {x : List _root_.Rat} (hx : SolB n x) (hn : n <= 4) : smQ (sumQ x):=by
 rw [<- sumQ_eq hx.len]
 exact (one_dots hx hn).ss n (Nat.le_refl _)
def bestT (l : List (List _root_.Rat)) (i : Nat) : Option (List _root_.Rat × _root_.Rat):=(l.take i).foldl bestS none
theorem bestT_zero {l : List (List _root_.Rat)} : bestT l 0 = none:=rfl
theorem bestT_succ {l : List (List _root_.Rat)} {i : Nat} (h : i < l.length) : bestT l (i + 1) = bestS (bestT l i) l[i]:=by
 rw [bestT,List.take_succ_eq_append_getElem h,List.foldl_append]; rfl
theorem bestT_all {l : List (List _root_.Rat)} : bestT l l.length = bestQ l:=by rw [bestT,List.take_of_length_le (Nat.le_refl _)]; rfl
theorem bestT_sum {l : List (List _root_.Rat)} {i : Nat} {p : List _root_.Rat × _root_.Rat} (h : bestT l i = some p) : p.2 = sumQ p.1 /\ p.1 ∈ l.take i:=by
 have:=(best_fold (l.take i) none (fun p h=>by cases h)).1 p h
 exact ⟨this.1,this.2.1.resolve_right (by simp)⟩
theorem r01_eQ (b : Bool) : eQ (r01 b) = [.int .i64 (if b then 1 else 0),.int .i64 1]:=by cases b <;> rfl
theorem bag_facts {q : PQuery} {b : List Int} (hq : queryOk q = true) (hb : bagI q.n b = true) : 1 <= b.length /\ b.length <= 5 /\ 1 <= q.atoms.length /\ q.atoms.length <= 4 /\ covered q.atoms b:=by
 simp only [queryOk,Bool.and_eq_true] at hq
 obtain ⟨⟨⟨⟨h1,h2⟩,_⟩,_⟩,h5⟩:=hq
 simp only [bagI,Bool.and_eq_true,decide_eq_true_eq] at hb
 obtain ⟨⟨b1,_⟩,b3⟩:=hb
 simp only [setOf,Bool.and_eq_true,decide_eq_true_eq,List.all_eq_true] at b3
 obtain ⟨b4,b5⟩:=b3
 simp only [inR,Bool.and_eq_true,decide_eq_true_eq] at h1 h2
 have hw : IntKind.i64.wrap (q.n - 1) = q.n - 1:=wrap64_of (by omega) (by omega)
 have hr : ∀ x ∈ b,0 <= x /\ x < q.n:=fun x hx=>by
  have:=b4 x hx
  simp only [inR,Bool.and_eq_true,decide_eq_true_eq,hw] at this
  omega
 have hlen:=nodup_len q.n.toNat b b5 (fun x hx=>by have:=hr x hx; omega)
 refine ⟨b1,by omega,by omega,by omega,fun v hv=>?_⟩
 have hv2:=hr v hv
 simp only [usesAll,List.all_eq_true,List.mem_range] at h5
 have h6:=h5 v.toNat (by omega)
 rw [show ((v.toNat : Nat) : Int) = v by omega,List.contains_eq_mem,decide_eq_true_eq,varsIn,List.mem_flatMap] at h6
 obtain ⟨a,ha,hva⟩:=h6
 exact ⟨a,ha,hva⟩
theorem bag_lp {q : PQuery} {b : List Int} (hq : queryOk q = true) (hb : bagI q.n b = true) : LPok (covM q.atoms b) q.atoms.length:=by
 obtain ⟨h1,h2,h3,h4,h5⟩:=bag_facts hq hb
 exact ⟨covM_01 h5,h3,h4,by simpa [covM] using h1,by simpa [covM] using h2⟩
theorem wid_some {q : PQuery} {b : List Int} (hq : queryOk q = true) (hb : bagI q.n b = true) : ∃ p,minQ (covM q.atoms b) q.atoms.length = some p /\ p.2 = widQ q.atoms b:=by
 obtain ⟨p,h1,h2,_⟩:=wid_min (bag_facts hq hb).2.2.2.2
 exact ⟨p,h1,h2⟩
def bcwV (q : PQuery) (b : List Int) : V:=if queryOk q && bagI q.n b then .tup [.agg [.d (.int .i64 (widQ q.atoms b).num),.d (.int .i64 ((widQ q.atoms b).den : Int))],.d (.bool true)] else .tup [.agg [.d (.int .i64 0),.d (.int .i64 0)],.d (.bool false)]
def rlS (d : PDb) (q : PQuery) (s : Option (List PVRel)) (b : List Int) : Option (List PVRel):=match s with
 | none=>none
 | some l => match brO d q b with
   | none=>none
   | some v=>some (l ++ [v])
def rlT (d : PDb) (q : PQuery) (bs : List (List Int)) (i : Nat) : Option (List PVRel):=(bs.take i).foldl (rlS d q) (some [])
def rlO (d : PDb) (q : PQuery) (x : PDec) : Option (List PVRel):=if decOk q x then rlT d q x.bags x.bags.length else none
def ovL : Option (List PVRel) -> List PVRel
 | none=>[]
 | some l=>l
theorem rlT_zero (d : PDb) (q : PQuery) (bs : List (List Int)) : rlT d q bs 0 = some []:=rfl
theorem rlT_succ (d : PDb) (q : PQuery) {bs : List (List Int)} {i : Nat} (h : i < bs.length) : rlT d q bs (i + 1) = rlS d q (rlT d q bs i) bs[i]:=by
 rw [rlT,List.take_succ_eq_append_getElem h,List.foldl_append]; rfl
theorem rlT_none {d : PDb} {q : PQuery} {bs : List (List Int)} {i : Nat} (h : rlT d q bs i = none) : ∀ j,i <= j -> rlT d q bs j = none:=by
 intro j hj
 have key : ∀ l : List (List Int),l.foldl (rlS d q) none = none:=fun l=>by
  induction l with
  | nil=>rfl
  | cons a r ih=>simpa [rlS] using ih
 have e : bs.take j = bs.take i ++ (bs.take j).drop i:=by
  have:=(List.take_append_drop i (bs.take j)).symm
  rwa [List.take_take,Nat.min_eq_left hj] at this
 rw [rlT,e,List.foldl_append,<- rlT,h,key]
theorem rlT_len {d : PDb} {q : PQuery} {bs : List (List Int)} : ∀ {i : Nat} {l : List PVRel},i <= bs.length -> rlT d q bs i = some l -> l.length = i
 | 0,l,_,h=>by obtain rfl:=Option.some.inj (h.symm.trans (rlT_zero d q bs)) ; rfl
 | i + 1, l, hi, h => by
   rw [rlT_succ d q (by omega)] at h
   cases hb : rlT d q bs i with
   | none=>rw [hb] at h; cases h
   | some c =>
     rw [hb] at h
     have:=rlT_len (by omega) hb
     simp only [rlS] at h
     split at h
     ·cases h
     ·obtain rfl:=Option.some.inj h; simp [this]
theorem rl_dec {d : PDb} {q : PQuery} {x : PDec} {l : List PVRel} (h : rlO d q x = some l) : decOk q x = true /\ l.length = x.bags.length:=by
 rw [rlO] at h
 split at h
 ·rename_i hd; exact ⟨hd,rlT_len (Nat.le_refl _) h⟩
 ·cases h
end Go.Vs
namespace Go.Vs
section
variable {α : Type} [Inhabited α]
def foldO (f : α -> α -> Option α) (V : Nat -> Option α) (ks : List Nat) (s : Option α) : Option α:=ks.foldl (fun acc k=>acc.bind fun a=>(V k).bind (f a)) s
omit [Inhabited α] in
theorem foldO_none (f : α -> α -> Option α) (V : Nat -> Option α) (ks : List Nat) : foldO f V ks none = none:=by
 induction ks with
 | nil=>rfl
 | cons k r ih=>simpa [foldO] using ih
omit [Inhabited α] in
theorem foldO_cons (f : α -> α -> Option α) (V : Nat -> Option α) (k : Nat) (ks : List Nat) (a : α) : foldO f V (k :: ks) (some a) = foldO f V ks ((V k).bind (f a)):=rfl
omit [Inhabited α] in
theorem foldO_congr {f : α -> α -> Option α} {V V' : Nat -> Option α} {ks : List Nat} (h : ∀ k ∈ ks,V k = V' k) (s : Option α) : foldO f V ks s = foldO f V' ks s:=by
 induction ks generalizing s with
 | nil=>rfl
 | cons k r ih =>
   rw [foldO,foldO,List.foldl_cons,List.foldl_cons,h k (by simp)]
   exact ih (fun x hx=>h x (by simp [hx])) _
omit [Inhabited α] in
theorem foldO_some {f : α -> α -> Option α} {V : Nat -> Option α} {ks : List Nat} {s : Option α} {a : α} (h : foldO f V ks s = some a) : ∀ k ∈ ks,(V k).isSome = true:=by
 induction ks generalizing s with
 | nil=>simp
 | cons k r ih =>
   intro j hj
   rw [foldO,List.foldl_cons] at h
   cases s with
   | none=>have:=foldO_none f V r; rw [foldO] at this; simp [this] at h
   | some b =>
     cases hk : V k with
     | none=>have:=foldO_none f V r; rw [foldO] at this; simp [hk,this] at h
     | some c =>
       rcases List.mem_cons.1 hj with rfl | hj
       ·simp [hk]
       ·exact ih h j hj
def treV (f : α -> α -> Option α) (kids : Nat -> List Nat) (L0 : List α) : Nat -> Nat -> Option α
 | 0,_=>none
 | m + 1,i=>foldO f (treV f kids L0 m) (kids i) (some (L0.getD i default))
theorem treV_st {f : α -> α -> Option α} {kids : Nat -> List Nat} {L0 : List α} {r : Nat -> Nat} (hr : ∀ i,∀ k ∈ kids i,r k < r i) : ∀ (n i m : Nat),r i <= n -> r i < m -> treV f kids L0 m i = treV f kids L0 (r i + 1) i:=by
 intro n
 induction n with
 | zero =>
   intro i m hi hm
   have hk : kids i = []:=by
    cases h : kids i with
    | nil=>rfl
    | cons k t=>have:=hr i k (by rw [h]; simp); omega
   obtain ⟨m,rfl⟩ : ∃ m',m = m' + 1:=⟨m - 1,by omega⟩
   simp [treV,hk,foldO]
 | succ n ih =>
   intro i m hi hm
   obtain ⟨m,rfl⟩ : ∃ m',m = m' + 1:=⟨m - 1,by omega⟩
   rw [treV,treV]
   refine foldO_congr (fun k hk=>?_) _
   have h1:=hr i k hk
   rw [ih k m (by omega) (by omega),ih k (r i) (by omega) (by omega)]
def trW (f : α -> α -> Option α) (kids : Nat -> List Nat) (L0 : List α) (r : Nat -> Nat) (i : Nat) : Option α:=treV f kids L0 (r i + 1) i
theorem trW_eq {f : α -> α -> Option α} {kids : Nat -> List Nat} {L0 : List α} {r : Nat -> Nat} (hr : ∀ i,∀ k ∈ kids i,r k < r i) (i : Nat) :
  trW f kids L0 r i = foldO f (trW f kids L0 r) (kids i) (some (L0.getD i default)):=by
 rw [trW,treV]
 refine foldO_congr (fun k hk=>?_) _
 exact treV_st hr (r k) k (r i) (Nat.le_refl _) (hr i k hk)
def setA (l : List Nat) (W : Nat -> Option α) (L : List α) : List α:=(List.range L.length).map fun i=>if l.contains i then (W i).getD default else L.getD i default
theorem setA_len (l : List Nat) (W : Nat -> Option α) (L : List α) : (setA l W L).length = L.length:=by simp [setA]
theorem setA_get {l : List Nat} {W : Nat -> Option α} {L : List α} {i : Nat} (h : i < L.length) : (setA l W L).getD i default = if l.contains i then (W i).getD default else L.getD i default:=by
 simp [setA,h]
theorem list_ext_getD {L M : List α} (hl : L.length = M.length) (h : ∀ i,i < L.length -> L.getD i default = M.getD i default) : L = M:=by
 refine List.ext_getElem hl fun i h1 h2=>?_
 have:=h i h1
 simpa [h1,h2] using this
theorem gD_setE {L : List α} {p i : Nat} {v : α} (hi : i < L.length) : (L.set p v).getD i default = if p = i then v else L.getD i default:=by
 by_cases h : p = i
 ·subst h; simp [hi]
 ·simp [h]
def twK (f : α -> α -> Option α) (p : Nat) : List Nat -> List α -> Option (List α)
 | [],L=>some L
 | c :: r,L=>(f (L.getD p default) (L.getD c default)).bind fun v=>twK f p r (L.set p v)
theorem twK_len {f : α -> α -> Option α} {p : Nat} : ∀ {ks : List Nat} {L M : List α},twK f p ks L = some M -> M.length = L.length
 | [],L,M,h=>by obtain rfl:=Option.some.inj h; rfl
 | c :: r, L, M, h => by
   rw [twK] at h
   cases hv : f (L.getD p default) (L.getD c default) with
   | none=>rw [hv] at h; cases h
   | some v=>rw [hv] at h; have:=twK_len h; simpa using this
theorem twK_eq {f : α -> α -> Option α} {V : Nat -> Option α} {p : Nat} : ∀ (ks : List Nat) (L : List α),p < L.length -> (∀ k ∈ ks,k ≠ p /\ V k = some (L.getD k default)) ->
  twK f p ks L = (foldO f V ks (some (L.getD p default))).map fun v=>L.set p v
 | [], L, hp, _ => by
   simp only [twK,foldO,List.foldl_nil,Option.map_some,Option.some.injEq]
   exact list_ext_getD (by simp) fun i hi=>by
    rw [gD_setE hi]; split
    ·rename_i h; rw [h]
    ·rfl
 | c :: r, L, hp, h => by
   rw [twK,foldO_cons]
   have hc:=h c (by simp)
   rw [hc.2]
   simp only [Option.bind_some]
   cases hv : f (L.getD p default) (L.getD c default) with
   | none=>simp [foldO_none]
   | some v =>
     simp only [Option.bind_some]
     rw [twK_eq r (L.set p v) (by simpa using hp) fun k hk=>?_]
     ·have e : (L.set p v).getD p default = v:=by rw [gD_setE hp]; simp
      rw [e]
      cases foldO f V r (some v) with
      | none=>rfl
      | some u=>simp
     ·have:=h k (by simp [hk])
      refine ⟨this.1,?_⟩
      by_cases hk2 : k < L.length
      ·rw [gD_setE hk2,if_neg (Ne.symm this.1)]; exact this.2
      ·have e1 : (L.set p v).getD k default = L.getD k default:=by simp [List.getD,List.getElem?_eq_none (Nat.le_of_not_lt hk2),hk2]
       rw [e1]; exact this.2
def twB (f : α -> α -> Option α) (kids : Nat -> List Nat) : List Nat -> List α -> Option (List α)
 | [],L=>some L
 | i :: r,L=>(twK f i (kids i) L).bind (twB f kids r)
theorem setA_set {l : List Nat} {W : Nat -> Option α} {L : List α} {i : Nat} {v : α} (hi : i < L.length) (hv : W i = some v) : (setA l W L).set i v = setA (l ++ [i]) W L:=by
 refine list_ext_getD (by simp [setA]) fun j hj=>?_
 have hj' : j < L.length:=by simpa [setA] using hj
 rw [gD_setE (by rw [setA_len]; exact hj'),setA_get hj',setA_get hj']
 by_cases h : i = j
 ·subst h; simp [hv]
 ·by_cases h2 : j ∈ l
  ·simp [h,List.contains_iff_mem,h2]
  ·simp [h,List.contains_iff_mem,h2,Ne.symm h]
theorem twB_eq {f : α -> α -> Option α} {kids : Nat -> List Nat} {L0 : List α} {W : Nat -> Option α} (hW : ∀ i,W i = foldO f W (kids i) (some (L0.getD i default))) :
  ∀ (o done : List Nat),(done ++ o).Nodup -> (∀ i ∈ done ++ o,i < L0.length) -> (∀ A i B,o = A ++ i :: B -> ∀ k ∈ kids i,k ∈ done ++ A) -> (∀ i ∈ done,(W i).isSome = true) ->
  twB f kids o (setA done W L0) = if (∀ i ∈ o,(W i).isSome = true) then some (setA (done ++ o) W L0) else none
 | [],done,_,_,_,_=>by simp [twB]
 | i :: r, done, hn, hl, hk, hd => by
   rw [twB]
   have hi:=hl i (by simp)
   have hni : i ∉ done:=fun h=>(List.nodup_append.1 hn).2.2 i h i (by simp) rfl
   have hkd:=hk [] i r rfl
   simp only [List.append_nil] at hkd
   have hin : (setA done W L0).getD i default = L0.getD i default:=by rw [setA_get hi]; simp [hni]
   rw [twK_eq (V:=W) (kids i) (setA done W L0) (by rw [setA_len]; exact hi) (fun k hkk=>⟨fun (e : k = i)=>hni (by have:=hkd k hkk; rwa [e] at this),by
    have h1:=hkd k hkk
    have h2:=hd k h1
    have hk2:=hl k (List.mem_append_left _ h1)
    rw [setA_get hk2]
    simp only [List.contains_iff_mem,h1,if_true]
    cases hw : W k with
    | none=>rw [hw] at h2; cases h2
    | some u=>rfl⟩),hin,<- hW i]
   cases hv : W i with
   | none =>
     rw [if_neg]
     ·rfl
     ·intro h; have:=h i (by simp); rw [hv] at this; cases this
   | some v =>
     simp only [Option.map_some,Option.bind_some]
     rw [setA_set hi hv]
     have ih:=twB_eq hW r (done ++ [i]) (by simpa using hn) (by simpa using hl) (fun A j B e k hkk=>by
      have:=hk (i :: A) j B (by rw [e]; rfl) k hkk
      simpa using this) (fun j hj=>by
       rcases List.mem_append.1 hj with h | h
       ·exact hd j h
       ·rw [List.mem_singleton.1 h,hv]; rfl)
     rw [ih]
     simp [hv]
def twS (f : α -> α -> Option α) (par : Nat -> Nat) : List Nat -> List α -> Option (List α)
 | [],L=>some L
 | c :: r,L=>(f (L.getD (par c) default) (L.getD c default)).bind fun v=>twS f par r (L.set (par c) v)
theorem twS_app (f : α -> α -> Option α) (par : Nat -> Nat) : ∀ (l m : List Nat) (L : List α),twS f par (l ++ m) L = (twS f par l L).bind (twS f par m)
 | [],m,L=>rfl
 | c :: r, m, L => by
   rw [List.cons_append,twS,twS]
   cases f (L.getD (par c) default) (L.getD c default) with
   | none=>rfl
   | some v=>simp only [Option.bind_some]; exact twS_app f par r m _
theorem twS_len {f : α -> α -> Option α} {par : Nat -> Nat} : ∀ {l : List Nat} {L M : List α},twS f par l L = some M -> M.length = L.length
 | [],L,M,h=>by obtain rfl:=Option.some.inj h; rfl
 | c :: r, L, M, h => by
   rw [twS] at h
   cases hv : f (L.getD (par c) default) (L.getD c default) with
   | none=>rw [hv] at h; cases h
   | some v=>rw [hv] at h; have:=twS_len h; simpa using this
def postF (kids : Nat -> List Nat) : Nat -> Nat -> List Nat
 | 0,k=>[k]
 | m + 1,k=>(kids k).flatMap (postF kids m) ++ [k]
def preF (kids : Nat -> List Nat) : Nat -> Nat -> List Nat
 | 0,_=>[]
 | m + 1,k=>(kids k).flatMap (postF kids m)
theorem post_pre (kids : Nat -> List Nat) (m k : Nat) : postF kids m k = preF kids m k ++ [k]:=by cases m <;> rfl
theorem setA_in {l : List Nat} {W : Nat -> Option α} {L : List α} {i : Nat} (h : i < L.length) (hi : i ∈ l) : (setA l W L).getD i default = (W i).getD default:=by
 rw [setA_get h]; simp [List.contains_iff_mem,hi]
theorem setA_out {l : List Nat} {W : Nat -> Option α} {L : List α} {i : Nat} (h : i < L.length) (hi : i ∉ l) : (setA l W L).getD i default = L.getD i default:=by
 rw [setA_get h]; simp [List.contains_iff_mem,hi]
theorem twS_post {f : α -> α -> Option α} {kids : Nat -> List Nat} {par : Nat -> Nat} {L0 : List α} {W : Nat -> Option α} {r : Nat -> Nat} (hW : ∀ i,W i = foldO f W (kids i) (some (L0.getD i default)))
  (hp : ∀ i,∀ k ∈ kids i,par k = i) (hr : ∀ i,∀ k ∈ kids i,r k < r i) :
  ∀ (m k : Nat) (L : List α),r k <= m -> (∀ i ∈ postF kids m k,i < L.length /\ L.getD i default = L0.getD i default) -> (postF kids m k).Nodup ->
  twS f par (preF kids m k) L = if (W k).isSome = true then some (setA (postF kids m k) W L) else none:=by
 intro m
 induction m with
 | zero =>
   intro k L hm hL _
   have hk : kids k = []:=by
    cases h : kids k with
    | nil=>rfl
    | cons j t=>have:=hr k j (by rw [h]; simp); omega
   have hw : W k = some (L0.getD k default):=by rw [hW,hk]; rfl
   have h1:=hL k (by simp [postF])
   rw [preF,twS,hw]
   simp only [Option.isSome_some,if_true,Option.some.injEq,postF]
   refine list_ext_getD (by rw [setA_len]) fun i hi=>?_
   by_cases e : i = k
   ·subst e; rw [setA_in hi (by simp),hw,h1.2]; rfl
   ·rw [setA_out hi (by simpa using e)]
 | succ m ih =>
   intro k L hm hL hn
   have key : ∀ (ks ds : List Nat) (a : α),kids k = ds ++ ks -> foldO f W ds (some (L0.getD k default)) = some a ->
     twS f par (ks.flatMap (postF kids m)) ((setA (ds.flatMap (postF kids m)) W L).set k a) = (foldO f W ks (some a)).map fun v=>(setA ((kids k).flatMap (postF kids m)) W L).set k v:=by
    intro ks
    induction ks with
    | nil =>
      intro ds a he ha
      simp only [List.append_nil] at he
      simp [twS,foldO,he]
    | cons j ks ihk =>
      intro ds a he ha
      have hkl:=(hL k (by simp [postF])).1
      have hjk : j ∈ kids k:=by rw [he]; simp
      have hn' : ((ds.flatMap (postF kids m)) ++ (postF kids m j ++ ks.flatMap (postF kids m)) ++ [k]).Nodup:=by
       have:=hn
       rw [postF,he] at this
       simpa using this
      obtain ⟨hn1,_,hn2⟩:=List.nodup_append.1 hn'
      obtain ⟨_,hn3,hn4⟩:=List.nodup_append.1 hn1
      have hnj:=(List.nodup_append.1 hn3).1
      have hsub : ∀ i ∈ postF kids m j,i ∈ postF kids (m + 1) k /\ i ∉ ds.flatMap (postF kids m) /\ i ≠ k:=fun i hi=>
       ⟨by rw [postF,he]; simp only [List.flatMap_append,List.flatMap_cons,List.mem_append]; exact .inl (.inr (.inl hi)),
        fun h=>hn4 i h i (List.mem_append_left _ hi) rfl,fun e=>hn2 i (List.mem_append_right _ (List.mem_append_left _ hi)) k (by simp) e⟩
      obtain ⟨L1,hL1⟩ : ∃ L1,L1 = (setA (ds.flatMap (postF kids m)) W L).set k a:=⟨_,rfl⟩
      have hl1 : L1.length = L.length:=by rw [hL1]; simp [setA_len]
      have hv:=ih j L1 (by have:=hr k j hjk; omega) (fun i hi=>by
       obtain ⟨h1,h2,h3⟩:=hsub i hi
       have h4:=hL i h1
       refine ⟨by omega,?_⟩
       rw [hL1,gD_setE (by rw [setA_len]; exact h4.1),if_neg (Ne.symm h3),setA_out h4.1 h2,h4.2]) hnj
      rw [List.flatMap_cons,post_pre,List.append_assoc,twS_app,<- hL1,hv,foldO_cons]
      cases hw : W j with
      | none=>simp [foldO_none]
      | some b =>
        have hjm : j ∈ postF kids m j:=by rw [post_pre]; simp
        obtain ⟨h1,h2,h3⟩:=hsub j hjm
        have hjl:=(hL j h1).1
        have hkn : k ∉ postF kids m j:=fun h=>(hsub k h).2.2 rfl
        have e1 : (setA (postF kids m j) W L1).getD j default = b:=by rw [setA_in (by omega) hjm,hw]; rfl
        have e2 : (setA (postF kids m j) W L1).getD k default = a:=by rw [setA_out (by omega) hkn,hL1,gD_setE (by rw [setA_len]; exact hkl)]; simp
        simp only [Option.isSome_some,if_true,Option.bind_some,List.singleton_append,twS,hp k j hjk,e1,e2]
        cases hf : f a b with
        | none=>simp [foldO_none]
        | some v =>
          simp only [Option.bind_some]
          have e3 : (setA (postF kids m j) W L1).set k v = (setA ((ds ++ [j]).flatMap (postF kids m)) W L).set k v:=by
           refine list_ext_getD (by simp [setA_len,hl1]) fun i hi=>?_
           have hi' : i < L.length:=by simpa [setA_len,hl1] using hi
           rw [gD_setE (by rw [setA_len]; omega),gD_setE (by rw [setA_len]; exact hi')]
           by_cases hik : k = i
           ·simp [hik]
           ·rw [if_neg hik,if_neg hik]
            by_cases hij : i ∈ postF kids m j
            ·rw [setA_in (by omega) hij,setA_in hi' (by simp only [List.flatMap_append,List.mem_append]; exact .inr (by simpa using hij))]
            ·rw [setA_out (by omega) hij,hL1,gD_setE (by rw [setA_len]; exact hi'),if_neg hik]
             by_cases hid : i ∈ ds.flatMap (postF kids m)
             ·rw [setA_in hi' hid,setA_in hi' (by simp only [List.flatMap_append,List.mem_append]; exact .inl hid)]
             ·rw [setA_out hi' hid,setA_out hi' (by
              simp only [List.flatMap_append,List.mem_append,not_or]
              exact ⟨hid,by simpa using hij⟩)]
          rw [e3]
          refine ihk (ds ++ [j]) v (by rw [he]; simp) ?_
          have ha':=ha
          rw [foldO] at ha'
          rw [foldO,List.foldl_append,ha']
          simp [hw,hf]
   have h0:=key (kids k) [] (L0.getD k default) rfl rfl
   have hkL:=hL k (by simp [postF])
   have e0 : (setA (([] : List Nat).flatMap (postF kids m)) W L).set k (L0.getD k default) = L:=by
    refine list_ext_getD (by simp [setA_len]) fun i hi=>?_
    have hi' : i < L.length:=by simpa [setA_len] using hi
    rw [gD_setE (by rw [setA_len]; exact hi')]
    by_cases h : k = i
    ·subst h; rw [if_pos rfl,hkL.2]
    ·rw [if_neg h,setA_out hi' (by simp)]
   rw [e0] at h0
   rw [preF,h0,<- hW k]
   cases hw : W k with
   | none=>rfl
   | some v =>
     simp only [Option.map_some,Option.isSome_some,if_true,postF]
     rw [setA_set hkL.1 hw]
end
end Go.Vs
namespace Go.Vs
def kidN (ps : List Int) (k : Nat) : List Nat:=(List.range ps.length).filter fun i=>ps.getD i 0 == (k : Int)
def parN (ps : List Int) (i : Nat) : Nat:=(ps.getD i 0).toNat
def dpN (ps : List Int) (i : Nat) : Nat:=(pathS ps (ps.length + 1) (i : Int)).length
def rkN (ps : List Int) (i : Nat) : Nat:=ps.length + 1 - dpN ps i
structure TreeF (ps : List Int) (rt : Nat) : Prop where
 hr : rt < ps.length
 rp : ps.getD rt 0 = -1
 par : ∀ i,i < ps.length -> i ≠ rt -> ∃ p : Nat,p < ps.length /\ ps.getD i 0 = (p : Int) /\ dpN ps i = dpN ps p + 1
 dl : ∀ i,i < ps.length -> dpN ps i <= ps.length
theorem kid_mem {ps : List Int} {k c : Nat} : c ∈ kidN ps k ↔ c < ps.length /\ ps.getD c 0 = (k : Int):=by
 rw [kidN,List.mem_filter,List.mem_range]; simp
theorem kid_nd (ps : List Int) (k : Nat) : (kidN ps k).Nodup:=List.Nodup.sublist List.filter_sublist List.nodup_range
theorem kid_par {ps : List Int} {k c : Nat} (h : c ∈ kidN ps k) : parN ps c = k:=by
 rw [parN,(kid_mem.1 h).2]; simp
theorem tree_of {ps : List Int} (h : treeB ps = true) : ∃ rt : Nat,rootS ps = (rt : Int) /\ TreeF ps rt:=by
 have hS:=h
 rw [tree_eq,treeS,Bool.and_eq_true,decide_eq_true_eq] at hS
 have h1 : oneR ps = 1:=by
  have:=hS.1
  rw [rootS] at this
  split at this
  ·assumption
  ·omega
 obtain ⟨rt,hrt,hr,he⟩:=root_at h1
 simp only [treeB,Bool.and_eq_true,List.all_eq_true,List.mem_range] at h
 have ht:=h.1
 have hg : ∀ i (hi : i < ps.length),ps.getD i 0 = ps[i]:=fun i hi=>getD_el _ hi
 have up : ∀ i,i < ps.length -> ∃ b,upI ps (ps.length + 1) (i : Int) = some b /\ b < 0:=fun i hi=>by
  have:=ht i hi
  simp only [treeAt,Bool.and_eq_true] at this
  exact endNeg_iff.1 this.2
 refine ⟨rt,hrt,hr,by rw [hg rt hr,he],fun i hi hne=>?_,fun i hi=>?_⟩
 ·obtain ⟨b,hb,hb0⟩:=up i hi
  have hx:=upI_pos (by omega) hb
  have hin:=hx.1
  simp only [inR,Bool.and_eq_true,decide_eq_true_eq] at hin
  have hn1 : nxP ps i ≠ -1:=fun e=>hne (one_uniq h1 hi hr (by rw [<- nxP_at hi,e]) he)
  refine ⟨(nxP ps i).toNat,by omega,by rw [hg i hi,<- nxP_at hi]; omega,?_⟩
  rw [dpN,dpN,path_yes (by simp only [inR,Bool.and_eq_true,decide_eq_true_eq]; omega),List.length_cons,Int.toNat_of_nonneg (by omega),(up_more hb0 hx.2).2]
 ·obtain ⟨b,hb,hb0⟩:=up i hi
  exact path_len hb0 (by omega) (by omega) hb
section
variable {ps : List Int} {rt : Nat} (T : TreeF ps rt)
include T
theorem TreeF.kd {k c : Nat} (h : c ∈ kidN ps k) : k < ps.length /\ c ≠ rt /\ dpN ps c = dpN ps k + 1:=by
 obtain ⟨h1,h2⟩:=kid_mem.1 h
 have hne : c ≠ rt:=fun e=>by rw [e,T.rp] at h2; omega
 obtain ⟨p,hp,h3,h4⟩:=T.par c h1 hne
 have : p = k:=by omega
 subst this
 exact ⟨hp,hne,h4⟩
theorem TreeF.rk {k c : Nat} (h : c ∈ kidN ps k) : rkN ps c < rkN ps k:=by
 obtain ⟨h1,h2,h3⟩:=T.kd h
 have:=T.dl c (kid_mem.1 h).1
 rw [rkN,rkN]; omega
theorem TreeF.par_kid {i : Nat} (hi : i < ps.length) (hne : i ≠ rt) : parN ps i < ps.length /\ i ∈ kidN ps (parN ps i) /\ ps.getD i 0 = (parN ps i : Int) /\ dpN ps i = dpN ps (parN ps i) + 1:=by
 obtain ⟨p,hp,h3,h4⟩:=T.par i hi hne
 have e : parN ps i = p:=by rw [parN,h3]; simp
 rw [e]
 exact ⟨hp,kid_mem.2 ⟨hi,h3⟩,h3,h4⟩
theorem TreeF.ind {P : Nat -> Prop} (h0 : P rt) (hs : ∀ k,P k -> ∀ c ∈ kidN ps k,P c) : ∀ i,i < ps.length -> P i:=by
 have key : ∀ n i,dpN ps i <= n -> i < ps.length -> P i:=by
  intro n
  induction n with
  | zero =>
    intro i hd hi
    by_cases e : i = rt
    ·exact e ▸ h0
    ·have:=(T.par_kid hi e).2.2.2; omega
  | succ n ih =>
    intro i hd hi
    by_cases e : i = rt
    ·exact e ▸ h0
    ·obtain ⟨h1,h2,_,h4⟩:=T.par_kid hi e
     exact hs _ (ih _ (by omega) h1) i h2
 exact fun i hi=>key _ i (Nat.le_refl _) hi
def upW (ps : List Int) : Nat -> Nat -> Nat
 | 0,i=>i
 | t + 1,i=>upW ps t (parN ps i)
omit T in
theorem upW_succ (ps : List Int) : ∀ (t i : Nat),upW ps (t + 1) i = parN ps (upW ps t i)
 | 0,i=>rfl
 | t + 1,i=>by rw [upW,upW_succ ps t (parN ps i)]; rfl
theorem TreeF.post_facts : ∀ (m k : Nat),k < ps.length -> ∀ i ∈ postF (kidN ps) m k,i < ps.length /\ dpN ps k <= dpN ps i /\ upW ps (dpN ps i - dpN ps k) i = k
 | 0, k, hk, i, hi => by
   rw [postF,List.mem_singleton] at hi
   subst hi
   exact ⟨hk,Nat.le_refl _,by rw [Nat.sub_self]; rfl⟩
 | m + 1, k, hk, i, hi => by
   rw [postF,List.mem_append,List.mem_flatMap,List.mem_singleton] at hi
   rcases hi with ⟨j,hj,hi⟩ | rfl
   ·have hjl:=(kid_mem.1 hj).1
    obtain ⟨h1,h2,h3⟩:=TreeF.post_facts m j hjl i hi
    obtain ⟨_,_,h4⟩:=T.kd hj
    refine ⟨h1,by omega,?_⟩
    rw [show dpN ps i - dpN ps k = (dpN ps i - dpN ps j) + 1 by omega,upW_succ,h3,kid_par hj]
   ·exact ⟨hk,Nat.le_refl _,by rw [Nat.sub_self]; rfl⟩
theorem TreeF.post_nd : ∀ (m k : Nat),k < ps.length -> (postF (kidN ps) m k).Nodup
 | 0,k,_=>by simp [postF]
 | m + 1, k, hk => by
   rw [postF]
   refine List.nodup_append.2 ⟨List.pairwise_flatMap.2 ⟨fun j hj=>TreeF.post_nd m j (kid_mem.1 hj).1,?_⟩,by simp,fun i hi k' hk' e=>?_⟩
   ·refine (kid_nd ps k).imp_of_mem fun {j j'} hj hj' hne i hi i' hi' e=>hne ?_
    subst e
    have h1:=T.post_facts m j (kid_mem.1 hj).1 i hi
    have h2:=T.post_facts m j' (kid_mem.1 hj').1 i hi'
    have d1:=(T.kd hj).2.2
    have d2:=(T.kd hj').2.2
    rw [<- h1.2.2,<- h2.2.2,d1,d2]
   ·obtain ⟨j,hj,hij⟩:=List.mem_flatMap.1 hi
    rw [List.mem_singleton] at hk'
    have ek : i = k:=e.trans hk'
    have h1:=T.post_facts m j (kid_mem.1 hj).1 i hij
    rw [ek] at h1
    have d1:=(T.kd hj).2.2
    omega
theorem TreeF.post_cl : ∀ (m k : Nat),rkN ps k <= m -> ∀ i ∈ postF (kidN ps) m k,∀ j ∈ kidN ps i,j ∈ postF (kidN ps) m k
 | 0, k, hm, i, hi, j, hj => by
   rw [postF,List.mem_singleton] at hi
   subst hi
   have:=T.rk hj; omega
 | m + 1, k, hm, i, hi, j, hj => by
   rw [postF,List.mem_append,List.mem_flatMap,List.mem_singleton] at hi ⊢
   rcases hi with ⟨j',hj',hi⟩ | rfl
   ·exact .inl ⟨j',hj',TreeF.post_cl m j' (by have:=T.rk hj'; omega) i hi j hj⟩
   ·exact .inl ⟨j,hj,by rw [post_pre]; simp⟩
theorem TreeF.post_all {m : Nat} (hm : rkN ps rt <= m) : ∀ i,i < ps.length -> i ∈ postF (kidN ps) m rt:=
 T.ind (by rw [post_pre]; simp) fun k hk c hc=>T.post_cl m rt hm k hk c hc
structure BfsI (ps : List Int) (rt : Nat) (out : List Nat) (k : Nat) : Prop where
 le : k <= out.length
 eq : out = rt :: (out.take k).flatMap (kidN ps)
 nd : out.Nodup
 lt : ∀ i ∈ out,i < ps.length
 od : ∀ A i B,out = A ++ i :: B -> ∀ c ∈ kidN ps i,c ∉ A
theorem TreeF.bfs_zero : BfsI ps rt [rt] 0:=⟨by simp,rfl,by simp,by simp; exact T.hr,fun A i B e c hc=>by
 cases A with
 | nil=>simp
 | cons a A=>simp at e⟩
theorem TreeF.bfs_step {out : List Nat} {k : Nat} (h : BfsI ps rt out k) (hk : k < out.length) : BfsI ps rt (out ++ kidN ps out[k]) (k + 1):=by
 have hmem : ∀ c ∈ out,c ≠ rt -> ∃ j ∈ out.take k,c ∈ kidN ps j:=fun c hc hne=>by
  rw [h.eq] at hc
  rcases List.mem_cons.1 hc with e | hc
  ·exact absurd e hne
  ·obtain ⟨j,hj,hcj⟩:=List.mem_flatMap.1 hc
   exact ⟨j,hj,hcj⟩
 have hkt : out[k] ∉ out.take k:=fun hm=>by
  obtain ⟨j,hj,e⟩:=List.getElem_of_mem hm
  rw [List.length_take] at hj
  rw [List.getElem_take] at e
  have:=(List.getElem_inj h.nd).1 e
  omega
 have hdis : ∀ c ∈ kidN ps out[k],c ∉ out:=fun c hc hco=>by
  obtain ⟨j,hj,hcj⟩:=hmem c hco (T.kd hc).2.1
  have : j = out[k]:=by rw [<- kid_par hcj,kid_par hc]
  exact hkt (this ▸ hj)
 refine ⟨by simp; omega,?_,List.nodup_append.2 ⟨h.nd,kid_nd _ _,fun a ha b hb e=>hdis b hb (e ▸ ha)⟩,fun i hi=>?_,?_⟩
 ·have e1 : (out ++ kidN ps out[k]).take (k + 1) = out.take k ++ [out[k]]:=by
   rw [List.take_append_of_le_length (by omega),List.take_succ_eq_append_getElem hk]
  rw [e1,List.flatMap_append,List.flatMap_singleton]
  obtain ⟨K,hK⟩ : ∃ K,K = kidN ps out[k]:=⟨_,rfl⟩
  rw [<- hK]
  conv=>lhs; rw [h.eq]
  simp
 ·rcases List.mem_append.1 hi with hi | hi
  ·exact h.lt i hi
  ·exact (kid_mem.1 hi).1
 ·intro A i B e c hc hcA
  rcases List.append_eq_append_iff.1 e with ⟨K1,e1,e2⟩ | ⟨B1,e1,e2⟩
  ·-- i stands among the new ones
   have hi : i ∈ kidN ps out[k]:=by rw [e2]; simp
   rw [e1] at hcA
   rcases List.mem_append.1 hcA with hco | hcK
   ·obtain ⟨j,hj,hcj⟩:=hmem c hco (T.kd hc).2.1
    have : j = i:=by rw [<- kid_par hcj,kid_par hc]
    exact hdis i hi (this ▸ List.mem_of_mem_take hj)
   ·have : c ∈ kidN ps out[k]:=by rw [e2]; simp [hcK]
    have e3 : out[k] = i:=by rw [<- kid_par this,kid_par hc]
    have d:=(T.kd hi).2.2
    rw [e3] at d; omega
  ·cases B1 with
   | nil =>
     simp only [List.append_nil] at e1
     simp only [List.nil_append] at e2
     have hi : i ∈ kidN ps out[k]:=by rw [<- e2]; simp
     rw [<- e1] at hcA
     obtain ⟨j,hj,hcj⟩:=hmem c hcA (T.kd hc).2.1
     have : j = i:=by rw [<- kid_par hcj,kid_par hc]
     exact hdis i hi (this ▸ List.mem_of_mem_take hj)
   | cons b B1 =>
     simp only [List.cons_append,List.cons.injEq] at e2
     obtain ⟨rfl,_⟩:=e2
     exact h.od A i B1 e1 c hc hcA
theorem TreeF.bfs_done {out : List Nat} {k : Nat} (h : BfsI ps rt out k) (hk : out.length <= k) : (∀ i,i < ps.length -> i ∈ out) /\ out.reverse.Nodup /\ (∀ A i B,out.reverse = A ++ i :: B -> ∀ c ∈ kidN ps i,c ∈ A):=by
 have he:=h.eq
 rw [List.take_of_length_le hk] at he
 have hall : ∀ i,i < ps.length -> i ∈ out:=T.ind (by rw [he]; simp) fun j hj c hc=>by
  rw [he]; exact List.mem_cons_of_mem _ (List.mem_flatMap.2 ⟨j,hj,hc⟩)
 refine ⟨hall,List.pairwise_reverse.2 (h.nd.imp fun h e=>h e.symm),fun A i B e c hc=>?_⟩
 have e2 : out = B.reverse ++ i :: A.reverse:=by
  have:=congrArg List.reverse e
  simpa using this
 have h1:=h.od _ _ _ e2 c hc
 have h2:=hall c (kid_mem.1 hc).1
 rw [e2] at h2
 rcases List.mem_append.1 h2 with h3 | h3
 ·exact absurd h3 h1
 ·rcases List.mem_cons.1 h3 with h3 | h3
  ·subst h3
   have:=(T.kd hc).2.2; omega
  ·simpa using h3
theorem TreeF.bfs_len {out : List Nat} {k : Nat} (h : BfsI ps rt out k) : out.length <= ps.length:=by
 have _:=T
 have:=nd_sub out (List.range ps.length) h.nd fun x hx=>List.mem_range.2 (h.lt x hx)
 simpa using this
theorem TreeF.run_eq {α : Type} [Inhabited α] (f : α -> α -> Option α) {L0 : List α} (hL : L0.length = ps.length) {out : List Nat} {k : Nat} (h : BfsI ps rt out k) (hk : out.length <= k) {m : Nat} (hm : rkN ps rt <= m) :
  twB f (kidN ps) out.reverse L0 = twS f (parN ps) (preF (kidN ps) m rt) L0:=by
 obtain ⟨h1,h2,h3⟩:=T.bfs_done h hk
 have hrk : ∀ i,∀ k ∈ kidN ps i,rkN ps k < rkN ps i:=fun i k hk=>T.rk hk
 obtain ⟨W,hWd⟩ : ∃ W,W = trW f (kidN ps) L0 (rkN ps):=⟨_,rfl⟩
 have hW : ∀ i,W i = foldO f W (kidN ps i) (some (L0.getD i default)):=fun i=>by rw [hWd]; exact trW_eq hrk i
 have hB:=twB_eq hW out.reverse [] (by simpa using h2) (fun i hi=>by rw [hL]; exact h.lt i (by simpa using hi)) (fun A i B e c hc=>by simpa using h3 A i B e c hc) (by simp)
 have e0 : setA [] W L0 = L0:=list_ext_getD (setA_len _ _ _) fun i hi=>by rw [setA_out (by rwa [setA_len] at hi) (by simp)]
 rw [e0] at hB
 have hS:=twS_post (par:=parN ps) hW (fun i k hk=>kid_par hk) hrk m rt L0 hm (fun i hi=>⟨by rw [hL]; exact (T.post_facts m rt T.hr i hi).1,rfl⟩) (T.post_nd m rt T.hr)
 rw [hB,hS]
 have hc : (∀ i ∈ out.reverse,(W i).isSome = true) ↔ (W rt).isSome = true:=by
  constructor
  ·exact fun h4=>h4 rt (by simpa using h1 rt T.hr)
  ·intro h4 i hi
   refine T.ind (P:=fun i=>(W i).isSome = true) h4 (fun k hk c hc=>?_) i (h.lt i (by simpa using hi))
   obtain ⟨a,ha⟩:=Option.isSome_iff_exists.1 hk
   rw [hW k] at ha
   exact foldO_some ha c hc
 have e1 : setA ([] ++ out.reverse) W L0 = setA (postF (kidN ps) m rt) W L0:=by
  refine list_ext_getD (by simp [setA_len]) fun i hi=>?_
  rw [setA_len] at hi
  rw [setA_in hi (by simpa using h1 i (by omega)),setA_in hi (T.post_all hm i (by omega))]
 by_cases h4 : (W rt).isSome = true
 ·rw [if_pos (hc.2 h4),if_pos h4,e1]
 ·rw [if_neg (fun h5=>h4 (hc.1 h5)),if_neg h4]
end
end Go.Vs
namespace Go.Vs
def semR (a b : PVRel) (r : List Int) : Bool:=b.rel.rows.any fun s=>glB (uniL a.vars b.vars) a.vars r b.vars s
def smB (a b : PVRel) : Bool:=vrOk a && vrOk b
def smP (a b : PVRel) : PVRel:=if smB a b then ⟨a.vars,⟨a.rel.ar,a.rel.rows.filter (semR a b)⟩⟩ else ⟨[],⟨0,[]⟩⟩
theorem flt_succ {α : Type} {p : α -> Bool} {l : List α} {i : Nat} (h : i < l.length) : (l.take (i + 1)).filter p = (l.take i).filter p ++ if p l[i] then [l[i]] else []:=by
 rw [List.take_succ_eq_append_getElem h,List.filter_append]
 cases e : p l[i] <;> simp [e]
theorem sm_keys {a b : PVRel} (ha : vrOk a = true) (hb : vrOk b = true) :
  prG b.rel ((comL a.vars b.vars).map (idxL b.vars)) = true /\ newB ((comL a.vars b.vars).map (idxL b.vars)).length (prL b.rel ((comL a.vars b.vars).map (idxL b.vars))) = true /\
  ∀ r,pickR (comC a.vars b.vars) r ∈ (newR ((comL a.vars b.vars).map (idxL b.vars)).length (prL b.rel ((comL a.vars b.vars).map (idxL b.vars)))).rows ↔ semR a b r = true:=by
 have fa:=vrF_of ha
 have fb:=vrF_of hb
 have hrb : rowsOk b.rel.ar b.rel.rows = true:=by simp only [vrOk,Bool.and_eq_true] at hb; exact hb.2.1
 have h5:=comL_len a.vars b.vars
 have ha5:=fa.len
 have hix : ∀ v ∈ comL a.vars b.vars,0 <= idxL b.vars v /\ (idxL b.vars v).toNat < b.vars.length:=fun v hv=>by
  have hvb : v ∈ b.vars:=List.contains_iff_mem.1 (List.mem_filter.1 hv).2
  have h3:=idxL_ge b.vars v
  rw [List.contains_iff_mem.2 hvb] at h3
  exact ⟨of_decide_eq_true h3,(idxL_mem hvb).1⟩
 have hG : prG b.rel ((comL a.vars b.vars).map (idxL b.vars)) = true:=by
  simp only [prG,colsOk,Bool.and_eq_true,decide_eq_true_eq,List.all_eq_true]
  refine ⟨hrb,by simp; omega,fun c hc=>?_⟩
  obtain ⟨v,hv,rfl⟩:=List.mem_map.1 hc
  have:=hix v hv
  have hb5:=fb.len
  rw [fb.ar,wrap64_of (by omega) (by omega)]
  simp only [inR,Bool.and_eq_true,decide_eq_true_eq]
  omega
 have hN : newB ((comL a.vars b.vars).map (idxL b.vars)).length (prL b.rel ((comL a.vars b.vars).map (idxL b.vars))) = true:=by
  rw [newB_of (by simp only [inR,Bool.and_eq_true,decide_eq_true_eq,List.length_map]; omega) (fun x hx=>?_)]
  ·have:=srtU_len (prL b.rel ((comL a.vars b.vars).map (idxL b.vars)))
   have h4:=fb.nr
   simp only [prL,List.length_map] at this
   exact decide_eq_true (by simp only [prL]; omega)
  ·obtain ⟨s,hs,rfl⟩:=List.mem_map.1 hx
   refine ⟨by rw [pickR_len],?_⟩
   obtain ⟨l1,v1⟩:=fb.rl s hs
   simp only [valsOk,List.all_eq_true] at v1 ⊢
   intro y hy
   rw [pick_com2,List.mem_map] at hy
   obtain ⟨v,hv,rfl⟩:=hy
   exact v1 _ (lookV_mem (List.contains_iff_mem.1 (List.mem_filter.1 hv).2) l1)
 refine ⟨hG,hN,fun r=>?_⟩
 rw [newR,if_pos hN]
 simp only [srtU_mem,prL,List.mem_map,semR,List.any_eq_true]
 constructor
 ·rintro ⟨s,hs,e⟩
  exact ⟨s,hs,(com_gl (uni_mem fa)).1 e.symm⟩
 ·rintro ⟨s,hs,e⟩
  exact ⟨s,hs,((com_gl (uni_mem fa)).2 e).symm⟩
def f1 (a b : PVRel) : Option PVRel:=some (smP a b)
def f2 (a b : PVRel) : Option PVRel:=if njB a b then some (njP a b) else none
def rtN (ps : List Int) : Nat:=(rootS ps).toNat
def ordP (ps : List Int) : List Nat:=preF (kidN ps) (ps.length + 2) (rtN ps)
def evL (d : PDb) (q : PQuery) (x : PDec) : Option (List PVRel):=match rlO d q x with
 | none=>none
 | some L0=>(twS f1 (parN x.par) (ordP x.par) L0).bind (twS f2 (parN x.par) (ordP x.par))
def evP (d : PDb) (q : PQuery) (x : PDec) : PReln:=match evL d q x with
 | none=>⟨0,[]⟩
 | some L=>prP (L.getD (rtN x.par) default).rel q.out
def evB (d : PDb) (q : PQuery) (x : PDec) : Bool:=match evL d q x with
 | none=>false
 | some L=>prB (L.getD (rtN x.par) default).rel q.out
theorem dec_tree {q : PQuery} {x : PDec} (h : decOk q x = true) : TreeF x.par (rtN x.par) /\ x.bags.length = x.par.length /\ rootS x.par = (rtN x.par : Int):=by
 simp only [decOk,Bool.and_eq_true,decide_eq_true_eq] at h
 obtain ⟨rt,h1,h2⟩:=tree_of h.1.1.1.2
 have : rtN x.par = rt:=by rw [rtN,h1]; simp
 rw [this]
 exact ⟨h2,h.1.1.1.1.2,h1⟩
def cN (l : List Nat) : List Int:=l.map fun (i : Nat)=>(i : Int)
theorem cN_len (l : List Nat) : (cN l).length = l.length:=by simp [cN]
theorem cN_app (l m : List Nat) : cN (l ++ m) = cN l ++ cN m:=by simp [cN]
def kidT (ps : List Int) (k i : Nat) : List Nat:=(List.range i).filter fun j=>ps.getD j 0 == (k : Int)
theorem kidT_succ {ps : List Int} {k i : Nat} (h : i < ps.length) : kidT ps k (i + 1) = kidT ps k i ++ if ps[i] = (k : Int) then [i] else []:=by
 rw [kidT,kidT,List.range_succ,List.filter_append]
 by_cases e : ps[i] = (k : Int) <;> simp [h,e]
theorem kidT_len (ps : List Int) (k i : Nat) : (kidT ps k i).length <= i:=by
 have:=List.length_filter_le (fun j=>ps.getD j 0 == (k : Int)) (List.range i)
 rwa [List.length_range] at this
theorem kidN_len (ps : List Int) (k : Nat) : (kidN ps k).length <= ps.length:=kidT_len ps k ps.length
def rvL (l : List Int) (s : Nat) : List Int:=(List.range l.length).map fun i=>if i < s \/ l.length - s <= i then l.getD (l.length - 1 - i) 0 else l.getD i 0
theorem rvL_len (l : List Int) (s : Nat) : (rvL l s).length = l.length:=by simp [rvL]
theorem rvL_get {l : List Int} {s i : Nat} (h : i < l.length) : (rvL l s).getD i 0 = if i < s \/ l.length - s <= i then l.getD (l.length - 1 - i) 0 else l.getD i 0:=by
 simp [rvL,h]
theorem rvL_zero (l : List Int) : rvL l 0 = l:=by
 refine List.ext_getElem (rvL_len l 0) fun i h1 h2=>?_
 have:=rvL_get (s:=0) h2
 rw [getD_el _ h1] at this
 rw [this,if_neg (by omega),getD_el _ h2]
theorem ext0 {l m : List Int} (hl : l.length = m.length) (h : ∀ i,i < l.length -> l.getD i 0 = m.getD i 0) : l = m:=by
 refine List.ext_getElem hl fun i h1 h2=>?_
 have:=h i h1
 rwa [getD_el _ h1,getD_el _ h2] at this
theorem set0 {l : List Int} {p i : Nat} {v : Int} (hi : i < l.length) : (l.set p v).getD i 0 = if p = i then v else l.getD i 0:=by
 by_cases h : p = i
 ·subst h; simp [hi]
 ·simp [h]
theorem rvL_step {l : List Int} {s : Nat} (h : s < l.length - 1 - s) : ((rvL l s).set s ((rvL l s).getD (l.length - 1 - s) 0)).set (l.length - 1 - s) ((rvL l s).getD s 0) = rvL l (s + 1):=by
 refine ext0 (by simp [rvL_len]) fun i h1=>?_
 have hi : i < l.length:=by simpa [rvL_len] using h1
 rw [set0 (by simpa [rvL_len] using hi),set0 (by rw [rvL_len]; exact hi),rvL_get hi,rvL_get hi,rvL_get (show s < l.length by omega),rvL_get (show l.length - 1 - s < l.length by omega)]
 rw [if_neg (show ¬ (s < s \/ l.length - s <= s) by omega),if_neg (show ¬ (l.length - 1 - s < s \/ l.length - s <= l.length - 1 - s) by omega)]
 by_cases c1 : l.length - 1 - s = i
 ·rw [if_pos c1,if_pos (by omega),show l.length - 1 - i = s by omega]
 ·rw [if_neg c1]
  by_cases c2 : s = i
  ·rw [if_pos c2,if_pos (by omega),c2]
  ·rw [if_neg c2]
   by_cases c3 : i < s \/ l.length - s <= i
   ·rw [if_pos c3,if_pos (by omega)]
   ·rw [if_neg c3,if_neg (by omega)]
theorem rvL_done {l : List Int} {s : Nat} (h : ¬ s < l.length - 1 - s) : rvL l s = l.reverse:=by
 refine List.ext_getElem (by simp [rvL_len]) fun i h1 h2=>?_
 have hi : i < l.length:=by simpa using h2
 have e:=rvL_get (s:=s) hi
 rw [getD_el _ h1] at e
 rw [e,List.getElem_reverse]
 by_cases c : i < s \/ l.length - s <= i
 ·rw [if_pos c,getD_el _ (by omega)]
 ·rw [if_neg c,getD_el _ hi]
  congr 1
  omega
end Go.Vs
namespace Go.Vs
section
variable {α : Type} [Inhabited α]
theorem twK_app (f : α -> α -> Option α) (p : Nat) : ∀ (l m : List Nat) (L : List α),twK f p (l ++ m) L = (twK f p l L).bind (twK f p m)
 | [],m,L=>rfl
 | c :: r, m, L => by
   rw [List.cons_append,twK,twK]
   cases f (L.getD p default) (L.getD c default) with
   | none=>rfl
   | some v=>simp only [Option.bind_some]; exact twK_app f p r m _
theorem twB_app (f : α -> α -> Option α) (kids : Nat -> List Nat) : ∀ (l m : List Nat) (L : List α),twB f kids (l ++ m) L = (twB f kids l L).bind (twB f kids m)
 | [],m,L=>rfl
 | c :: r, m, L => by
   rw [List.cons_append,twB,twB]
   cases twK f c (kids c) L with
   | none=>rfl
   | some v=>simp only [Option.bind_some]; exact twB_app f kids r m _
theorem twB_len {f : α -> α -> Option α} {kids : Nat -> List Nat} : ∀ {l : List Nat} {L M : List α},twB f kids l L = some M -> M.length = L.length
 | [],L,M,h=>by obtain rfl:=Option.some.inj h; rfl
 | c :: r, L, M, h => by
   rw [twB] at h
   cases hv : twK f c (kids c) L with
   | none=>rw [hv] at h; cases h
   | some v=>rw [hv] at h; have h1:=twB_len h; have h2:=twK_len hv; omega
theorem twS_step {f : α -> α -> Option α} {par : Nat -> Nat} {l : List Nat} {L M : List α} {i : Nat} (hi : i < l.length) (h : twS f par (l.take i) L = some M) :
  twS f par (l.take (i + 1)) L = (f (M.getD (par l[i]) default) (M.getD l[i] default)).map fun v=>M.set (par l[i]) v:=by
 rw [List.take_succ_eq_append_getElem hi,twS_app,h,Option.bind_some,twS]
 cases f (M.getD (par l[i]) default) (M.getD l[i] default) <;> rfl
theorem twK_step {f : α -> α -> Option α} {p : Nat} {l : List Nat} {L M : List α} {i : Nat} (hi : i < l.length) (h : twK f p (l.take i) L = some M) :
  twK f p (l.take (i + 1)) L = (f (M.getD p default) (M.getD l[i] default)).map fun v=>M.set p v:=by
 rw [List.take_succ_eq_append_getElem hi,twK_app,h,Option.bind_some,twK]
 cases f (M.getD p default) (M.getD l[i] default) <;> rfl
theorem twB_step {f : α -> α -> Option α} {kids : Nat -> List Nat} {l : List Nat} {L M : List α} {i : Nat} (hi : i < l.length) (h : twB f kids (l.take i) L = some M) :
  twB f kids (l.take (i + 1)) L = twK f l[i] (kids l[i]) M:=by
 rw [List.take_succ_eq_append_getElem hi,twB_app,h,Option.bind_some,twB]
 cases twK f l[i] (kids l[i]) M <;> rfl
theorem twS_none {f : α -> α -> Option α} {par : Nat -> Nat} {l : List Nat} {L : List α} {i : Nat} (h : twS f par (l.take i) L = none) : twS f par l L = none:=by
 conv=>lhs; rw [<- List.take_append_drop i l]
 rw [twS_app,h]; rfl
theorem twK_none {f : α -> α -> Option α} {p : Nat} {l : List Nat} {L : List α} {i : Nat} (h : twK f p (l.take i) L = none) : twK f p l L = none:=by
 conv=>lhs; rw [<- List.take_append_drop i l]
 rw [twK_app,h]; rfl
theorem twB_none {f : α -> α -> Option α} {kids : Nat -> List Nat} {l : List Nat} {L : List α} {i : Nat} (h : twB f kids (l.take i) L = none) : twB f kids l L = none:=by
 conv=>lhs; rw [<- List.take_append_drop i l]
 rw [twB_app,h]; rfl
end
theorem evL_eq {d : PDb} {q : PQuery} {x : PDec} {L0 : List PVRel} (h : rlO d q x = some L0) : evL d q x = (twS f1 (parN x.par) (ordP x.par) L0).bind (twS f2 (parN x.par) (ordP x.par)):=by rw [evL,h]
theorem ord_in {ps : List Int} {rt : Nat} (T : TreeF ps rt) (hrt : rtN ps = rt) : ∀ c ∈ ordP ps,c < ps.length /\ c ≠ rt /\ parN ps c < ps.length /\ ps.getD c 0 = (parN ps c : Int):=fun c hc=>by
 rw [ordP,hrt] at hc
 have hp : c ∈ postF (kidN ps) (ps.length + 2) rt:=by rw [post_pre]; exact List.mem_append_left _ hc
 have h1:=(T.post_facts _ rt T.hr c hp).1
 have hn:=T.post_nd (ps.length + 2) rt T.hr
 rw [post_pre] at hn
 have hne : c ≠ rt:=fun e=>(List.nodup_append.1 hn).2.2 c hc rt (by simp) e
 have h2:=T.par_kid h1 hne
 exact ⟨h1,hne,h2.1,h2.2.2.1⟩
theorem ord_all (ps : List Int) : postF (kidN ps) (ps.length + 2) (rtN ps) = ordP ps ++ [rtN ps]:=post_pre _ _ _
theorem getD_elI {α : Type} [Inhabited α] {l : List α} {i : Nat} (h : i < l.length) : l.getD i default = l[i]:=by simp [h]
end Go.Vs
namespace Go.Vs
def sW : List (List Int × Int) -> List Int -> Int
 | [],_=>0
 | p :: P,r=>(if p.1 = r then p.2 else 0) + sW P r
theorem sW_app (P Q : List (List Int × Int)) (r : List Int) : sW (P ++ Q) r = sW P r + sW Q r:=by
 induction P with
 | nil=>simp [sW]
 | cons p P ih=>simp only [List.cons_append,sW,ih]; omega
def sumL {α : Type} (f : α -> Int) : List α -> Int
 | []=>0
 | a :: l=>f a + sumL f l
theorem sumL_congr {α : Type} {f g : α -> Int} {l : List α} (h : ∀ a ∈ l,f a = g a) : sumL f l = sumL g l:=by
 induction l with
 | nil=>rfl
 | cons a l ih=>rw [sumL,sumL,h a (by simp),ih fun b hb=>h b (List.mem_cons_of_mem _ hb)]
theorem sumL_mul {α : Type} (f : α -> Int) (k : Int) (l : List α) : sumL (fun a=>f a * k) l = sumL f l * k:=by
 induction l with
 | nil=>simp [sumL]
 | cons a l ih=>simp only [sumL,ih,Int.add_mul]
theorem sW_flat {α : Type} (f : α -> List (List Int × Int)) (r : List Int) (l : List α) : sW (l.flatMap f) r = sumL (fun a=>sW (f a) r) l:=by
 induction l with
 | nil=>rfl
 | cons a l ih=>simp only [List.flatMap_cons,sW_app,sumL,ih]
theorem sW_sumL (P : List (List Int × Int)) (r : List Int) : sW P r = sumL (fun p=>if p.1 = r then p.2 else 0) P:=by
 induction P with
 | nil=>rfl
 | cons p P ih=>rw [sW,sumL,ih]
def joinW (u a : List Int) (P : List (List Int × Int)) (b : List Int) (L : List (List Int × Int)) : List (List Int × Int):=
 P.flatMap fun r=>L.filterMap fun s=>(glO u a r.1 b s.1).map fun x=>(x,r.2 * s.2)
theorem joinW_fst (u a : List Int) (P : List (List Int × Int)) (b : List Int) (L : List (List Int × Int)) : (joinW u a P b L).map Prod.fst = joinL u a (P.map Prod.fst) b (L.map Prod.fst):=by
 rw [joinW,joinL,List.map_flatMap,List.flatMap_map]
 refine congrArg (fun f=>List.flatMap f P) (funext fun r=>?_)
 rw [List.map_filterMap,List.filterMap_map]
 refine congrArg (fun f=>List.filterMap f L) (funext fun s=>?_)
 simp only [Function.comp_apply,Option.map_map]
 cases glO u a r.1 b s.1 <;> rfl
theorem gl_iff {u a b : List Int} (ha : a.Nodup) (hb : b.Nodup) (hu : ∀ x,x ∈ u ↔ x ∈ a \/ x ∈ b) {r s : List Int} (hr : r.length = a.length) (hs : s.length = b.length) (β : Int -> Int) :
  glO u a r b s = some (u.map β) ↔ r = a.map β /\ s = b.map β:=by
 have h:=join_mem (rows:=[r]) (list:=[s]) ha hb hu (fun x hx=>by rw [List.mem_singleton.1 hx]; exact hr) (fun x hx=>by rw [List.mem_singleton.1 hx]; exact hs) β
 simp only [joinL,List.flatMap_cons,List.flatMap_nil,List.append_nil,List.mem_filterMap,List.mem_singleton,exists_eq_left] at h
 rw [h]
 constructor
 ·rintro ⟨h1,h2⟩; exact ⟨h1.symm,h2.symm⟩
 ·rintro ⟨h1,h2⟩; exact ⟨h1.symm,h2.symm⟩
theorem sW_fm {u a b : List Int} (ha : a.Nodup) (hb : b.Nodup) (hu : ∀ x,x ∈ u ↔ x ∈ a \/ x ∈ b) {r : List Int} (c : Int) (hr : r.length = a.length) (β : Int -> Int) :
  ∀ (L : List (List Int × Int)),(∀ s ∈ L,s.1.length = b.length) -> sW (L.filterMap fun s=>(glO u a r b s.1).map fun x=>(x,c * s.2)) (u.map β) = (if r = a.map β then c else 0) * sW L (b.map β)
 | [],_=>by simp [sW]
 | s :: L, hs => by
   have ih:=sW_fm ha hb hu c hr β L fun t ht=>hs t (List.mem_cons_of_mem _ ht)
   have hg:=gl_iff ha hb hu hr (hs s (by simp)) β
   rw [sW,Int.mul_add,<- ih]
   cases hO : glO u a r b s.1 with
   | none =>
     rw [List.filterMap_cons_none (by rw [hO]; rfl)]
     have : ¬ (r = a.map β /\ s.1 = b.map β):=fun h=>by rw [hg.2 h] at hO; cases hO
     by_cases h1 : r = a.map β
     ·rw [if_neg (fun e=>this ⟨h1,e⟩)]; simp
     ·simp [h1]
   | some x =>
     rw [List.filterMap_cons_some (by rw [hO]; rfl),sW]
     rw [hO] at hg
     by_cases hx : x = u.map β
     ·obtain ⟨h1,h2⟩:=hg.1 (by rw [hx])
      simp only [hx,h1,h2,if_true]
     ·have : ¬ (r = a.map β /\ s.1 = b.map β):=fun h=>hx (by have:=hg.2 h; simpa using this)
      simp only [if_neg hx]
      by_cases h1 : r = a.map β
      ·rw [if_neg (fun e=>this ⟨h1,e⟩)]; simp
      ·simp [h1]
theorem sW_join {u a b : List Int} (ha : a.Nodup) (hb : b.Nodup) (hu : ∀ x,x ∈ u ↔ x ∈ a \/ x ∈ b) {P L : List (List Int × Int)} (hr : ∀ r ∈ P,r.1.length = a.length) (hs : ∀ s ∈ L,s.1.length = b.length) (β : Int -> Int) :
  sW (joinW u a P b L) (u.map β) = sW P (a.map β) * sW L (b.map β):=by
 rw [joinW,sW_flat,sW_sumL P,<- sumL_mul]
 exact sumL_congr fun r hm=>sW_fm ha hb hu r.2 (hr r hm) β L hs
def ones (l : List (List Int)) : List (List Int × Int):=l.map fun r=>(r,1)
structure JnW (as : List (List Int × List (List Int × Int))) (u : List Int) (P : List (List Int × Int)) : Prop where
 pw : u.Pairwise (· < ·)
 mem : ∀ x,x ∈ u ↔ x ∈ as.flatMap Prod.fst
 len : ∀ r ∈ P,r.1.length = u.length
 sum : ∀ β : Int -> Int,sW P (u.map β) = as.foldr (fun a n=>sW a.2 (a.1.map β) * n) 1
 sup : ∀ β : Int -> Int,u.map β ∈ P.map Prod.fst ↔ ∀ a ∈ as,a.1.map β ∈ a.2.map Prod.fst
theorem JnW.zero : JnW [] [] [([],1)]:=⟨.nil,by simp,by simp,fun β=>by simp [sW],fun β=>by simp⟩
theorem prod_snoc (β : Int -> Int) : ∀ (as : List (List Int × List (List Int × Int))) (a : List Int × List (List Int × Int)),
  (as ++ [a]).foldr (fun a n=>sW a.2 (a.1.map β) * n) 1 = as.foldr (fun a n=>sW a.2 (a.1.map β) * n) 1 * sW a.2 (a.1.map β)
 | [],a=>by simp
 | b :: as,a=>by simp only [List.cons_append,List.foldr_cons,prod_snoc β as a,Int.mul_assoc]
theorem joinW_len {u a : List Int} {P : List (List Int × Int)} {b : List Int} {L : List (List Int × Int)} : ∀ r ∈ joinW u a P b L,r.1.length = u.length:=fun r hr=>
 join_len r.1 (by rw [<- joinW_fst]; exact List.mem_map_of_mem hr)
theorem JnW.step {as : List (List Int × List (List Int × Int))} {u : List Int} {P : List (List Int × Int)} (h : JnW as u P) {vs : List Int} (hv : ∀ v ∈ vs,0 <= v /\ v < 5) {T L : List (List Int × Int)}
  (hl : ∀ s ∈ L,s.1.length = (aVars vs).length) (hw : ∀ β : Int -> Int,sW L ((aVars vs).map β) = sW T (vs.map β)) (hm : ∀ β : Int -> Int,(aVars vs).map β ∈ L.map Prod.fst ↔ vs.map β ∈ T.map Prod.fst) :
  JnW (as ++ [(vs,T)]) (uniL u (aVars vs)) (joinW (uniL u (aVars vs)) u P (aVars vs) L):=by
 have hu:=uniL_pw (aVars vs) h.pw
 refine ⟨hu.1,fun x=>?_,joinW_len,fun β=>?_,fun β=>?_⟩
 ·rw [hu.2,h.mem,List.flatMap_append,List.mem_append,aVars_mem]
  simp only [List.flatMap_cons,List.flatMap_nil,List.append_nil]
  constructor
  ·rintro (h | h)
   ·exact .inl h
   ·exact .inr h.1
  ·rintro (h | h)
   ·exact .inl h
   ·exact .inr ⟨h,hv x h⟩
 ·rw [sW_join (pw_nodup h.pw) (pw_nodup (aVars_pw vs)) hu.2 h.len hl,h.sum,hw,prod_snoc]
 ·rw [joinW_fst,join_mem (pw_nodup h.pw) (pw_nodup (aVars_pw vs)) hu.2 (fun r hr=>by
   obtain ⟨p,hp,rfl⟩:=List.mem_map.1 hr
   exact h.len p hp) (fun s hs=>by
   obtain ⟨p,hp,rfl⟩:=List.mem_map.1 hs
   exact hl p hp),h.sup,hm]
  simp only [List.mem_append,List.mem_singleton]
  constructor
  ·rintro ⟨h1,h2⟩ b (hb | rfl)
   ·exact h1 b hb
   ·exact h2
  ·exact fun h=>⟨fun b hb=>h b (.inl hb),h (vs,T) (.inr rfl)⟩
end Go.Vs
namespace Go.Vs
section
variable {S : Nat -> Prop} {w : World}
end
end Go.Vs
namespace Go.Vs
theorem lead_rowE {σ : St} (k : Nat) {T sz : Nat} {es : List (List D)} (hm : σ.m k = some (.row T sz es)) : Lead (fun σ'=>σ' = { σ with m:=upd σ.m k (some (.row T sz (erLL es))) }) σ:=by
 intro A0 N w0 ρ a w h
 refine ⟨_,ρ,h.setBlk (b':=.row T sz (erLL es)) hm rfl h.below (Nat.le_refl _) (fun _ _=>rfl) (fun j=>?_) (fun hS _=>?_),rfl⟩
 ·unfold KC
  by_cases hj : j = k
  ·subst hj
   simp only [upd,if_true]
   exact ⟨trivial,T,es,hm,by rw [erLL_len]; exact Nat.le_refl _⟩
  ·simp only [upd,if_neg hj]
   cases hb : σ.m j with
   | none=>trivial
   | some b => cases b with
     | box cs=>exact ⟨trivial,cs,rfl⟩
     | row T' sz' es'=>exact ⟨trivial,T',es',rfl,Nat.le_refl _⟩
 ·have hb:=h.mem k _ hm
  simp only [BlkR] at hb ⊢
  refine ⟨hb.1,?_⟩
  cases hr : ρ k with
  | none =>
    rw [hr] at hb
    have:=hb.2
    simp only at this
    subst this
    simp [erLL]
  | some p =>
    obtain ⟨g,cap⟩:=p
    rw [hr] at hb
    obtain ⟨_,h1,h2,h3,cur,h4,h5,h6⟩:=hb
    refine ⟨h1,h2,by rw [erLL_len]; exact h3,cur,h4,h5,fun i e he=>?_⟩
    obtain ⟨e0,he0,rfl⟩:=erLL_get es i e he
    obtain ⟨h7,h8⟩:=h6 i e0 he0
    refine ⟨by rw [erL_len]; exact h7,fun j u hu=>?_⟩
    obtain ⟨u0,hu0,rfl⟩:=erL_get e0 j u hu
    obtain ⟨v,hv,hd⟩:=h8 j u0 hu0
    exact ⟨v,hv,(hd.mono (fun g hg=>hS g hg) (fun _ _=>rfl)).er⟩
end Go.Vs
