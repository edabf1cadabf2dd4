/-
  A part of a proof of this seat: a value-level semantics of Go code without maps, walks, plain lemmas. It holds of all that its hypotheses name.
-/
import Derived.Test.YtgjfmjiildjelaaGreatDoorDJ1A2
set_option linter.unusedSimpArgs false
set_option linter.unusedVariables false
set_option linter.unnecessarySimpa false
namespace Go.Vs
section
theorem bM {P : Program} {E : Md} {sch : Nat -> Tr} {Q : Exit -> St -> Prop} {σ : St} (c : Operand) (x y : Code) (_ : E.p = false) : vwp P E sch (.cond c x y) Q σ = (gL (σ.ev c) = true /\ (getB (σ.ev c) = true -> vwp P E sch x Q σ) /\ (getB (σ.ev c) = false -> vwp P E sch y Q σ)):=rfl
theorem FW {P : Program} {E : Md} {sch : Nat -> Tr} {Q : Exit -> St -> Prop} {σ : St} (c : Operand) (x y : Code) (_ : E.p = true) : vwp P E sch (.cond c x y) Q σ = (gL (σ.ev c) = true /\ if getB (σ.ev c) = true then vwp P E sch x Q σ else vwp P E sch y Q σ):=by
 rw [DN]
 cases getB (σ.ev c) <;> simp
attribute [simp] KO IT vw IM FW bM FU IQ IN KN JQ Fx Fw Fy JL JK JM
 wX zbx IR DM IS FS KH FV IP FY wY FT IU vq FX vt F3 KJ IL GQ vu DL F4 Al Am KK KM DO
 Kg Kh H6 Cp zN KS CB KQ IW IV F7 Hu Bg
attribute [simp] lstD getB gL getZ iq getL getC isBox bF szOf tyOf elV elOk lnV lnOk agB szT foT slT zrT atP eO hd binD nP jH fldV tW kdV eqC eqCL kdL unD unOk kOf addP idxV mh iY isStr cutV cutOk live dZ
 lC kv allC fu dD isD Ax qI stOk stSt sd xm yG yH loB hiB bdOk x6 vite oY Ae Blk.map wipe wipeL V.cells V.one splice iM lK keysVL V.keys rdL rd rI fC B8 vret vend GP DJ resV nX oneV V.ids idsVL D.ids
def gT (g : V) (want : Bool) : Bool:=match g with | .d (.bool b)=>b == want | _=>false
def gF (g : V) (want : Bool) : Bool:=match g with | .d (.bool b)=>!(b == want) | .tup []=>true | _=>false
@[simp] theorem gT_b (b want : Bool) : gT (.d (.bool b)) want = (b == want):=rfl
@[simp] theorem gF_b (b want : Bool) : gF (.d (.bool b)) want = !(b == want):=rfl
@[simp] theorem gT_t (want : Bool) : gT (.tup []) want = false:=rfl
@[simp] theorem gF_t (want : Bool) : gF (.tup []) want = true:=rfl
@[simp] theorem I6 (ops : Array Oper) (σ : St) (j : Nat) : lK ops σ j = match (ops[j]?).bind (·.dst) with | some d=>σ.t d | none=>.bad:=rfl
@[simp] theorem w_guard2 {P : Program} {E : Md} {ops : Array Oper} {K : St → Prop} {σ : St} {dst : Option Tmp} {ty : TypeId} {pos : String} {af : Array Edge} {r : List Oper} {op : Op} (j : Nat) (want : Bool) : vops P E ops K (⟨dst, op, ty, pos, af, some (j, want)⟩ :: r) σ =
   if gT (lK ops σ j) want = true then vops P E ops K (⟨dst,op,ty,pos,af,none⟩ :: r) σ else if gF (lK ops σ j) want = true then vops P E ops K r (σ.put dst (.tup [])) else False:=by
  rw [FZ]
  generalize lK ops σ j = g
  cases g with
  | d x =>
    cases x with
    | bool b=>cases b <;> cases want <;> simp [nx,gT,gF]
    | _=>simp [nx,gT,gF]
  | tup l=>cases l <;> simp [nx,gT,gF]
  | _=>simp [nx,gT,gF]
@[simp] theorem start1 (a : V) (B : Nat) : St.start [a] B = ⟨B, B, [], upd (fun _ => .tup []) 0 a, fun _ => none⟩ := by
  simp only [St.start,St.mk.injEq,true_and,and_true]
  funext i; match i with | 0=>rfl | _ + 1=>rfl
@[simp] theorem start2 (a b : V) (B : Nat) : St.start [a, b] B = ⟨B, B, [], upd (upd (fun _ => .tup []) 1 b) 0 a, fun _ => none⟩ := by
  simp only [St.start,St.mk.injEq,true_and,and_true]
  funext i; match i with | 0=>rfl | 1=>rfl | _ + 2=>rfl
@[simp] theorem start3 (a b c : V) (B : Nat) : St.start [a, b, c] B = ⟨B, B, [], upd (upd (upd (fun _ => .tup []) 2 c) 1 b) 0 a, fun _ => none⟩ := by
  simp only [St.start,St.mk.injEq,true_and,and_true]
  funext i; match i with | 0=>rfl | 1=>rfl | 2=>rfl | _ + 3=>rfl
@[simp] theorem start4 (a b c d : V) (B : Nat) : St.start [a, b, c, d] B = ⟨B, B, [], upd (upd (upd (upd (fun _ => .tup []) 3 d) 2 c) 1 b) 0 a, fun _ => none⟩ := by
  simp only [St.start,St.mk.injEq,true_and,and_true]
  funext i; match i with | 0=>rfl | 1=>rfl | 2=>rfl | 3=>rfl | _ + 4=>rfl
@[simp] theorem x_mapV0 (k : Nat) : mapV (wipe k) (fun _ => V.tup []) = fun _ => V.tup [] := by
  funext i; simp [mapV,wipe,wipeL]
structure Sl (α : Type) where
 id : Option Nat
 T : Option (TypeId × Nat)
 xs : List α
instance {α : Type} : Inhabited (Sl α):=⟨⟨none,none,[]⟩⟩
def dSl {α : Type} (f : α -> List D) (s : Sl α) : D:=.sl s.id s.T (s.xs.map f)
abbrev Ints:=Sl Int
def cI (n : Int) : List D:=[.int .i64 n]
def cS {α : Type} (c : α -> List D) (s : Sl α) : List D:=[dSl c s]
abbrev Rows:=Sl Ints
theorem aj {n : Int} (h1 : -9223372036854775808 <= n) (h2 : n <= 9223372036854775807) : IntKind.i64.wrap n = n:=by
 rw [IntKind.wrap_i64]; omega
def sumW {α : Type} (w : α -> Nat) (l : List α) : Nat:=(l.map w).sum
@[simp] theorem Ke {α : Type} (w : α -> Nat) : sumW w [] = 0:=rfl
theorem bz {σ : St} {γ : Nat -> Option Nat} {hs' k T sz : Nat} {es : List (List D)} (hg : Gam σ γ hs') (hm : σ.m k = some (.row T sz es)) (hlk : k < 1000:=by decide) : (∀ g,γ k = some g -> σ.B <= g /\ g < hs') /\ (es ≠ [] -> γ k ≠ none):=
 ⟨fun g h=>⟨(hg.fr k T sz es g hm h hlk).1.lo,(hg.fr k T sz es g hm h hlk).2⟩,fun hne h=>by obtain ⟨g,h'⟩:=hg.some k T sz es hm hne hlk; rw [h] at h'; cases h'⟩
def fill (z : List D) (l : List (List D)) (i : Nat) : List (List D):=l.take i ++ List.replicate (l.length - i) z
theorem wV {P : Program} {f : FuncId} {vs : List V} {dst : Option Tmp} {K K' : St -> Prop} {σ : St} (hk : ∀ σ,K σ -> K' σ) (h : mP P f vs dst K σ) : mP P f vs dst K' σ:=by
 unfold mP at *
 split at h
 ·obtain ⟨h1,post,h2,h3⟩:=h
  exact ⟨h1,post,h2,fun r n hs' a b c d=>hk _ (h3 r n hs' a b c d)⟩
 ·intro γ n a b
  obtain ⟨As,post,h1,h2,h3⟩:=h γ n a b
  exact ⟨As,post,h1,h2,fun r hs' a b c=>⟨(h3 r hs' a b c).1,(h3 r hs' a b c).2.1,hk _ (h3 r hs' a b c).2.2⟩⟩
theorem vm {P : Program} {f : FuncId} {vs : List V} {dst : Option Tmp} {K K' : St -> Prop} {σ : St} (hk : ∀ σ,K σ -> K' σ) (h : sY P f vs dst K σ) : sY P f vs dst K' σ:=by
 obtain ⟨As,post,h1,h2,h3⟩:=h
 refine ⟨As,post,h1,h2,?_⟩
 rcases h3 with h3 | h3
 ·exact .inl fun r n hs' a b c d=>⟨(h3 r n hs' a b c d).1,hk _ (h3 r n hs' a b c d).2⟩
 ·exact .inr fun r n hs' a b c d=>hk _ (h3 r n hs' a b c d)
theorem s6 {P : Program} {E : Md} {f : FuncId} {args : List Operand} {dst : Option Tmp} {K K' : St -> Prop} {σ : St} (hk : ∀ σ,K σ -> K' σ) (h : oF P E f args dst K σ) : oF P E f args dst K' σ:=by
 obtain ⟨h0,k,rest,As,Cs,post,h1,h2,h3,h4,h5,h6⟩:=h
 exact ⟨h0,k,rest,As,Cs,post,h1,h2,h3,h4,h5,fun r cs' ws n hs' a b c d e f=>hk _ (h6 r cs' ws n hs' a b c d e f)⟩
theorem vU {P : Program} {f : FuncId} {W : List Nat} {post : Nat -> V -> List V -> List D -> Prop} {n : Nat} {vs : List V} {dst : Option Tmp} {K K' : St -> Prop} {σ : St} (hk : ∀ σ,K σ -> K' σ) (h : oZ P f W post n vs dst K σ) : oZ P f W post n vs dst K' σ:=by
 unfold oZ at *
 split at h
 ·obtain ⟨h1,h2,h3,h4,h5,h6,h7⟩:=h
  exact ⟨h1,h2,h3,h4,h5,h6,fun r cs' ws hs' a b c d e=>hk _ (h7 r cs' ws hs' a b c d e)⟩
 ·obtain ⟨h1,h2,h3,h4⟩:=h
  exact ⟨h1,h2,h3,fun r cs' ws hs' a b c d=>hk _ (h4 r cs' ws hs' a b c d)⟩
theorem vl {P : Program} {E : Md} {f : FuncId} {args : List Operand} {vs : List V} {dst : Option Tmp} {K K' : St -> Prop} {σ : St} (hk : ∀ σ,K σ -> K' σ) (h : b9 P E f args vs dst K σ) : b9 P E f args vs dst K' σ:=by
 rcases h with h | ⟨h1,h2⟩ | h | h | h | h
 ·exact .inl (wV hk h)
 ·refine .inr (.inl ⟨h1,fun γ n a b=>?_⟩)
  obtain ⟨W,post,h3,h4⟩:=h2 γ n a b
  exact ⟨W,post,h3,vU hk h4⟩
 ·exact .inr (.inr (.inl (vm hk h)))
 ·exact .inr (.inr (.inr (.inl (s6 hk h))))
 ·obtain ⟨d,As,post,h1,h2,h3,h4,h5⟩:=h
  exact .inr (.inr (.inr (.inr (.inl ⟨d,As,post,h1,h2,h3,h4,fun ds n hs' a b c e f=>hk _ (h5 ds n hs' a b c e f)⟩))))
 ·obtain ⟨d,As,post,h1,h2,h3,h4⟩:=h
  refine .inr (.inr (.inr (.inr (.inr ⟨d,As,post,h1,h2,h3,fun r n hs' a b c=>?_⟩))))
  rcases h4 r n hs' a b c with ⟨e1,T,sz,e2,e3⟩ | ⟨g,T,sz,es,e1,e2,e3,e4⟩ | e | ⟨g,T,sz,es,b,e1,e2,e3,e4⟩
  ·exact .inl ⟨e1,T,sz,e2,hk _ e3⟩
  ·exact .inr (.inl ⟨g,T,sz,es,e1,e2,e3,hk _ e4⟩)
  ·exact .inr (.inr (.inl (hk _ e)))
  ·exact .inr (.inr (.inr ⟨g,T,sz,es,b,e1,e2,e3,hk _ e4⟩))
theorem vn {P : Program} {E : Md} {E : Md} {o : Oper} {K K' : St -> Prop} {σ : St} (hk : ∀ σ,K σ -> K' σ) (h : vop P E o K σ) : vop P E o K' σ:=by
 unfold vop at *
 split at h
 ·split at h
  ·rename_i ha
   rw [if_pos ha]
   obtain ⟨s,x,t,dk,g,es,h1,h2,h3,h4,h5,h6,h7,h8,h9,h10,h11,h12,h13,h14⟩:=h
   exact ⟨s,x,t,dk,g,es,h1,h2,h3,h4,h5,h6,h7,h8,h9,h10,h11,h12,h13,fun g' hs' a b c=>hk _ (h14 g' hs' a b c)⟩
  ·rename_i ha
   rw [if_neg ha]
   exact ⟨h.1,hk _ h.2⟩
 ·exact vl hk h
 ·intro A0 _ N w0 ρ a w hR hd next Q hn
  exact h A0 N w0 ρ a w hR hd next Q fun σ' ρ' a' w' h1 h2=>hn σ' ρ' a' w' h1 (hk _ h2)
 ·split at h
  ·exact ⟨h.1,hk _ h.2⟩
  ·split at h
   ·rename_i hp; rw [if_pos hp]; exact ⟨h.1,hk _ h.2⟩
   ·rename_i hp; rw [if_neg hp]; exact fun γ hs' a b=>⟨(h γ hs' a b).1,hk _ (h γ hs' a b).2⟩
 ·exact ⟨h.1,hk _ h.2⟩
theorem fp {P : Program} {E : Md} {ops : Array Oper} {K K' : St -> Prop} (hk : ∀ σ,K σ -> K' σ) : ∀ (l : List Oper) (σ : St),vops P E ops K l σ -> vops P E ops K' l σ
 | [],σ,h=>hk σ h
 | o :: r, σ, h => by
   simp only [vops] at *
   split at h
   ·exact vn (E:=E) (fp hk r) h
   ·split at h
    ·split at h
     ·exact ⟨fun hb=>vn (E:=E) (fp hk r) (h.1 hb),fun hb=>fp hk r _ (h.2 hb)⟩
     ·exact fp hk r _ h
     ·exact h.elim
    ·exact h.elim
theorem j9 {P : Program} {E : Md} {ops : Array Oper} {K K' : St -> Prop} (hk : ∀ σ,K σ -> K' σ) : ∀ (t : Tr) (σ : St),vtr P E ops K t σ -> vtr P E ops K' t σ
 | .nil,σ,h=>hk σ h
 | .seq l t,σ,h=>fp (j9 hk t) _ σ h
 | .app i ts t,σ,h=>⟨h.1,fp (j9 hk t) _ σ h.2⟩
 | .both t u,σ,h=>⟨j9 hk t σ h.1,j9 hk u σ h.2⟩
theorem eY {P : Program} {E : Md} {sch : Nat -> Tr} : ∀ (c : Code) (Q Q' : Exit -> St -> Prop) (σ : St),(∀ e σ,Q e σ -> Q' e σ) -> vwp P E sch c Q σ -> vwp P E sch c Q' σ
 | .skip,Q,Q',σ,hq,h=>hq _ _ h
 | .region id ops true,Q,Q',σ,hq,h=>j9 (fun σ=>hq _ σ) _ σ h
 | .region id ops false,Q,Q',σ,hq,h=>fp (fun σ=>hq _ σ) _ σ h
 | .seq a b,Q,Q',σ,hq,h=>eY a _ _ σ (fun e σ he=>by cases e <;> first | exact eY b _ _ σ hq he | exact hq _ _ he) h
 | .cond c x y,Q,Q',σ,hq,h=>⟨h.1,fun hb=>eY x _ _ σ hq (h.2.1 hb),fun hb=>eY y _ _ σ hq (h.2.2 hb)⟩
 | .block id c,Q,Q',σ,hq,h=>eY c _ _ σ (fun e σ he=>by
  cases e <;> first | exact hq _ _ he | skip
  simp only [fC] at *
  split <;> rename_i hid <;> simp only [hid,if_true,if_false] at he <;> exact hq _ _ he) h
 | .loop c, Q, Q', σ, hq, h => by
   obtain ⟨I,h0,hr⟩:=h
   exact ⟨I,h0,fun n σ' hI=>eY c _ _ σ' (fun e σ he=>by cases e <;> first | exact he | exact hq _ _ he) (hr n σ' hI)⟩
 | .exit id,Q,Q',σ,hq,h=>hq _ _ h
 | .ret,Q,Q',σ,hq,h=>hq _ _ h
 | .rangeFunc ..,_,_,_,_,h=>h.elim
 | .scope _,_,_,_,_,h=>h.elim
 | .label _,_,_,_,_,h=>h.elim
 | .goto _,_,_,_,_,h=>h.elim
 | .refuse _,_,_,_,_,h=>h.elim
theorem FP {α : Type} {t : Nat -> α} {k : Nat} {x : α} (h : t k = x) : upd t k x = t:=by subst h; exact DB t k
def updL {α : Type} (t : Nat -> α) : List (Nat × α) -> Nat -> α
 | []=>t
 | (k,x) :: r=>upd (updL t r) k x
@[simp] theorem KF {α : Type} (t : Nat -> α) : updL t [] = t:=rfl
@[simp] theorem Jl {α : Type} (t : Nat -> α) (k : Nat) (x : α) (r : List (Nat × α)) : updL t ((k,x) :: r) = upd (updL t r) k x:=rfl
theorem bL {α : Type} {t : Nat -> α} : ∀ {l : List (Nat × α)},(∀ p ∈ l,t p.1 = p.2) -> updL t l = t
 | [],_=>rfl
 | (k, x) :: r, h => by
   simp only [updL]
   rw [bL (fun p hp=>h p (by simp [hp]))]
   exact FP (h (k,x) (by simp))
def Back {X : Type} (Inv : X -> Prop) (S : X -> List (Nat × V)) (M : X -> List (Nat × Option Blk)) (μ : X -> Nat) (B : Nat) (W : List Nat) (hs n : Nat) (σ : St) : Prop:=
 Lead (fun s=>∃ x,Inv x /\ μ x < n /\ s.B = B /\ s.W = W /\ hs <= s.hs /\ (∀ p ∈ S x,s.t p.1 = p.2) /\ (∀ p ∈ M x,s.m p.1 = p.2)) σ
theorem back {X : Type} {Inv : X -> Prop} {S : X -> List (Nat × V)} {M : X -> List (Nat × Option Blk)} {μ : X -> Nat} {B : Nat} {W : List Nat} {hs n : Nat} {σ : St} (x : X) (h1 : Inv x) (h2 : μ x < n) (h3 : (σ.B,σ.W) = (B,W)) (h4 : hs <= σ.hs)
 (h5 : ∀ p ∈ S x,σ.t p.1 = p.2) (h6 : ∀ p ∈ M x,σ.m p.1 = p.2) : Back Inv S M μ B W hs n σ:=Lead.of ⟨x,h1,h2,(Prod.mk.inj h3).1,(Prod.mk.inj h3).2,h4,h5,h6⟩
def qK {X : Type} (Inv : X -> Prop) (S : X -> List (Nat × V)) (M : X -> List (Nat × Option Blk)) (μ : X -> Nat) (B : Nat) (W : List Nat) (hs n : Nat) (Q : Exit -> St -> Prop) : Exit -> St -> Prop
 | .normal,σ=>Back Inv S M μ B W hs n σ
 | e,σ=>Q e σ
theorem ae {P : Program} {E : Md} {sch : Nat -> Tr} {c : Code} {Q : Exit -> St -> Prop} {B hs0 : Nat} {W : List Nat} {t0 : Nat -> V} {m0 : Nat -> Option Blk} {X : Type} (Inv : X -> Prop) (S : X -> List (Nat × V)) (M : X -> List (Nat × Option Blk)) (μ : X -> Nat) (x0 : X)
  (h0 : Inv x0) (hS : ∀ p ∈ S x0,t0 p.1 = p.2) (hM : ∀ p ∈ M x0,m0 p.1 = p.2)
  (hr : ∀ x hs t m,Inv x -> hs0 <= hs -> vwp P E sch c (qK Inv S M μ B W hs (μ x) Q) ⟨B,hs,W,updL t (S x),updL m (M x)⟩) : yK P E sch c Q ⟨B,hs0,W,t0,m0⟩:=by
 refine ⟨fun n σ=>∃ x hs t m,Inv x /\ μ x = n /\ hs0 <= hs /\ σ = ⟨B,hs,W,updL t (S x),updL m (M x)⟩,Lead.of ⟨_,x0,hs0,t0,m0,h0,rfl,Jv _,by rw [bL hS,bL hM]⟩,?_⟩
 rintro n σ ⟨x,hs,t,m,hx,rfl,hhs,rfl⟩
 refine eY _ _ _ _ ?_ (hr x hs t m hx hhs)
 intro e σ he
 cases e with
 | normal =>
   refine Lead.mono he ?_
   rintro s ⟨x',h1,h2,h3,h7,h4,h5,h6⟩
   obtain ⟨B',hs',W',t',m'⟩:=s
   simp only at h3 h7 h4 h5 h6
   subst h3 h7
   exact ⟨_,h2,x',hs',t',m',h1,rfl,Zy hhs h4,by rw [bL h5,bL h6]⟩
 | _=>exact he
@[simp] theorem KY {X : Type} (Inv : X -> Prop) (S : X -> List (Nat × V)) (M : X -> List (Nat × Option Blk)) (μ : X -> Nat) (B : Nat) (W : List Nat) (hs n : Nat) (Q : Exit -> St -> Prop) (σ : St) : qK Inv S M μ B W hs n Q .normal σ = Back Inv S M μ B W hs n σ:=rfl
@[simp] theorem KX {X : Type} (Inv : X -> Prop) (S : X -> List (Nat × V)) (M : X -> List (Nat × Option Blk)) (μ : X -> Nat) (B : Nat) (W : List Nat) (hs n id : Nat) (Q : Exit -> St -> Prop) (σ : St) : qK Inv S M μ B W hs n Q (.exit id) σ = Q (.exit id) σ:=rfl
@[simp] theorem KZ {X : Type} (Inv : X -> Prop) (S : X -> List (Nat × V)) (M : X -> List (Nat × Option Blk)) (μ : X -> Nat) (B : Nat) (W : List Nat) (hs n : Nat) (Q : Exit -> St -> Prop) (σ : St) : qK Inv S M μ B W hs n Q .ret σ = Q .ret σ:=rfl
theorem fi {P : Program} {E : Md} {args : List Operand} {f : FuncId} {vs : List V} {dst : Option Tmp} {K : St -> Prop} {σ : St} {v : V} (hc : VC P f vs (fun _ r=>r = v)) (hk : keysVL vs = []) (hr : rdL (fun _=>none) σ.m vs = some vs) (hv : v.ids = [])
  (hK : ∀ hs',σ.hs <= hs' -> K ({ σ with hs:=hs' }.put dst v)) : b9 P E f args vs dst K σ:=by
 refine .inl ?_
 unfold mP
 split
 ·refine ⟨hr,_,hc,?_⟩
  intro r n hs' a b c _
  subst c
  exact hK hs' (by omega)
 ·rename_i h; rw [hk] at h; cases h
theorem bb {P : Program} {E : Md} {args : List Operand} {f : FuncId} {vs : List V} {dst : Option Tmp} {K : St -> Prop} {σ : St} {post : Nat -> V -> Prop} (hc : VC P f vs post) (hk : keysVL vs = []) (hr : rdL (fun _=>none) σ.m vs = some vs)
  (hK : ∀ n hs' r,σ.hs <= n -> n <= hs' -> post n r -> (∀ i ∈ r.ids,i < hs') -> K ({ σ with hs:=hs' }.put dst r)) : b9 P E f args vs dst K σ:=by
 refine .inl ?_
 unfold mP
 split
 ·exact ⟨hr,_,hc,fun r n hs' a b c d=>hK n hs' r a b c d⟩
 ·rename_i h; rw [hk] at h; cases h
theorem aF {P : Program} {E : Md} {args : List Operand} {f : FuncId} {vs As : List V} {dst : Option Tmp} {K : St -> Prop} {σ : St} {v : V} (hc : VC P f As (fun _ r=>r = v)) (hr : rpL σ.m vs = some As)
  (hK : ∀ hs',σ.hs <= hs' -> v.ln -> K ({ (σ.frps (keysVL vs)) with hs:=hs' }.put dst v)) : b9 P E f args vs dst K σ:=
 .inr (.inr (.inl ⟨As,_,hr,hc,.inr fun r n hs' a b c d=>by subst c; exact hK hs' (by omega) d⟩))
theorem ag {P : Program} {E : Md} {args : List Operand} {f : FuncId} {vs As : List V} {dst : Option Tmp} {K : St -> Prop} {σ : St} {v : V} (hc : VC P f As (fun _ r=>r = v)) (hr : rpL σ.m vs = some As) (hf : v.flat = true)
  (hK : ∀ hs',σ.hs <= hs' -> K ({ σ with hs:=hs' }.put dst v)) : b9 P E f args vs dst K σ:=
 .inr (.inr (.inl ⟨As,_,hr,hc,.inl fun r n hs' a b c _=>by subst c; exact ⟨hf,hK hs' (by omega)⟩⟩))
theorem ij {P : Program} {E : Md} {args : List Operand} {f : FuncId} {vs As : List V} {dst : Option Tmp} {K : St -> Prop} {σ : St} {post : Nat -> V -> Prop} (hc : VC P f As post) (hr : rpL σ.m vs = some As)
  (hK : ∀ n hs' r,σ.hs <= n -> n <= hs' -> post n r -> r.ln -> K ({ (σ.frps (keysVL vs)) with hs:=hs' }.put dst r)) : b9 P E f args vs dst K σ:=
 .inr (.inr (.inl ⟨As,_,hr,hc,.inr fun r n hs' a b c d=>hK n hs' r a b c d⟩))
theorem D7 {P : Program} {E : Md} {args : List Operand} {f : FuncId} {vs : List V} {d : Tmp} {K : St -> Prop} {σ : St} {post : Nat -> List D -> Prop} (hc : VN P f vs post) (hk : keysVL vs = []) (hr : rdL (fun _=>none) σ.m vs = some vs)
  (hK : ∀ ds n hs',σ.hs <= n -> n <= hs' -> post n ds -> lnL ds -> (∀ i ∈ idsVL (ds.map V.d),i < hs') -> K ({ (σ.lay d (.box (ds.map V.d))) with hs:=hs' }.put (some d) (.ptr d 0 0))) : b9 P E f args vs (some d) K σ:=
 .inr (.inr (.inr (.inr (.inl ⟨d,vs,post,rfl,hk,.inr ⟨rfl,hr⟩,hc,hK⟩))))
theorem vR {P : Program} {E : Md} {args : List Operand} {f : FuncId} {vs As : List V} {d : Tmp} {K : St -> Prop} {σ : St} {post : Nat -> V -> Prop} (hc : VC P f As post) (hr : rpL σ.m vs = some As)
  (hK : ∀ r n hs',σ.hs <= n -> n <= hs' -> post n r -> ∃ T sz es,0 < sz /\ ((r = .d (.sl none none []) /\ es = []) \/ ∃ g,r = .d (.sl (some g) (some (T,sz)) es) /\ n <= g /\ g ∉ idsLL es) /\
   K ({ ((σ.frps (keysVL vs)).lay d (.row T sz es)) with hs:=hs' }.put (some d) (.own d 0 es.length))) : b9 P E f args vs (some d) K σ:=
 .inr (.inr (.inr (.inr (.inr ⟨d,As,post,rfl,hr,hc,fun r n hs' a b c=>by
  obtain ⟨T,sz,es,h1,h2,h3⟩:=hK r n hs' a b c
  rcases h2 with ⟨rfl,rfl⟩ | ⟨g,rfl,h4,h5⟩
  ·exact .inl ⟨rfl,T,sz,h1,h3⟩
  ·exact .inr (.inl ⟨g,T,sz,es,rfl,h4,h5,h3⟩)⟩))))
theorem D8 {P : Program} {E : Md} {args : List Operand} {f : FuncId} {vs As : List V} {d : Tmp} {K : St -> Prop} {σ : St} {post : Nat -> V -> Prop} (hc : VC P f As post) (hr : rpL σ.m vs = some As)
  (hK : ∀ r n hs',σ.hs <= n -> n <= hs' -> post n r -> (∃ g T sz es,r = .d (.sl (some g) (some (T,sz)) es) /\ n <= g /\ g ∉ idsLL es /\ K ({ ((σ.frps (keysVL vs)).lay d (.row T sz es)) with hs:=hs' }.put (some d) (.own d 0 es.length))) \/
   K ({ (σ.frps (keysVL vs)) with hs:=hs' }.put (some d) r)) : b9 P E f args vs (some d) K σ:=
 .inr (.inr (.inr (.inr (.inr ⟨d,As,post,rfl,hr,hc,fun r n hs' a b c=>(hK r n hs' a b c).elim (fun h=>.inr (.inl h)) fun h=>.inr (.inr (.inl h))⟩))))
theorem D9 {P : Program} {E : Md} {args : List Operand} {f : FuncId} {vs As : List V} {d : Tmp} {K : St -> Prop} {σ : St} {post : Nat -> V -> Prop} (hc : VC P f As post) (hr : rpL σ.m vs = some As)
  (hK : ∀ r n hs',σ.hs <= n -> n <= hs' -> post n r -> (∃ g T sz es b,r = .tup [.d (.sl (some g) (some (T,sz)) es),.d (.bool b)] /\ n <= g /\ g ∉ idsLL es /\ K ({ ((σ.frps (keysVL vs)).lay d (.row T sz es)) with hs:=hs' }.put (some d) (.tup [.own d 0 es.length,.d (.bool b)]))) \/
   K ({ (σ.frps (keysVL vs)) with hs:=hs' }.put (some d) r)) : b9 P E f args vs (some d) K σ:=
 .inr (.inr (.inr (.inr (.inr ⟨d,As,post,rfl,hr,hc,fun r n hs' a b c=>(hK r n hs' a b c).elim (fun h=>.inr (.inr (.inr h))) fun h=>.inr (.inr (.inl h))⟩))))
theorem l4 {P : Program} {E : Md} {args : List Operand} {f : FuncId} {vs rest As cs : List V} {k : Nat} {dst : Option Tmp} {K : St -> Prop} {σ : St} {post : Nat -> V -> List V -> List D -> Prop} (hE : E f = true) (hvs : args.map σ.ev = .ptr k 0 0 :: rest) (hm : σ.m k = some (.box cs))
  (hr : rpL σ.m rest = some As) (hr2 : rdL (fun _=>none) σ.m cs = some cs) (hc : VX P f [] (.ptr 1000 0 0 :: As) (some cs) post)
  (hK : ∀ r cs' ws n hs',σ.hs <= n -> n <= hs' -> post n r cs' ws -> r.ln -> lnVL cs' -> K ({ (σ.frps (keysVL rest ++ keysVL cs)) with hs:=hs',m:=upd (σ.frps (keysVL rest ++ keysVL cs)).m k (some (.box cs')) }.put dst r)) : b9 P E f args vs dst K σ:=by
 refine .inr (.inr (.inr (.inl ⟨hE,k,rest,As,cs,_,hvs,by rw [hm]; rfl,hr,by rw [hm]; exact .inr ⟨rfl,hr2⟩,hc,?_⟩)))
 rw [hm]
 exact fun r cs' ws n hs' a b c d e _=>hK r cs' ws n hs' a b c d e
theorem l3 {P : Program} {E : Md} {args : List Operand} {f : FuncId} {vs rest As cs : List V} {k : Nat} {dst : Option Tmp} {K : St -> Prop} {σ : St} {post : Nat -> V -> List V -> List D -> Prop} (hE : E f = true) (hvs : args.map σ.ev = .ptr k 0 0 :: rest) (hm : σ.m k = some (.box cs))
  (hr : rpL σ.m rest = some As) (hr2 : rdL (fun _=>none) σ.m cs = some cs) (hc : VX P f [] (.ptr 1000 0 0 :: As) (some cs) post)
  (hK : ∀ r cs' ws n hs',σ.hs <= n -> n <= hs' -> post n r cs' ws -> r.ln -> lnVL cs' -> (∀ i ∈ r.ids,i < hs') -> K ({ (σ.frps (keysVL rest ++ keysVL cs)) with hs:=hs',m:=upd (σ.frps (keysVL rest ++ keysVL cs)).m k (some (.box cs')) }.put dst r)) : b9 P E f args vs dst K σ:=by
 refine .inr (.inr (.inr (.inl ⟨hE,k,rest,As,cs,_,hvs,by rw [hm]; rfl,hr,by rw [hm]; exact .inr ⟨rfl,hr2⟩,hc,?_⟩)))
 rw [hm]
 exact hK
@[simp] theorem t_app {P : Program} {E : Md} {ops : Array Oper} {K : St -> Prop} {σ : St} (i : Nat) (ts : List Nat) (t : Tr) : vtr P E ops K (.app i ts t) σ = (vsep σ (ops.getD i default) ts /\ vops P E ops (vtr P E ops K t) [ops.getD i default] σ):=rfl
attribute [simp] D.ln lnL lnLL V.ln lnVL
@[simp] theorem lnLL_map {α : Type} (c : α → List D) (l : List α) : lnLL (l.map c) ↔ ∀ a ∈ l, lnL (c a) := by
  induction l with
  | nil=>simp
  | cons x r ih=>simp [ih]
theorem EH (l l' : List D) : lnL (l ++ l') ↔ lnL l /\ lnL l':=by
 induction l with
 | nil=>simp
 | cons x r ih=>simp [ih,and_assoc]
attribute [simp] EH
attribute [simp] vsep fh sepV sepD St.frps St.frp Vs.frp frpL rp rpL D.er erL erLL D.hp V.hp hpVL V.flat qW
theorem DS (k : Nat) (es : List (List D)) : mapV (Vs.frp k es) (fun _=>V.tup []) = fun _=>V.tup []:=by
 funext i; simp [mapV,Vs.frp,frpL]
attribute [simp] DS
@[simp] theorem w_bsP' {P : Program} {E : Md} {ops : Array Oper} {K : St -> Prop} {r : List Oper} {σ : St} {k : Tmp} {ty : TypeId} {pos : String} {af : Array Edge} (T n : Nat) (parts : Array (Nat × Operand)) (hE : E.p = true) : vops P E ops K (⟨some k,.buildSlice T n parts,ty,pos,af,none⟩ :: r) σ =
 (((tslice P T).isSome = true /\ n * (slT P T).2.1 <= 16777216 /\ parts.size = n /\ fu (σ.frps (keysVL (allC (parts.toList.map fun p=>σ.ev p.2)))) (slT P T).2.1 0 parts.toList /\ (allC (parts.toList.map fun p=>(σ.frps (keysVL (allC (parts.toList.map fun p=>σ.ev p.2)))).ev p.2)).all isD = true) /\
  vops P E ops K r (((σ.frps (keysVL (allC (parts.toList.map fun p=>σ.ev p.2)))).lay k (.row (slT P T).1 (slT P T).2.1 (iM (slT P T).2.1 n ((allC (parts.toList.map fun p=>(σ.frps (keysVL (allC (parts.toList.map fun p=>σ.ev p.2)))).ev p.2)).map dD)))).put (some k) (.own k 0 n))):=KI T n parts hE
def pS {α : Type} (c : α -> List D) (xs : List α) : D:=.pl (xs.map c)
def cP {α : Type} (c : α -> List D) (xs : List α) : List D:=[pS c xs]
end
def jG {X : Type} (Inv : X -> Nat -> Prop) (S : X -> List (Nat × V)) (M : X -> List (Nat × Option Blk)) (μ : X -> Nat) (B : Nat) (W : List Nat) (hs n : Nat) (σ : St) : Prop:=
 Lead (fun s=>∃ x,Inv x s.hs /\ μ x < n /\ s.B = B /\ s.W = W /\ hs <= s.hs /\ (∀ p ∈ S x,s.t p.1 = p.2) /\ (∀ p ∈ M x,s.m p.1 = p.2)) σ
theorem bg {X : Type} {Inv : X -> Nat -> Prop} {S : X -> List (Nat × V)} {M : X -> List (Nat × Option Blk)} {μ : X -> Nat} {B : Nat} {W : List Nat} {hs n : Nat} {σ : St} (x : X) (h1 : Inv x σ.hs) (h2 : μ x < n) (h3 : (σ.B,σ.W) = (B,W)) (h4 : hs <= σ.hs)
 (h5 : ∀ p ∈ S x,σ.t p.1 = p.2) (h6 : ∀ p ∈ M x,σ.m p.1 = p.2) : jG Inv S M μ B W hs n σ:=Lead.of ⟨x,h1,h2,(Prod.mk.inj h3).1,(Prod.mk.inj h3).2,h4,h5,h6⟩
def lB {X : Type} (Inv : X -> Nat -> Prop) (S : X -> List (Nat × V)) (M : X -> List (Nat × Option Blk)) (μ : X -> Nat) (B : Nat) (W : List Nat) (hs n : Nat) (Q : Exit -> St -> Prop) : Exit -> St -> Prop
 | .normal,σ=>jG Inv S M μ B W hs n σ
 | e,σ=>Q e σ
theorem wm {P : Program} {E : Md} {sch : Nat -> Tr} {c : Code} {Q : Exit -> St -> Prop} {B hs0 : Nat} {W : List Nat} {t0 : Nat -> V} {m0 : Nat -> Option Blk} {X : Type} (Inv : X -> Nat -> Prop) (S : X -> List (Nat × V)) (M : X -> List (Nat × Option Blk)) (μ : X -> Nat) (x0 : X)
  (h0 : Inv x0 hs0) (hS : ∀ p ∈ S x0,t0 p.1 = p.2) (hM : ∀ p ∈ M x0,m0 p.1 = p.2)
  (hr : ∀ x hs t m,Inv x hs -> hs0 <= hs -> vwp P E sch c (lB Inv S M μ B W hs (μ x) Q) ⟨B,hs,W,updL t (S x),updL m (M x)⟩) : yK P E sch c Q ⟨B,hs0,W,t0,m0⟩:=by
 refine ⟨fun n σ=>∃ x hs t m,Inv x hs /\ μ x = n /\ hs0 <= hs /\ σ = ⟨B,hs,W,updL t (S x),updL m (M x)⟩,Lead.of ⟨_,x0,hs0,t0,m0,h0,rfl,Jv _,by rw [bL hS,bL hM]⟩,?_⟩
 rintro n σ ⟨x,hs,t,m,hx,rfl,hhs,rfl⟩
 refine eY _ _ _ _ ?_ (hr x hs t m hx hhs)
 intro e σ he
 cases e with
 | normal =>
   refine Lead.mono he ?_
   rintro s ⟨x',h1,h2,h3,h7,h4,h5,h6⟩
   obtain ⟨B',hs',W',t',m'⟩:=s
   simp only at h1 h3 h7 h4 h5 h6
   subst h3 h7
   exact ⟨_,h2,x',hs',t',m',h1,rfl,Zy hhs h4,by rw [bL h5,bL h6]⟩
 | _=>exact he
@[simp] theorem Jr {X : Type} (Inv : X -> Nat -> Prop) (S : X -> List (Nat × V)) (M : X -> List (Nat × Option Blk)) (μ : X -> Nat) (B : Nat) (W : List Nat) (hs n : Nat) (Q : Exit -> St -> Prop) (σ : St) : lB Inv S M μ B W hs n Q .normal σ = jG Inv S M μ B W hs n σ:=rfl
@[simp] theorem Jp {X : Type} (Inv : X -> Nat -> Prop) (S : X -> List (Nat × V)) (M : X -> List (Nat × Option Blk)) (μ : X -> Nat) (B : Nat) (W : List Nat) (hs n id : Nat) (Q : Exit -> St -> Prop) (σ : St) : lB Inv S M μ B W hs n Q (.exit id) σ = Q (.exit id) σ:=rfl
@[simp] theorem Js {X : Type} (Inv : X -> Nat -> Prop) (S : X -> List (Nat × V)) (M : X -> List (Nat × Option Blk)) (μ : X -> Nat) (B : Nat) (W : List Nat) (hs n : Nat) (Q : Exit -> St -> Prop) (σ : St) : lB Inv S M μ B W hs n Q .ret σ = Q .ret σ:=rfl
section
variable {φ : Nat -> Option D}
mutual
def D.tk : D -> Bool
 | .sl _ _ es=>tkLL es
 | .pl _=>false
 | _=>true
def tkL : List D -> Bool
 | []=>true
 | x :: r=>x.tk && tkL r
def tkLL : List (List D) -> Bool
 | []=>true
 | x :: r=>tkL x && tkLL r
end
mutual
def V.tk : V -> Bool
 | .d x=>x.tk
 | .fptr x _ _=>x.tk
 | .agg cs=>tkVL cs
 | .tup cs=>tkVL cs
 | .fn ff cs=>tkVL cs
 | _=>true
def tkVL : List V -> Bool
 | []=>true
 | x :: r=>x.tk && tkVL r
end
mutual
theorem sG : ∀ x : D,x.tk = true -> (∀ i ∈ x.ids,φ i = none) -> reD φ x = some x
 | .bool _,_,_=>rfl
 | .int _ _,_,_=>rfl
 | .str _,_,_=>rfl
 | .pl _,h,_=>by cases h
 | .sl none T es, ht, h => by
   simp only [D.ids,Option.toList,List.nil_append] at h
   simp only [D.tk] at ht
   simp only [reD]; rw [mB es ht h]; rfl
 | .sl (some g) T es, ht, h => by
   simp only [D.ids,Option.toList,Qq,Qg] at h
   simp only [D.tk] at ht
   simp only [reD]
   rw [h g (.inl rfl)]
   simp only
   rw [mB es ht (fun i hi=>h i (.inr hi))]; rfl
theorem oz : ∀ l : List D,tkL l = true -> (∀ i ∈ idsL l,φ i = none) -> reL φ l = some l
 | [],_,_=>rfl
 | x :: r, ht, h => by
   simp only [idsL,Qq] at h
   simp only [tkL,Jq] at ht
   simp only [reL]
   rw [sG x ht.1 (fun i hi=>h i (.inl hi)),oz r ht.2 (fun i hi=>h i (.inr hi))]
theorem mB : ∀ l : List (List D),tkLL l = true -> (∀ i ∈ idsLL l,φ i = none) -> reLL φ l = some l
 | [],_,_=>rfl
 | x :: r, ht, h => by
   simp only [idsLL,Qq] at h
   simp only [tkLL,Jq] at ht
   simp only [reLL]
   rw [oz x ht.1 (fun i hi=>h i (.inl hi)),mB r ht.2 (fun i hi=>h i (.inr hi))]
end
mutual
theorem yg : ∀ v : V,v.tk = true -> (∀ i ∈ v.ids,φ i = none) -> reV φ v = v
 | .d x,ht,h=>by simp only [reV]; rw [sG x ht h]
 | .fptr x _ _,ht,h=>by simp only [reV]; rw [sG x ht h]
 | .own _ _ _,_,_=>rfl
 | .ptr _ _ _,_,_=>rfl
 | .bad,_,_=>rfl
 | .agg cs,ht,h=>by simp only [reV]; rw [mD cs ht h]
 | .tup cs,ht,h=>by simp only [reV]; rw [mD cs ht h]
 | .fn ff cs,ht,h=>by simp only [reV]; rw [mD cs ht h]
theorem mD : ∀ l : List V,tkVL l = true -> (∀ i ∈ idsVL l,φ i = none) -> reVL φ l = l
 | [],_,_=>rfl
 | v :: r, ht, h => by
   simp only [idsVL,Qq] at h
   simp only [tkVL,Jq] at ht
   simp only [reVL]
   rw [yg v ht.1 (fun i hi=>h i (.inl hi)),mD r ht.2 (fun i hi=>h i (.inr hi))]
end
attribute [simp] D.tk tkL tkLL V.tk tkVL
@[simp] theorem tkLL_map {α : Type} {c : α → List D} (l : List α) (h : ∀ a, tkL (c a) = true) : tkLL (l.map c) = true := by
  induction l with
  | nil=>rfl
  | cons a r ih=>simp only [Qz,tkLL,h a,ih,Bool.and_self]
@[simp] theorem tk_dSl {α : Type} {c : α → List D} (s : Sl α) (h : ∀ a, tkL (c a) = true) : (dSl c s).tk = true := by
  simp only [dSl,D.tk]; exact tkLL_map _ h
@[simp] theorem Dh (n : Int) : tkL (cI n) = true:=rfl
@[simp] theorem tk_cS {α : Type} {c : α → List D} (s : Sl α) (h : ∀ a, tkL (c a) = true) : tkL (cS c s) = true := by
  simp only [cS,tkL,tk_dSl s h,Bool.and_self]
theorem Ew (l l' : List D) : hpL (l ++ l') = (hpL l || hpL l'):=by simp [hpL]
theorem BK (l l' : List (List D)) : hpLL (l ++ l') = (hpLL l || hpLL l'):=by simp [hpLL]
theorem nn (x : List D) (l : List (List D)) : hpLL (x :: l) = (hpL x || hpLL l):=by simp [hpLL]
@[simp] theorem JF : hpLL [] = false:=rfl
@[simp] theorem K5 : hpL [] = false:=rfl
@[simp] theorem JG (x : D) (l : List D) : hpL (x :: l) = (x.hp || hpL l):=by simp [hpL]
theorem dg {α : Type} {c : α -> List D} (h : ∀ a,hpL (c a) = false) (l : List α) : hpLL (l.map c) = false:=by
 induction l with
 | nil=>rfl
 | cons a r ih=>rw [Qz,nn,h a,ih]; rfl
theorem BM (n : Nat) (z : List D) : hpLL (List.replicate n z) = (decide (0 < n) && hpL z):=by
 induction n with
 | zero=>rfl
 | succ n ih=>rw [List.replicate_succ,nn,ih]; cases hpL z <;> simp
@[simp] theorem JH (n : Int) : hpL (cI n) = false:=rfl
@[simp] theorem JJ {α : Type} {c : α -> List D} (s : Sl α) : hpL (cS c s) = false:=rfl
@[simp] theorem cL (l : List Int) : hpLL (l.map cI) = false:=dg JH l
@[simp] theorem kG {α : Type} {c : α -> List D} (l : List (Sl α)) : hpLL (l.map (cS c)) = false:=dg JJ l
attribute [simp] Ew BK nn BM
theorem mM (l l' : List D) : tkL (l ++ l') = (tkL l && tkL l'):=by
 induction l with
 | nil=>rfl
 | cons x r ih=>simp [ih,Bool.and_assoc]
attribute [simp] mM
theorem HV (l : List D) (h : ∀ i ∈ idsL l,φ i = none) (ht : tkL l = true:=by first | rfl | simp) : reL φ l = some l:=oz l ht h
theorem kK (l : List (List D)) (h : ∀ i ∈ idsLL l,φ i = none) (ht : tkLL l = true:=by first | rfl | simp) : reLL φ l = some l:=mB l ht h
theorem dd (v : V) (h : ∀ i ∈ v.ids,φ i = none) (ht : v.tk = true:=by first | rfl | simp) : reV φ v = v:=yg v ht h
theorem CK {x y : D} (h : reD φ x = some y) : reV φ (.d x) = .d y:=by simp only [reV,h]
@[simp] theorem La (k : IntKind) (n : Int) : reV φ (.d (.int k n)) = .d (.int k n):=rfl
@[simp] theorem J8 (b : Bool) : reV φ (.d (.bool b)) = .d (.bool b):=rfl
@[simp] theorem Le (s : List UInt8) : reV φ (.d (.str s)) = .d (.str s):=rfl
@[simp] theorem Lb (T : Option (TypeId × Nat)) : reV φ (.d (.sl none T [])) = .d (.sl none T []):=rfl
@[simp] theorem Lc (k lo n : Nat) : reV φ (.own k lo n) = .own k lo n:=rfl
@[simp] theorem Ld (k lo n : Nat) : reV φ (.ptr k lo n) = .ptr k lo n:=rfl
@[simp] theorem K9 : reV φ .bad = .bad:=rfl
@[simp] theorem K8 (cs : List V) : reV φ (.agg cs) = .agg (reVL φ cs):=by simp only [reV]
@[simp] theorem Lf (cs : List V) : reV φ (.tup cs) = .tup (reVL φ cs):=by simp only [reV]
@[simp] theorem J7 : reVL φ [] = []:=rfl
@[simp] theorem Jf (v : V) (r : List V) : reVL φ (v :: r) = reV φ v :: reVL φ r:=by simp only [reVL]
end
theorem x_re {B hs : Nat} {W : List Nat} {t : Nat -> V} {m : Nat -> Option Blk} (φ : Nat -> Option D) : (St.mk B hs W t m).re φ = ⟨B,hs,W,mapV (reV φ) t,reM φ m⟩:=rfl
theorem KT (φ : Nat -> Option D) (m : Nat -> Option Blk) (k : Nat) (b : Option Blk) : reM φ (upd m k b) = upd (reM φ m) k (b.bind (Blk.re φ)):=by
 funext i; simp only [reM,upd]; split <;> rfl
theorem IX (φ : Nat -> Option D) : reM φ (fun _=>none) = fun _=>none:=rfl
@[simp] theorem re_box (φ : Nat -> Option D) (cs : List V) : Blk.re φ (.box cs) = some (.box (reVL φ cs)):=rfl
@[simp] theorem re_row (φ : Nat -> Option D) (T sz : Nat) (es : List (List D)) : Blk.re φ (.row T sz es) = (reLL φ es).map (.row T sz):=rfl
theorem An (φ : Nat -> Option D) : mapV (reV φ) (fun _=>V.tup []) = fun _=>V.tup []:=by
 funext i; rfl
attribute [simp] x_re KT IX An
theorem bU {g j : Nat} {d : D} (h : j ≠ g) : one g d j = none:=by simp [one,h]
section
variable {α : Type} {c : α -> List D}
theorem ld {l : List α} {g : Nat} : g ∈ idsLL (l.map c) ↔ ∃ a ∈ l,g ∈ idsL (c a):=by
 constructor
 ·intro h
  obtain ⟨e,he,hg⟩:=jV h
  obtain ⟨a,ha,rfl⟩:=Xz.1 he
  exact ⟨a,ha,hg⟩
 ·rintro ⟨a,ha,hg⟩
  induction l with
  | nil=>cases ha
  | cons b r ih =>
    simp only [Qz,idsLL,Qq]
    rcases Zz.1 ha with rfl | ha
    ·exact .inl hg
    ·exact .inr (ih ha)
theorem cM (l l' : List D) : idsL (l ++ l') = idsL l ++ idsL l':=by
 induction l with
 | nil=>rfl
 | cons x r ih=>simp [idsL,ih]
theorem cm (l l' : List (List D)) : idsLL (l ++ l') = idsLL l ++ idsLL l':=by
 induction l with
 | nil=>rfl
 | cons x r ih=>simp [idsLL,ih]
theorem Cg {l : List α} (h : (idsLL (l.map c)).Nodup) {i j : Nat} (hi : i < l.length) (hj : j < l.length) (hij : j ≠ i) : ∀ g ∈ idsL (c l[j]),g ∉ idsL (c l[i]):=by
 induction l generalizing i j with
 | nil=>simp at hi
 | cons b r ih =>
   simp only [Qz,idsLL] at h
   have h2:=List.nodup_append.1 h
   cases i with
   | zero =>
     cases j with
     | zero=>exact absurd rfl hij
     | succ j =>
       intro g hg hg'
       simp only [List.getElem_cons_succ,List.getElem_cons_zero] at hg hg'
       exact h2.2.2 g hg' g (ld.2 ⟨_,Jy _,hg⟩) rfl
   | succ i =>
     cases j with
     | zero =>
       intro g hg hg'
       simp only [List.getElem_cons_succ,List.getElem_cons_zero] at hg hg'
       exact h2.2.2 g hg g (ld.2 ⟨_,Jy _,hg'⟩) rfl
     | succ j=>simpa using ih h2.2.1 (by simpa using hi) (by simpa using hj) (by omega)
variable {φ : Nat -> Option D}
theorem CH {l : List α} {i : Nat} {a' : α} (hi : i < l.length) (h1 : reL φ (c l[i]) = some (c a')) (h2 : ∀ j (hj : j < l.length),j ≠ i -> reL φ (c l[j]) = some (c l[j])) : reLL φ (l.map c) = some ((l.set i a').map c):=by
 induction l generalizing i with
 | nil=>simp at hi
 | cons b r ih =>
   cases i with
   | zero =>
     simp only [List.getElem_cons_zero] at h1
     simp only [Qz,List.set_cons_zero,reLL,h1]
     have : ∀ l : List α,(∀ j (hj : j < l.length),reL φ (c l[j]) = some (c l[j])) -> reLL φ (l.map c) = some (l.map c):=by
      intro l
      induction l with
      | nil=>intro _; rfl
      | cons x s ih' =>
        intro h
        simp only [Qz,reLL]
        rw [show reL φ (c x) = some (c x) from h 0 (by simp),ih' (fun j hj=>h (j + 1) (Nat.succ_lt_succ hj))]
     rw [this r (fun j hj=>h2 (j + 1) (Nat.succ_lt_succ hj) (by omega))]
   | succ i =>
     simp only [Qz,List.set_cons_succ,reLL]
     rw [show reL φ (c b) = some (c b) from h2 0 (by simp) (by omega),ih (by simpa using hi) (by simpa using h1) (fun j hj hji=>h2 (j + 1) (Nat.succ_lt_succ hj) (by omega))]
structure Sl.wh (s : Sl α) : Prop where
 nil : s.id = none -> s.xs = []
 some : s.id ≠ none -> s.T.isSome = true
theorem Sl.wh.id {s : Sl α} (h : s.wh) {i : Nat} (hi : i < s.xs.length) : ∃ g,s.id = Option.some g /\ ∃ T,s.T = Option.some T:=by
 cases hid : s.id with
 | none=>rw [h.nil hid] at hi; simp at hi
 | some g =>
   have:=h.some (by rw [hid]; simp)
   obtain ⟨T,hT⟩:=Zx.1 this
   exact ⟨g,rfl,T,hT⟩
theorem aK {s : Sl α} {g : Nat} : g ∈ (dSl c s).ids ↔ s.id = some g \/ g ∈ idsLL (s.xs.map c):=by
 obtain ⟨id,T,xs⟩:=s
 cases id <;> simp [dSl,D.ids,eq_comm]
theorem GN {s : Sl α} (h : (dSl c s).ids.Nodup) : (idsLL (s.xs.map c)).Nodup /\ ∀ g,s.id = some g -> g ∉ idsLL (s.xs.map c):=by
 obtain ⟨id,T,xs⟩:=s
 cases id with
 | none=>simpa [dSl,D.ids] using h
 | some g=>simp [dSl,D.ids] at h; exact ⟨h.2,fun g' hg'=>by simp at hg'; subst hg'; exact h.1⟩
end
section
variable {α : Type}
variable {mk : α -> Int -> α} {hl : α -> Int -> Bool} {wt : α -> Nat}
end
section
variable {P : Program} {E : Md} {args : List Operand} {f : FuncId} {vs : List V} {dst : Option Tmp} {K : St -> Prop} {σ : St}
theorem Hl {W : List Nat} {post : Nat -> V -> List V -> List D -> Prop} (hE : E f = true) (hvs : args.map σ.ev = vs) (hk : keysVL vs = []) (hr : rdL (fun _=>none) σ.m vs = some vs) (hW : ∀ g ∈ W,σ.wr g) (hc : VX P f W vs none post)
  (hK : ∀ n hs' r cs' ws,σ.hs <= n -> n <= hs' -> post n r cs' ws -> (∀ i ∈ r.ids,i < hs') -> (∀ d ∈ ws,∀ i ∈ d.ids,i < hs') -> K ({ (σ.re (phi W ws)) with hs:=hs' }.put dst r)) : b9 P E f args vs dst K σ:=by
 refine .inr (.inl ⟨hE,fun γ n hn hg=>⟨W,post,hW,?_⟩⟩)
 have hb : oP σ.m (args.map σ.ev) = []:=by
  rw [hvs]
  unfold oP
  split
  ·simp [rdL,rd] at hr
  ·rfl
 rw [hvs] at hb ⊢
 have hkk : keysVL (vs ++ oP σ.m vs) = []:=by rw [hb]; simpa using hk
 rw [hkk]
 simp only [St.frzs]
 have hev : args.map ({ σ with hs:=n } : St).ev = vs:=hvs
 rw [hev]
 unfold oZ
 split
 ·simp [rdL,rd] at hr
 ·exact ⟨hk,hr,hc,fun r cs' ws hs' a b c d=>hK n hs' r cs' ws hn a b c d⟩
end
theorem ea {σ : St} {γ : Nat -> Option Nat} {hs' k T sz : Nat} {es : List (List D)} (hg : Gam σ γ hs') (hm : σ.m k = some (.row T sz es)) (hlk : k < 1000:=by decide) : ∀ g,γ k = some g -> g ∉ idsLL es:=
 fun g h=>(hg.fr k T sz es g hm h hlk).1.row k T sz es hm
theorem C6 (W : List Nat) : (fun k : Nat=>if k = 1000 then (none : Option (List V)).map Blk.box else none) = fun _=>none:=by
 funext k; simp
theorem jr (cs : List V) : (fun k : Nat=>if k = 1000 then (some cs).map Blk.box else none) = upd (fun _=>none) 1000 (some (.box cs)):=by
 funext k; simp [upd]
@[simp] theorem startX1b (a : V) (W : List Nat) (cs : List V) (B : Nat) : St.startX [a] W (some cs) B = ⟨B, B, W, upd (fun _ => .tup []) 0 a, upd (fun _ => none) 1000 (some (.box cs))⟩ := by
  simp only [St.startX,St.mk.injEq,true_and]
  refine ⟨?_,jr cs⟩
  funext i; match i with | 0=>rfl | _ + 1=>rfl
@[simp] theorem startX2b (a b : V) (W : List Nat) (cs : List V) (B : Nat) : St.startX [a, b] W (some cs) B = ⟨B, B, W, upd (upd (fun _ => .tup []) 1 b) 0 a, upd (fun _ => none) 1000 (some (.box cs))⟩ := by
  simp only [St.startX,St.mk.injEq,true_and]
  refine ⟨?_,jr cs⟩
  funext i; match i with | 0=>rfl | 1=>rfl | _ + 2=>rfl
@[simp] theorem startX3b (a b c : V) (W : List Nat) (cs : List V) (B : Nat) : St.startX [a, b, c] W (some cs) B = ⟨B, B, W, upd (upd (upd (fun _ => .tup []) 2 c) 1 b) 0 a, upd (fun _ => none) 1000 (some (.box cs))⟩ := by
  simp only [St.startX,St.mk.injEq,true_and]
  refine ⟨?_,jr cs⟩
  funext i; match i with | 0=>rfl | 1=>rfl | 2=>rfl | _ + 3=>rfl
attribute [simp] dsV
theorem iU {α : Type} {c : α -> List D} {s : Sl α} {g : Nat} (h : s.id = some g) : g ∈ (dSl c s).ids:=aK.2 (.inl h)
@[simp] theorem Lw {P : Program} {E : Md} {rs : List ResultVar} {post : Nat -> V -> List V -> List D -> Prop} {W : List Nat} {bx : Bool} {σ : St} : vo P E rs post W bx .normal σ = bt P E rs post W bx σ:=rfl
@[simp] theorem Lx {P : Program} {E : Md} {rs : List ResultVar} {post : Nat -> V -> List V -> List D -> Prop} {W : List Nat} {bx : Bool} {σ : St} : vo P E rs post W bx .ret σ = bt P E rs post W bx σ:=rfl
@[simp] theorem Lv {P : Program} {E : Md} {rs : List ResultVar} {post : Nat -> V -> List V -> List D -> Prop} {W : List Nat} {bx : Bool} {σ : St} {id : Nat} : vo P E rs post W bx (.exit id) σ = False:=rfl
theorem zR {g : Nat} {T : TypeId × Nat} {es : List (List D)} {i : Nat} {e' : List D} (h : ∀ e,es[i]? = some e -> e'.length = e.length) :
  reV (one g (.sl (some g) (some T) (es.set i e'))) (.d (.sl (some g) (some T) es)) = .d (.sl (some g) (some T) (es.set i e')):=by
 simp only [reV,reD,one,if_true]
 rw [if_pos]
 refine ⟨trivial,rfl,trivial,?_⟩
 apply List.ext_getElem?
 intro j
 simp only [List.getElem?_map,List.getElem?_set]
 split
 ·rename_i hij
  subst hij
  split
  ·rename_i hlt
   rw [Jw hlt]
   simp only [Jg]
   rw [h _ (Jw hlt)]
  ·rename_i hge
   rw [List.getElem?_eq_none (by omega)]
 ·rfl
@[simp] theorem ids_cI (l : List Int) : idsLL (l.map cI) = [] := by
  induction l with
  | nil=>rfl
  | cons a r ih=>simp [idsLL,cI,idsL,ih]
theorem mH {α : Type} {c : α -> List D} (l : List α) (i : Nat) (a : α) : (l.map c).set i (c a) = (l.set i a).map c:=by rw [List.map_set]
attribute [simp] St.wr
@[simp] theorem re_oneSet2 {g : Nat} {T : TypeId × Nat} {es : List (List D)} {i : Nat} {e' : List D} (h : e'.length = (es.getD i e').length) :
   reV (one g (.sl (some g) (some T) (es.set i e'))) (.d (.sl (some g) (some T) es)) = .d (.sl (some g) (some T) (es.set i e')):=
  zR fun e he=>by rw [h]; simp [List.getD,he]
theorem EN {g i : Nat} {es : List (List D)} {e' : List D} (h : g ∉ idsLL es) (h' : g ∉ idsL e') : g ∉ idsLL (es.set i e'):=by
 intro hin
 obtain ⟨e,he,hg⟩:=jV hin
 rcases List.mem_or_eq_of_mem_set he with he | rfl
 ·obtain ⟨u,hu,hg⟩:=ow hg
  exact h (dE he (fE hu hg))
 ·exact h' hg
theorem yf {φ : Nat -> Option D} : ∀ {l l' : List (List D)},l'.length = l.length -> (∀ (i : Nat) (e e' : List D),l[i]? = some e -> l'[i]? = some e' -> reL φ e = some e') -> reLL φ l = some l'
 | [],l',hl,_=>by cases l' with | nil=>rfl | cons _ _=>simp at hl
 | x :: r, l', hl, h => by
   cases l' with
   | nil=>simp at hl
   | cons y s =>
     simp only [reLL]
     rw [h 0 x y rfl rfl,yf (by simpa using hl) (fun i e e' he he'=>h (i + 1) e e' (by simpa using he) (by simpa using he'))]
theorem yD {es : List (List D)} (h : tkLL es = true) {j : Nat} {e : List D} (he : es[j]? = some e) : tkL e = true:=by
 induction es generalizing j with
 | nil=>simp at he
 | cons x r ih =>
   simp only [tkLL,Jq] at h
   cases j with
   | zero=>simp at he; rw [<- he]; exact h.1
   | succ j=>exact ih h.2 (by simpa using he)
theorem CN {φ : Nat -> Option D} {g i : Nat} {T : Option (TypeId × Nat)} {es : List (List D)} {e1 e2 : List D} (hg : φ g = none) (h1 : reL φ e1 = some e2) (h2 : ∀ (j : Nat) (e : List D),j ≠ i -> es[j]? = some e -> ∀ q ∈ idsL e,φ q = none) (htk : tkLL es = true:=by simp) :
  reV φ (.d (.sl (some g) T (es.set i e1))) = .d (.sl (some g) T (es.set i e2)):=by
 refine CK ?_
 simp only [reD,hg]
 rw [yf (l':=es.set i e2) (by simp) ?_]
 ·rfl
 ·intro j e e' he he'
  rw [List.getElem?_set] at he he'
  by_cases hij : i = j
  ·subst hij
   simp only [if_true] at he he'
   split at he
   ·rename_i hlt
    simp only [hlt,if_true] at he'
    cases he; cases he'; exact h1
   ·cases he
  ·simp only [hij,if_false] at he he'
   rw [he] at he'
   cases he'
   exact oz e (yD htk he) (h2 j e (Ne.symm hij) he)
def hv (b : Bool) (k : Int) (w : Nat) : Int:=if b then k + w else -1
@[simp] theorem hv_t (k : Int) (w : Nat) : hv true k w = k + w:=rfl
@[simp] theorem hv_f (k : Int) (w : Nat) : hv false k w = -1:=rfl
def cStr (s : List UInt8) : List D:=[.str s]
def plI (n : Int) : Int:=n
def fH (s : List UInt8) : List UInt8:=s
def whI (_ : Int) : Prop:=True
def GR (_ : List UInt8) : Prop:=True
def wtI (_ : Int) : Nat:=1
def mkI (_ : Int) (k : Int) : Int:=k
def okI (_ : Int) : Prop:=True
def Gx (s : List UInt8) : Prop:=s.length <= maxLen
@[simp] theorem yE (s : List UInt8) : tkL (cStr s) = true:=rfl
@[simp] theorem K6 (s : List UInt8) : hpL (cStr s) = false:=rfl
def cU8 (b : UInt8) : List D:=[.int .u8 b.toNat]
def cB (b : Bool) : List D:=[.bool b]
theorem mb : ∀ l l' : List D,erL (l ++ l') = erL l ++ erL l'
 | [],_=>rfl
 | x :: r,l'=>by simp [erL,mb r]
theorem eE (n : Int) : erL (cI n) = cI (plI n):=rfl
theorem xD (s : List UInt8) : erL (cStr s) = cStr (fH s):=rfl
section
variable {α β : Type}
def plS (pl : α -> β) (s : Sl α) : List β:=s.xs.map pl
def whS (wh : α -> Prop) (s : Sl α) : Prop:=s.wh /\ ∀ a ∈ s.xs,wh a
def okS (ok : α -> Prop) (s : Sl α) : Prop:=s.xs.length <= maxLen /\ ∀ a ∈ s.xs,ok a
end
theorem bW {α β : Type} {c : α -> List D} {e : β -> List D} {pl : α -> β} (h : ∀ a,erL (c a) = e (pl a)) (l : List α) : erLL (l.map c) = (l.map pl).map e:=by
 induction l with
 | nil=>rfl
 | cons a r ih=>simp only [Qz,erLL,h a,ih]
theorem Bb {α β : Type} {c : α -> List D} {e : β -> List D} {pl : α -> β} (h : ∀ a,erL (c a) = e (pl a)) (s : Sl α) : (dSl c s).er = pS e (plS pl s):=by
 simp only [dSl,D.er,pS,bW h,plS]
theorem iQ {α β : Type} {c : α -> List D} {e : β -> List D} {pl : α -> β} (h : ∀ a,erL (c a) = e (pl a)) (s : Sl α) : erL (cS c s) = cP e (plS pl s):=by
 simp only [cS,cP,erL,Bb h]
structure File where
 name : List UInt8
 data : List UInt8
instance : Inhabited File:=⟨⟨default,default⟩⟩
structure xb where
 name : List UInt8
 data : List UInt8
instance : Inhabited xb:=⟨⟨default,default⟩⟩
instance : DecidableEq xb:=fun a b=>decidable_of_iff (a.name = b.name /\ a.data = b.data) (by cases a; cases b; simp)
def sD (a : File) : xb:=⟨fH a.name,fH a.data⟩
@[simp] theorem GD (a : File) : (sD a).name = fH a.name:=rfl
@[simp] theorem GC (a : File) : (sD a).data = fH a.data:=rfl
structure Disk where
 files : Sl (File)
instance : Inhabited Disk:=⟨⟨default⟩⟩
structure Aq where
 files : List (xb)
instance : Inhabited Aq:=⟨⟨default⟩⟩
instance : DecidableEq Aq:=fun a b=>decidable_of_iff (a.files = b.files) (by cases a; cases b; simp)
def HH (a : Disk) : Aq:=⟨plS sD a.files⟩
@[simp] theorem EU (a : Disk) : (HH a).files = plS sD a.files:=rfl
structure Reln where
 ar : Int
 rows : Sl (Sl (Int))
instance : Inhabited Reln:=⟨⟨default,default⟩⟩
structure bE where
 ar : Int
 rows : List (List (Int))
instance : Inhabited bE:=⟨⟨default,default⟩⟩
instance : DecidableEq bE:=fun a b=>decidable_of_iff (a.ar = b.ar /\ a.rows = b.rows) (by cases a; cases b; simp)
def ao (a : bE) : List D:=cI a.ar ++ cP (cP cI) a.rows
def aA (a : Reln) : List D:=cI a.ar ++ cS (cS cI) a.rows
def aV (a : Reln) : bE:=⟨plI a.ar,plS (plS plI) a.rows⟩
@[simp] theorem Di (a : Reln) : tkL (aA a) = true:=by simp only [aA,mM,Dh,tk_cS _ (fun s=>tk_cS s Dh),Bool.and_self]
@[simp] theorem JI (a : Reln) : hpL (aA a) = false:=by simp [aA]
theorem tU (a : Reln) : erL (aA a) = ao (aV a):=by simp only [aA,ao,aV,mb,eE,(iQ (iQ eE))]
@[simp] theorem Jd (a : Reln) : (aV a).ar = plI a.ar:=rfl
@[simp] theorem GG (a : Reln) : (aV a).rows = plS (plS plI) a.rows:=rfl
def fq (a : Reln) : Prop:=whI a.ar /\ whS (whS whI) a.rows
def eL (a : Reln) : Prop:=okI a.ar /\ okS (okS okI) a.rows
structure Tab where
 name : List UInt8
 rel : Reln
instance : Inhabited Tab:=⟨⟨default,default⟩⟩
structure PTab where
 name : List UInt8
 rel : bE
instance : Inhabited PTab:=⟨⟨default,default⟩⟩
instance : DecidableEq PTab:=fun a b=>decidable_of_iff (a.name = b.name /\ a.rel = b.rel) (by cases a; cases b; simp)
def eTab (a : PTab) : List D:=cStr a.name ++ ao a.rel
def cTab (a : Tab) : List D:=cStr a.name ++ aA a.rel
def mw (a : Tab) : PTab:=⟨fH a.name,aV a.rel⟩
@[simp] theorem Lu (a : Tab) : tkL (cTab a) = true:=by simp only [cTab,mM,yE,Di,Bool.and_self]
@[simp] theorem Ex (a : Tab) : hpL (cTab a) = false:=by simp [cTab]
@[simp] theorem Gr (l : List Tab) : hpLL (l.map cTab) = false:=dg Ex l
theorem El (a : Tab) : erL (cTab a) = eTab (mw a):=by simp only [cTab,eTab,mw,mb,xD,tU]
@[simp] theorem HJ (a : Tab) : (mw a).name = fH a.name:=rfl
@[simp] theorem Je (a : Tab) : (mw a).rel = aV a.rel:=rfl
def xZ (a : Tab) : Prop:=Gx a.name /\ eL a.rel
structure Db where
 tabs : Sl (Tab)
instance : Inhabited Db:=⟨⟨default⟩⟩
structure PDb where
 tabs : List (PTab)
instance : Inhabited PDb:=⟨⟨default⟩⟩
instance : DecidableEq PDb:=fun a b=>decidable_of_iff (a.tabs = b.tabs) (by cases a; cases b; simp)
def eDb (a : PDb) : List D:=cP eTab a.tabs
def cDb (a : Db) : List D:=cS cTab a.tabs
def plDb (a : Db) : PDb:=⟨plS mw a.tabs⟩
@[simp] theorem I8 (a : Db) : (plDb a).tabs = plS mw a.tabs:=rfl
def okDb (a : Db) : Prop:=okS xZ a.tabs
structure tf where
 name : List UInt8
 ins : Reln
 del : Reln
instance : Inhabited tf:=⟨⟨default,default,default⟩⟩
structure vG where
 name : List UInt8
 ins : bE
 del : bE
instance : Inhabited vG:=⟨⟨default,default,default⟩⟩
instance : DecidableEq vG:=fun a b=>decidable_of_iff (a.name = b.name /\ a.ins = b.ins /\ a.del = b.del) (by cases a; cases b; simp)
def sC (a : tf) : vG:=⟨fH a.name,aV a.ins,aV a.del⟩
@[simp] theorem ET (a : tf) : (sC a).name = fH a.name:=rfl
@[simp] theorem GB (a : tf) : (sC a).ins = aV a.ins:=rfl
@[simp] theorem GA (a : tf) : (sC a).del = aV a.del:=rfl
structure Cnt where
 ar : Int
 rows : Sl (Sl (Int))
 cs : Sl (Int)
instance : Inhabited Cnt:=⟨⟨default,default,default⟩⟩
structure PCnt where
 ar : Int
 rows : List (List (Int))
 cs : List (Int)
instance : Inhabited PCnt:=⟨⟨default,default,default⟩⟩
instance : DecidableEq PCnt:=fun a b=>decidable_of_iff (a.ar = b.ar /\ a.rows = b.rows /\ a.cs = b.cs) (by cases a; cases b; simp)
def cCnt (a : Cnt) : List D:=cI a.ar ++ cS (cS cI) a.rows ++ cS cI a.cs
def uH (a : Cnt) : PCnt:=⟨plI a.ar,plS (plS plI) a.rows,plS plI a.cs⟩
@[simp] theorem JT (a : Cnt) : (uH a).ar = plI a.ar:=rfl
@[simp] theorem HF (a : Cnt) : (uH a).rows = plS (plS plI) a.rows:=rfl
@[simp] theorem JU (a : Cnt) : (uH a).cs = plS plI a.cs:=rfl
structure Atom where
 rel : List UInt8
 vars : Sl (Int)
instance : Inhabited Atom:=⟨⟨default,default⟩⟩
structure aH where
 rel : List UInt8
 vars : List (Int)
instance : Inhabited aH:=⟨⟨default,default⟩⟩
instance : DecidableEq aH:=fun a b=>decidable_of_iff (a.rel = b.rel /\ a.vars = b.vars) (by cases a; cases b; simp)
def aB (a : aH) : List D:=cStr a.rel ++ cP cI a.vars
def aU (a : Atom) : List D:=cStr a.rel ++ cS cI a.vars
def cr (a : Atom) : aH:=⟨fH a.rel,plS plI a.vars⟩
@[simp] theorem Km (a : Atom) : tkL (aU a) = true:=by simp only [aU,mM,yE,tk_cS _ Dh,Bool.and_self]
@[simp] theorem BO (a : Atom) : hpL (aU a) = false:=by simp [aU]
@[simp] theorem Eu (l : List Atom) : hpLL (l.map aU) = false:=dg BO l
theorem jR (a : Atom) : erL (aU a) = aB (cr a):=by simp only [aU,aB,cr,mb,xD,(iQ eE)]
@[simp] theorem HE (a : Atom) : (cr a).rel = fH a.rel:=rfl
@[simp] theorem Gz (a : Atom) : (cr a).vars = plS plI a.vars:=rfl
def kl (a : Atom) : Prop:=GR a.rel /\ whS whI a.vars
def pJ (a : Atom) : Prop:=Gx a.rel /\ okS okI a.vars
structure dQ where
 n : Int
 atoms : Sl (Atom)
 out : Sl (Int)
instance : Inhabited dQ:=⟨⟨default,default,default⟩⟩
structure ab where
 n : Int
 atoms : List (aH)
 out : List (Int)
instance : Inhabited ab:=⟨⟨default,default,default⟩⟩
instance : DecidableEq ab:=fun a b=>decidable_of_iff (a.n = b.n /\ a.atoms = b.atoms /\ a.out = b.out) (by cases a; cases b; simp)
def au (a : ab) : List D:=cI a.n ++ cP aB a.atoms ++ cP cI a.out
def az (a : dQ) : List D:=cI a.n ++ cS aU a.atoms ++ cS cI a.out
def aO (a : dQ) : ab:=⟨plI a.n,plS cr a.atoms,plS plI a.out⟩
theorem qU (a : dQ) : erL (az a) = au (aO a):=by simp only [az,au,aO,mb,eE,(iQ jR),(iQ eE)]
@[simp] theorem Ja (a : dQ) : (aO a).n = plI a.n:=rfl
@[simp] theorem DV (a : dQ) : (aO a).atoms = plS cr a.atoms:=rfl
@[simp] theorem GE (a : dQ) : (aO a).out = plS plI a.out:=rfl
def mT (a : dQ) : Prop:=whI a.n /\ whS kl a.atoms /\ whS whI a.out
def ec (a : dQ) : Prop:=okI a.n /\ okS pJ a.atoms /\ okS okI a.out
structure View where
 q : dQ
 r : Cnt
instance : Inhabited View:=⟨⟨default,default⟩⟩
structure Ar where
 q : ab
 r : PCnt
instance : Inhabited Ar:=⟨⟨default,default⟩⟩
instance : DecidableEq Ar:=fun a b=>decidable_of_iff (a.q = b.q /\ a.r = b.r) (by cases a; cases b; simp)
def Cv (a : View) : Ar:=⟨aO a.q,uH a.r⟩
@[simp] theorem JV (a : View) : (Cv a).q = aO a.q:=rfl
@[simp] theorem JW (a : View) : (Cv a).r = uH a.r:=rfl
structure Dec where
 bags : Sl (Sl (Int))
 par : Sl (Int)
instance : Inhabited Dec:=⟨⟨default,default⟩⟩
structure PDec where
 bags : List (List (Int))
 par : List (Int)
instance : Inhabited PDec:=⟨⟨default,default⟩⟩
instance : DecidableEq PDec:=fun a b=>decidable_of_iff (a.bags = b.bags /\ a.par = b.par) (by cases a; cases b; simp)
def eDec (a : PDec) : List D:=cP (cP cI) a.bags ++ cP cI a.par
def cDec (a : Dec) : List D:=cS (cS cI) a.bags ++ cS cI a.par
def fG (a : Dec) : PDec:=⟨plS (plS plI) a.bags,plS plI a.par⟩
@[simp] theorem HG (a : Dec) : (fG a).bags = plS (plS plI) a.bags:=rfl
@[simp] theorem I9 (a : Dec) : (fG a).par = plS plI a.par:=rfl
def vA (a : Dec) : Prop:=whS (whS whI) a.bags /\ whS whI a.par
def JR (a : Dec) : Prop:=okS (okS okI) a.bags /\ okS okI a.par
structure VRel where
 vars : Sl (Int)
 rel : Reln
instance : Inhabited VRel:=⟨⟨default,default⟩⟩
structure aG where
 vars : List (Int)
 rel : bE
instance : Inhabited aG:=⟨⟨default,default⟩⟩
instance : DecidableEq aG:=fun a b=>decidable_of_iff (a.vars = b.vars /\ a.rel = b.rel) (by cases a; cases b; simp)
def aX (a : aG) : List D:=cP cI a.vars ++ ao a.rel
def bu (a : VRel) : List D:=cS cI a.vars ++ aA a.rel
def cH (a : VRel) : aG:=⟨plS plI a.vars,aV a.rel⟩
@[simp] theorem BP (a : VRel) : hpL (bu a) = false:=by simp [bu]
@[simp] theorem Ev (l : List VRel) : hpLL (l.map bu) = false:=dg BP l
@[simp] theorem GH (a : VRel) : (cH a).vars = plS plI a.vars:=rfl
@[simp] theorem HK (a : VRel) : (cH a).rel = aV a.rel:=rfl
def km (a : VRel) : Prop:=whS whI a.vars /\ fq a.rel
def lM (a : VRel) : Prop:=okS okI a.vars /\ eL a.rel
structure Hist where
 first : Int
 dbs : Sl (Db)
instance : Inhabited Hist:=⟨⟨default,default⟩⟩
structure xe where
 first : Int
 dbs : List (PDb)
instance : Inhabited xe:=⟨⟨default,default⟩⟩
instance : DecidableEq xe:=fun a b=>decidable_of_iff (a.first = b.first /\ a.dbs = b.dbs) (by cases a; cases b; simp)
def Gj (a : xe) : List D:=cI a.first ++ cP eDb a.dbs
def Cu (a : Hist) : xe:=⟨plI a.first,plS plDb a.dbs⟩
@[simp] theorem EV (a : Hist) : (Cu a).first = plI a.first:=rfl
@[simp] theorem HI (a : Hist) : (Cu a).dbs = plS plDb a.dbs:=rfl
structure Rat where
 num : Int
 den : Int
instance : Inhabited Rat:=⟨⟨default,default⟩⟩
structure PRat where
 num : Int
 den : Int
instance : Inhabited PRat:=⟨⟨default,default⟩⟩
instance : DecidableEq PRat:=fun a b=>decidable_of_iff (a.num = b.num /\ a.den = b.den) (by cases a; cases b; simp)
theorem PRat.eq_iff (a b : PRat) : a = b ↔ a.num = b.num /\ a.den = b.den:=by cases a; cases b; simp
def eRat (a : PRat) : List D:=cI a.num ++ cI a.den
def GF (a : Rat) : PRat:=⟨plI a.num,plI a.den⟩
@[simp] theorem Jc (a : Rat) : (GF a).num = plI a.num:=rfl
@[simp] theorem Jb (a : Rat) : (GF a).den = plI a.den:=rfl
def mkRat (a : Rat) (k : Int) : Rat:=⟨mkI a.num (k),mkI a.den (k + wtI a.num)⟩
structure xc where
 par : List (Int)
instance : Inhabited xc:=⟨⟨default⟩⟩
instance : DecidableEq xc:=fun a b=>decidable_of_iff (a.par = b.par) (by cases a; cases b; simp)
structure PCur where
 b : List (UInt8)
 i : Int
 h : Int
instance : Inhabited PCur:=⟨⟨default,default,default⟩⟩
instance : DecidableEq PCur:=fun a b=>decidable_of_iff (a.b = b.b /\ a.i = b.i /\ a.h = b.h) (by cases a; cases b; simp)
structure PLP where
 a : List (List (PRat))
 b : List (PRat)
 c : List (PRat)
instance : Inhabited PLP:=⟨⟨default,default,default⟩⟩
instance : DecidableEq PLP:=fun a b=>decidable_of_iff (a.a = b.a /\ a.b = b.b /\ a.c = b.c) (by cases a; cases b; simp)
theorem wr1 {i : Nat} (h : i < 9223372036854775807) : IntKind.i64.wrap ((i : Int) + 1) = (i : Int) + 1:=aj (by omega) (by omega)
theorem Ek {α : Type} {a b : List α} {i : Nat} (h : i < a.length) (h' : i < b.length) (hi : a.take i = b.take i) : (a[i] = b[i] ↔ a.take (i + 1) = b.take (i + 1)):=by
 rw [Jz (l:=b) h',Jz (l:=a) h,hi]
 exact ⟨fun h=>by rw [h],fun h=>by simpa only [List.append_cancel_left_eq,List.cons.injEq,and_true] using h⟩
theorem Ht {α : Type} {a b : List α} {i : Nat} (h : a.length <= i) (hl : a.length = b.length) (hi : a.take i = b.take i) : a = b:=by
 rwa [Jj h,Jj (by omega)] at hi
structure Good (cells : List D) (wh : Prop) (n : Nat) : Prop where
 nd : (idsL cells).Nodup
 lo : ∀ g ∈ idsL cells,n <= g
 wh : wh
theorem Good.le {cells : List D} {wh : Prop} {n m : Nat} (h : Good cells wh n) (hm : m <= n) : Good cells wh m:=⟨h.nd,fun g hg=>Zy hm (h.lo g hg),h.wh⟩
theorem Good.app {c1 c2 : List D} {w1 w2 : Prop} {n : Nat} (h1 : Good c1 w1 n) (h2 : Good c2 w2 n) (h : ∀ g,g ∈ idsL c1 -> g ∈ idsL c2 -> False) : Good (c1 ++ c2) (w1 /\ w2) n:=by
 refine ⟨?_,fun g hg=>?_,h1.wh,h2.wh⟩
 ·rw [cM]
  exact List.nodup_append.2 ⟨h1.nd,h2.nd,fun a ha b hb e=>h a ha (e ▸ hb)⟩
 ·rw [cM] at hg
  rcases Qq.1 hg with hg | hg
  ·exact h1.lo g hg
  ·exact h2.lo g hg
theorem wb (n : Nat) (x : Int) : Good (cI x) (whI x) n:=⟨by simp [cI,idsL,D.ids],by simp [cI,idsL,D.ids],trivial⟩
theorem uc (n : Nat) (x : List UInt8) : Good (cStr x) (GR x) n:=⟨by simp [cStr,idsL,D.ids],by simp [cStr,idsL,D.ids],trivial⟩
section
variable {α : Type} {c : α -> List D} {wh : α -> Prop}
theorem bc (s : Sl α) : idsL (cS c s) = (dSl c s).ids:=by simp [cS,idsL]
theorem df {id : Option Nat} {T : TypeId × Nat} {xs : List α} {n : Nat} (h1 : ∀ g,id = some g -> n <= g) (h2 : xs ≠ [] -> id ≠ none) (h3 : ∀ g,id = some g -> g ∉ idsLL (xs.map c))
  (h4 : (idsLL (xs.map c)).Nodup /\ ∀ g ∈ idsLL (xs.map c),n <= g) (h5 : ∀ a ∈ xs,wh a) : Good (cS c ⟨id,some T,xs⟩) (whS wh ⟨id,some T,xs⟩) n:=by
 refine ⟨?_,fun g hg=>?_,⟨fun h=>?_,fun _=>rfl⟩,h5⟩
 ·rw [bc]
  cases id with
  | none=>simpa [dSl,D.ids] using h4.1
  | some g=>simp only [dSl,D.ids,Option.toList,List.singleton_append,List.nodup_cons]; exact ⟨h3 g rfl,h4.1⟩
 ·rw [bc] at hg
  rcases aK.1 hg with hg | hg
  ·exact h1 g hg
  ·exact h4.2 g hg
 ·exact Xv fun hne=>h2 hne h
structure e8 (c : α -> List D) (wh : α -> Prop) (n h : Nat) (l : List α) : Prop where
 nd : (idsLL (l.map c)).Nodup
 lo : ∀ g ∈ idsLL (l.map c),n <= g
 hi : ∀ g ∈ idsLL (l.map c),g < h
 wh : ∀ a ∈ l,wh a
theorem e8.nil {n h : Nat} : e8 c wh n h []:=⟨by simp [idsLL],by simp [idsLL],by simp [idsLL],by simp⟩
theorem e8.snoc {n m h h' : Nat} {l : List α} {a : α} (hl : e8 c wh n h l) (h1 : n <= m /\ h <= m) (h2 : m <= h') (ha : Good (c a) (wh a) m) (hb : ∀ g ∈ idsL (c a),g < h') : e8 c wh n h' (l ++ [a]):=by
 have e : idsLL ((l ++ [a]).map c) = idsLL (l.map c) ++ idsL (c a):=by simp [cm,idsLL]
 refine ⟨?_,fun g hg=>?_,fun g hg=>?_,fun b hb=>?_⟩
 ·rw [e]
  refine List.nodup_append.2 ⟨hl.nd,ha.nd,fun x hx y hy hxy=>?_⟩
  have:=hl.hi x hx
  have:=ha.lo y hy
  omega
 ·rw [e] at hg
  rcases Qq.1 hg with hg | hg
  ·exact hl.lo g hg
  ·have:=ha.lo g hg; omega
 ·rw [e] at hg
  rcases Qq.1 hg with hg | hg
  ·have:=hl.hi g hg; omega
  ·exact hb g hg
 ·rcases Qq.1 hb with hb | hb
  ·exact hl.wh b hb
  ·rw [Qg.1 hb]; exact ha.wh
theorem p9 {α : Type} {l : List α} {i : Nat} {a : α} (h : l[i]? = some a) : l.set i a = l:=by
 apply List.ext_getElem?
 intro j
 rw [List.getElem?_set]
 split
 ·rename_i e
  subst e
  split
  ·exact h.symm
  ·rename_i hh; rw [List.getElem?_eq_none (by omega)] at h; cases h
 ·rfl
end
theorem im : ∀ l : List D,idsVL (l.map .d) = idsL l
 | []=>rfl
 | x :: r=>by simp only [Qz,idsVL,idsL,V.ids,im r]
@[simp] theorem I5 (x : D) (r : List V) : List.filter isD (V.d x :: r) = V.d x :: List.filter isD r:=rfl
@[simp] theorem JE : List.filter isD [] = []:=rfl
@[simp] theorem dD_d (x : D) : dD (V.d x) = x:=rfl
theorem mg (l : List D) : (V.agg (l.map .d)).ids = idsL l:=by simp only [V.ids]; exact im l
section
theorem Lead.bind {K K' : St -> Prop} {σ : St} (h : Lead K σ) (hk : ∀ σ',K σ' -> Lead K' σ') : Lead K' σ:=fun A0 N w0 ρ a w hR=>
 let ⟨σ',ρ',hR',hK⟩:=h A0 N w0 ρ a w hR; hk σ' hK A0 N w0 ρ' a w hR'
section
variable {A0 : Env} {N : Nat} {w0 : World} {ρ : Nat -> Option (Nat × Nat)} {σ : St} {a : Act} {w : World}
theorem Rel.layNil (h : Rel A0 N w0 ρ σ a w) {K T sz : Nat} (hK : K < 1000) (hsz : 0 < sz) : Rel A0 N w0 (upd ρ K none) (σ.lay K (.row T sz [])) a w:=
 h.lay K (mf hK) (.row T sz []) none h.below (Jv _) (fun _ _ _=>rfl) (fun p hp=>by cases hp) (fun _ _=>⟨hsz,rfl⟩)
theorem bA {σ : St} (s K T sz : Nat) (hK : K < 1000) (hsz : 0 < sz) (hs : σ.t s = .d (.sl none none [])) :
  Lead (fun σ'=>σ' = { σ.lay K (.row T sz []) with t:=upd (σ.lay K (.row T sz [])).t s (.own K 0 0) }) σ:=by
 intro A0 N w0 ρ a w h
 have h1:=h.layNil (T:=T) hK hsz
 refine ⟨{ σ.lay K (.row T sz []) with t:=upd (σ.lay K (.row T sz [])).t s (.own K 0 0) },_,⟨h1.below,h1.hN,h1.key,h1.norow,h1.hG,h1.hB,h1.hs,h1.hs0,h1.defers,h1.size,fun i=>?_,h1.mem,h1.inj⟩,rfl⟩
 simp only [upd]
 split
 ·rename_i hi
  subst hi
  have hv:=h.tmps i
  rw [hs] at hv
  simp only [VR] at hv
  generalize a.eval (.tmp i) = v at hv
  cases hv
  simp only [VR,bC,Blk.map]
  refine ⟨by simp,?_⟩
  simp [OwnV]
 ·exact h1.tmps i
theorem GW {ρ : Nat -> Option (Nat × Nat)} {m : Nat -> Option Blk} {S : Nat -> Prop} {w : World} {l : List V} {vs : List Value} (h : LR ρ m S w l vs) (j : Nat) (x : V) (hx : ∀ v,vs[j]? = some v -> VR ρ m S w x v) : LR ρ m S w (l.set j x) vs:=by
 refine LR.of_get (by simpa using h.length) fun i c v hc hv=>?_
 rw [List.getElem?_set] at hc
 split at hc
 ·rename_i hij
  subst hij
  split at hc
  ·cases hc; exact hx v hv
  ·cases hc
 ·obtain ⟨u,hu,hd⟩:=h.get i c hc
  rw [hv] at hu; cases hu; exact hd
theorem cz {σ : St} (b j K T sz : Nat) (cs : List V) (hK : K < 1000) (hbK : b ≠ K) (hsz : 0 < sz) (hb : σ.m b = some (.box cs)) (hj : cs[j]? = some (.d (.sl none none []))) :
  Lead (fun σ'=>σ' = { σ.lay K (.row T sz []) with m:=upd (σ.lay K (.row T sz [])).m b (some (.box ((cs.map (wipe K)).set j (.own K 0 0)))) }) σ:=by
 intro A0 N w0 ρ a w h
 have h1:=h.layNil (T:=T) hK hsz
 have hb1 : (σ.lay K (.row T sz [])).m b = some (.box (cs.map (wipe K))):=by rw [cy _ _ _ _ hbK,hb]; rfl
 have hkc : ∀ k,KC (upd ρ K none) (σ.lay K (.row T sz [])).m (upd ρ K none) (upd (σ.lay K (.row T sz [])).m b (some (.box ((cs.map (wipe K)).set j (.own K 0 0))))) k:=by
  intro k
  by_cases hk : k = b
  ·subst hk; simp only [KC,upd,if_true]; exact ⟨trivial,_,hb1⟩
  ·have:=KC.refl (ρ:=upd ρ K none) (m:=(σ.lay K (.row T sz [])).m) k
   unfold KC at this ⊢
   simpa [upd,hk] using this
 refine ⟨_,_,h1.setBlk (b':=.box ((cs.map (wipe K)).set j (.own K 0 0))) hb1 rfl h1.below (Jv _) (fun _ _=>rfl) hkc (fun hS hw=>?_),rfl⟩
 obtain ⟨g,cap,hr,hB,cur,T',hc,hl⟩:=h1.mem b _ hb1
 refine ⟨g,cap,hr,hB,cur,T',hc,GW (LR.mono hS hw hkc _ _ hl) j _ fun v hv=>?_⟩
 obtain ⟨g0,cap0,hr0,hB0,cur0,T0,hc0,hl0⟩:=h.mem b _ hb
 have hr' : ρ b = some (g,cap):=by simpa [upd,hbK] using hr
 rw [hr'] at hr0
 cases hr0
 rw [hc] at hc0
 cases hc0
 obtain ⟨u,hu,hd⟩:=hl0.get j _ hj
 rw [hv] at hu
 cases hu
 simp only [VR] at hd
 cases hd
 simp only [VR,upd,Ne.symm hbK,if_false]
 rw [bC]
 simp [Blk.map,OwnV]
end
theorem aE {P : Program} {E : Md} {sch : Nat -> Tr} {c : Code} {Q : Exit -> St -> Prop} {B hs0 : Nat} {W : List Nat} {t0 : Nat -> V} {m0 : Nat -> Option Blk} {X : Type} (Inv : X -> Nat -> Prop) (S : X -> List (Nat × V)) (M : X -> List (Nat × Option Blk)) (μ : X -> Nat)
  (h0 : Lead (fun s=>∃ x,Inv x s.hs /\ s.B = B /\ s.W = W /\ hs0 <= s.hs /\ (∀ p ∈ S x,s.t p.1 = p.2) /\ (∀ p ∈ M x,s.m p.1 = p.2)) ⟨B,hs0,W,t0,m0⟩)
  (hr : ∀ x hs t m,Inv x hs -> hs0 <= hs -> vwp P E sch c (lB Inv S M μ B W hs (μ x) Q) ⟨B,hs,W,updL t (S x),updL m (M x)⟩) : yK P E sch c Q ⟨B,hs0,W,t0,m0⟩:=by
 refine ⟨fun n σ=>∃ x hs t m,Inv x hs /\ μ x = n /\ hs0 <= hs /\ σ = ⟨B,hs,W,updL t (S x),updL m (M x)⟩,Lead.mono h0 ?_,?_⟩
 ·rintro s ⟨x,h1,h3,h7,h4,h5,h6⟩
  obtain ⟨B',hs',W',t',m'⟩:=s
  simp only at h1 h3 h7 h4 h5 h6
  subst h3 h7
  exact ⟨_,x,hs',t',m',h1,rfl,h4,by rw [bL h5,bL h6]⟩
 rintro n σ ⟨x,hs,t,m,hx,rfl,hhs,rfl⟩
 refine eY _ _ _ _ ?_ (hr x hs t m hx hhs)
 intro e σ he
 cases e with
 | normal =>
   refine Lead.mono he ?_
   rintro s ⟨x',h1,h2,h3,h7,h4,h5,h6⟩
   obtain ⟨B',hs',W',t',m'⟩:=s
   simp only at h1 h3 h7 h4 h5 h6
   subst h3 h7
   exact ⟨_,h2,x',hs',t',m',h1,rfl,Zy hhs h4,by rw [bL h5,bL h6]⟩
 | _=>exact he
theorem bs1 {P : Program} {E : Md} {ops : Array Oper} {K : St -> Prop} {r : List Oper} {σ : St} {k : Tmp} {ty : TypeId} {pos : String} {af : Array Edge} {T n k' : Nat} {ks : List Nat} {parts : Array (Nat × Operand)} (hE : E.p = false:=by rfl) (hk : keysVL (allC (parts.toList.map fun p : Nat × Operand=>σ.ev p.2)) = k' :: ks)
  (h : ∀ γ hs',σ.hs <= hs' -> Gam σ γ hs' -> ((tslice P T).isSome = true /\ n * (slT P T).2.1 <= 16777216 /\ parts.size = n /\ fu ({ σ with hs:=hs' }.frzs γ (k' :: ks)) (slT P T).2.1 0 parts.toList /\ (allC (parts.toList.map fun p : Nat × Operand=>({ σ with hs:=hs' }.frzs γ (k' :: ks)).ev p.2)).all isD = true) /\
   vops P E ops K r ((({ σ with hs:=hs' }.frzs γ (k' :: ks)).lay k (.row (slT P T).1 (slT P T).2.1 (iM (slT P T).2.1 n ((allC (parts.toList.map fun p : Nat × Operand=>({ σ with hs:=hs' }.frzs γ (k' :: ks)).ev p.2)).map dD)))).put (some k) (.own k 0 n))) :
  vops P E ops K (⟨some k,.buildSlice T n parts,ty,pos,af,none⟩ :: r) σ:=by
 rw [vp T n k' ks parts hE hk]
 intro γ hs' h1 h2
 obtain ⟨h3,h4⟩:=h γ hs' h1 h2
 exact ⟨h3,h4⟩
attribute [simp] St.frzs St.frz Vs.frz Vs.frzL
theorem iR {σ : St} {γ : Nat -> Option Nat} {hs' k T sz k2 T2 sz2 : Nat} {es es2 : List (List D)} (hg : Gam σ γ hs') (hm : σ.m k = some (.row T sz es)) (hm2 : σ.m k2 = some (.row T2 sz2 es2)) (hlk : k < 1000:=by decide) : ∀ g,γ k = some g -> g ∉ idsLL es2:=
 fun g h=>(hg.fr k T sz es g hm h hlk).1.row k2 T2 sz2 es2 hm2
theorem e8.snoc2 {α : Type} {c : α -> List D} {wh : α -> Prop} {n h h' : Nat} {l : List α} {a : α} (hl : e8 c wh n h l) (h1 : h <= h') (ha : Good (c a) (wh a) n) (hd : ∀ g ∈ idsL (c a),g ∉ idsLL (l.map c)) (hb : ∀ g ∈ idsL (c a),g < h') : e8 c wh n h' (l ++ [a]):=by
 have e : idsLL ((l ++ [a]).map c) = idsLL (l.map c) ++ idsL (c a):=by simp [cm,idsLL]
 refine ⟨?_,fun g hg=>?_,fun g hg=>?_,fun b hb=>?_⟩
 ·rw [e]
  exact List.nodup_append.2 ⟨hl.nd,ha.nd,fun x hx y hy hxy=>hd y hy (hxy ▸ hx)⟩
 ·rw [e] at hg
  rcases Qq.1 hg with hg | hg
  ·exact hl.lo g hg
  ·exact ha.lo g hg
 ·rw [e] at hg
  rcases Qq.1 hg with hg | hg
  ·have:=hl.hi g hg; omega
  ·exact hb g hg
 ·rcases Qq.1 hb with hb | hb
  ·exact hl.wh b hb
  ·rw [Qg.1 hb]; exact ha.wh
theorem eh {γ17 : Option Nat} {T : TypeId × Nat} {xs : List Int} {B : Nat} (q1 : ∀ g,γ17 = some g -> B <= g) (q2 : xs ≠ [] -> γ17 ≠ none) : Good (cS cI ⟨γ17,some T,xs⟩) (whS whI ⟨γ17,some T,xs⟩) B:=
 df q1 q2 (fun g _=>by simp) ⟨by simp,by simp⟩ (by simp [whI])
theorem uf {γ17 : Option Nat} {T : Option (TypeId × Nat)} {xs : List Int} {g : Nat} (h : g ∈ idsL (cS cI ⟨γ17,T,xs⟩)) : γ17 = some g:=by
 rw [bc] at h
 rcases aK.1 h with h | h
 ·exact h
 ·simp at h
end
@[simp] theorem K0 (a b : Int) : (a == b) = decide (a = b):=by by_cases h : a = b <;> simp [h]
@[simp] theorem K3 (a b : Int) : (a != b) = !decide (a = b):=by by_cases h : a = b <;> simp [h]
@[simp] theorem I3 (a b : List UInt8) : (a == b) = decide (a = b):=by by_cases h : a = b <;> simp [h]
@[simp] theorem K4 (a b : Nat) : ((a : Int) = (b : Int)) = (a = b):=propext ⟨fun h=>by omega,fun h=>by omega⟩
theorem VC.to {P : Program} {f : FuncId} {As : List V} {v v' : V} (h : VC P f As (fun _ r=>r = v)) (e : v = v') : VC P f As (fun _ r=>r = v'):=e ▸ h
theorem JD (s : Sl (Sl Int)) : (dSl (cS cI) s).er = pS (cP cI) (plS (plS plI) s):=Bb (iQ eE) s
theorem aR (n : Int) : plI n = n:=rfl
theorem aC (s : List UInt8) : fH s = s:=rfl
theorem ax (l : List Int) : l.map plI = l:=by induction l with | nil=>rfl | cons a r ih=>simp [aR,ih]
theorem ay (l : List (List UInt8)) : l.map fH = l:=by induction l with | nil=>rfl | cons a r ih=>simp [aC,ih]
theorem mm {σ : St} (k : Nat) {T sz : Nat} {es : List (List D)} (hm : σ.m k = some (.row T sz es)) : Lead (fun σ'=>σ' = σ.frp k es) σ:=
 fun _ _ _ ρ _ _ hR=>⟨_,ρ,hR.frp hm,rfl⟩
theorem fD {σ : St} (k : Nat) {T sz : Nat} {es : List (List D)} (hm : σ.m k = some (.row T sz es)) :
  Lead (fun σ'=>∃ γ hs',σ.hs <= hs' /\ Gam σ γ hs' /\ σ' = ({ σ with hs:=hs' } : St).frz k (γ k) (T,sz) es) σ:=
 fun _ _ _ ρ _ w hR=>⟨_,ρ,(hR.hs_).frz (k:=k) (T:=T) (sz:=sz) (es:=es) hm,_,w.heap.size,hR.hs,hR.gam,rfl⟩
section
attribute [local simp] aR aC ax ay pS cP cI cStr cU8 cB
open Go.RowKit
mutual
def D.pn : D -> Bool
 | .sl ..=>false
 | .pl es=>pnLL es
 | _=>true
def pnL : List D -> Bool
 | []=>true
 | x :: r=>x.pn && pnL r
def pnLL : List (List D) -> Bool
 | []=>true
 | x :: r=>pnL x && pnLL r
end
mutual
def V.pn : V -> Bool
 | .d x=>x.pn
 | .agg cs=>pnVL cs
 | .tup cs=>pnVL cs
 | _=>false
def pnVL : List V -> Bool
 | []=>true
 | x :: r=>x.pn && pnVL r
end
theorem HL {l : List D} (h : pnL l = true) {i : Nat} {x : D} (hx : l[i]? = some x) : x.pn = true:=by
 induction l generalizing i with
 | nil=>simp at hx
 | cons y r ih =>
   simp only [pnL,Jq] at h
   cases i with
   | zero=>simp at hx; rw [<- hx]; exact h.1
   | succ i=>exact ih h.2 (by simpa using hx)
theorem EW {l : List (List D)} (h : pnLL l = true) {i : Nat} {x : List D} (hx : l[i]? = some x) : pnL x = true:=by
 induction l generalizing i with
 | nil=>simp at hx
 | cons y r ih =>
   simp only [pnLL,Jq] at h
   cases i with
   | zero=>simp at hx; rw [<- hx]; exact h.1
   | succ i=>exact ih h.2 (by simpa using hx)
theorem Ko {x : D} (h : x.tk = true) : x.hp = false:=by
 cases x with
 | pl=>cases h
 | _=>rfl
theorem rq {Q : D -> D -> Nat -> Nat -> Prop} : ∀ (es : List (List D)) (k : Nat),(∀ (i : Nat) (e : List D),es[i]? = some e -> ∀ (j : Nat) (u : D),e[j]? = some u -> ∃ y,y.er = u /\ y.tk = true /\ Q u y (k + i) j) ->
  ∃ es' : List (List D),erLL es' = es /\ tkLL es' = true /\ ∀ (i : Nat) (e : List D),es'[i]? = some e -> ∃ e0,es[i]? = some e0 /\ e.length = e0.length /\ ∀ (j : Nat) (y : D),e[j]? = some y -> ∃ u,e0[j]? = some u /\ Q u y (k + i) j
 | [],k,_=>⟨[],rfl,rfl,by simp⟩
 | e :: r, k, h => by
   have row : ∀ (e : List D) (q : Nat),(∀ (j : Nat) (u : D),e[j]? = some u -> ∃ y,y.er = u /\ y.tk = true /\ Q u y k (q + j)) ->
     ∃ e' : List D,erL e' = e /\ tkL e' = true /\ ∀ (j : Nat) (y : D),e'[j]? = some y -> ∃ u,e[j]? = some u /\ Q u y k (q + j):=by
    intro e
    induction e with
    | nil=>intro q _; exact ⟨[],rfl,rfl,by simp⟩
    | cons x s ih =>
      intro q hx
      obtain ⟨y,h1,h2,h3⟩:=hx 0 x rfl
      obtain ⟨s',h4,h5,h6⟩:=ih (q + 1) fun j u hu=>by
       have:=hx (j + 1) u (by simpa using hu)
       rwa [show q + (j + 1) = q + 1 + j by omega] at this
      refine ⟨y :: s',by simp only [erL,h1,h4],by simp only [tkL,h2,h5,Bool.and_self],fun j z hz=>?_⟩
      cases j with
      | zero=>simp at hz; subst hz; exact ⟨x,rfl,h3⟩
      | succ j =>
        obtain ⟨u,hu,hq⟩:=h6 j z (by simpa using hz)
        exact ⟨u,by simpa using hu,by rwa [show q + (j + 1) = q + 1 + j by omega]⟩
   obtain ⟨e',h1,h2,h3⟩:=row e 0 fun j u hu=>by simpa using h 0 e rfl j u hu
   obtain ⟨r',h4,h5,h6⟩:=rq (Q:=Q) r (k + 1) fun i e he j u hu=>by
    have:=h (i + 1) e (by simpa using he) j u hu
    rwa [show k + (i + 1) = k + 1 + i by omega] at this
   refine ⟨e' :: r',by simp only [erLL,h1,h4],by simp only [tkLL,h2,h5,Bool.and_self],fun i f hf=>?_⟩
   cases i with
   | zero =>
     simp at hf; subst hf
     exact ⟨e,rfl,by rw [<- h1,ou],fun j y hy=>by simpa using h3 j y hy⟩
   | succ i =>
     obtain ⟨e0,h7,h8,h9⟩:=h6 i f (by simpa using hf)
     exact ⟨e0,by simpa using h7,h8,fun j y hy=>by
      obtain ⟨u,hu,hq⟩:=h9 j y hy
      exact ⟨u,hu,by rwa [show k + (i + 1) = k + 1 + i by omega]⟩⟩
theorem DR.track {S : Nat -> Prop} {w : World} {x : D} {v : Value} (h : DR S w x v) : x.pn = true -> ∃ y,DR S w y v /\ y.er = x /\ y.tk = true:=by
 induction h with
 | bool b=>intro _; exact ⟨_,.bool b,rfl,rfl⟩
 | int k n=>intro _; exact ⟨_,.int k n,rfl,rfl⟩
 | str s=>intro _; exact ⟨_,.str s,rfl,rfl⟩
 | nil T=>intro h; cases h
 | emp t a=>intro h; cases h
 | sl=>intro h; cases h
 | pl es a cap sz vs hg hn hcap hm hsz hc hd ih =>
   intro hp
   simp only [D.pn] at hp
   by_cases h0 : 0 < cap
   ·obtain ⟨p,rfl⟩:=Option.ne_none_iff_exists'.1 (hn h0)
    obtain ⟨es',h1,h2,h3⟩:=rq (Q:=fun u y i j=>DR S w y (vs (i * sz + j))) es 0 fun i e he j u hu=>by
     obtain ⟨y,h4,h5,h6⟩:=ih i e he j u hu (HL (EW hp he) hu)
     exact ⟨y,h5,h6,by simpa using h4⟩
    have hl : es'.length = es.length:=by rw [<- h1,jQ]
    refine ⟨.sl (some p.block) none es',?_,by simp only [D.er,h1],by simp only [D.tk,h2]⟩
    rw [<- hl]
    refine .sl p.block none es' p cap sz vs (hg p rfl h0) (fun _=>rfl) (by omega) hm (fun i e he=>?_) (fun i e he j u hu=>?_) (fun i e he j u hu=>?_) (by simp) ?_
    ·obtain ⟨e0,h4,h5,_⟩:=h3 i e he
     rw [h5]; exact hsz i e0 h4
    ·obtain ⟨e0,h4,h5,h6⟩:=h3 i e he
     obtain ⟨u0,h7,h8⟩:=h6 j u hu
     exact hc p rfl i e0 h4 j u0 h7
    ·obtain ⟨e0,h4,h5,h6⟩:=h3 i e he
     obtain ⟨u0,h7,h8⟩:=h6 j u hu
     simpa using h8
    ·simp only [hpLL,hpL,List.any_eq_false,List.mem_iff_getElem?,Bool.not_eq_true]
     rintro e ⟨i,hi⟩ u ⟨j,hj⟩
     have h4:=yD h2 hi
     have : ∀ (l : List D),tkL l = true -> ∀ (j : Nat) (u : D),l[j]? = some u -> u.tk = true:=by
      intro l
      induction l with
      | nil=>simp
      | cons a r ih =>
        intro ht j u hu
        simp only [tkL,Jq] at ht
        cases j with
        | zero=>simp at hu; rw [<- hu]; exact ht.1
        | succ j=>exact ih ht.2 j u (by simpa using hu)
     exact Ko (this e h4 j u hj)
   ·have hc0 : cap = 0:=by omega
    subst hc0
    have he : es = []:=List.eq_nil_of_length_eq_zero (by omega)
    subst he
    exact ⟨.sl none (some (0,0)) [],.emp _ a,rfl,rfl⟩
mutual
theorem VR.track {S : Nat -> Prop} {w : World} : ∀ (x : V) (v : Value),x.pn = true -> VR (fun _=>none) (fun _=>none) S w x v ->
  ∃ y,VR (fun _=>none) (fun _=>none) S w y v /\ rp (fun _=>none) y = some x /\ y.tk = true /\ rd (fun _=>none) (fun _=>none) y = some y
 | .d x, v, hp, h => by
   simp only [VR] at h
   obtain ⟨y,h1,h2,h3⟩:=h.track (by simpa [V.pn] using hp)
   exact ⟨.d y,by simpa only [VR] using h1,by simp only [rp,h2],by simpa only [V.tk] using h3,rfl⟩
 | .own _ _ _,_,hp,_=>by simp [V.pn] at hp
 | .ptr _ _ _,_,hp,_=>by simp [V.pn] at hp
 | .fptr _ _ _,_,hp,_=>by simp [V.pn] at hp
 | .bad,_,hp,_=>by simp [V.pn] at hp
 | .agg cs, v, hp, h => by
   simp only [VR] at h
   obtain ⟨l,h1,h2⟩:=h
   obtain ⟨ys,h3,h4,h5,h6⟩:=LR.track cs l (by simpa [V.pn] using hp) h2
   exact ⟨.agg ys,by simp only [VR]; exact ⟨l,h1,h3⟩,by simp only [rp,h4,Jg],by simpa only [V.tk] using h5,by simp only [rd,h6,Jg]⟩
 | .tup cs, v, hp, h => by
   simp only [VR] at h
   obtain ⟨l,h1,h2⟩:=h
   obtain ⟨ys,h3,h4,h5,h6⟩:=LR.track cs l (by simpa [V.pn] using hp) h2
   exact ⟨.tup ys,by simp only [VR]; exact ⟨l,h1,h3⟩,by simp only [rp,h4,Jg],by simpa only [V.tk] using h5,by simp only [rd,h6,Jg]⟩
 | .fn _ _,_,hp,_=>by simp [V.pn] at hp
theorem LR.track {S : Nat -> Prop} {w : World} : ∀ (x : List V) (v : List Value),pnVL x = true -> LR (fun _=>none) (fun _=>none) S w x v ->
  ∃ y,LR (fun _=>none) (fun _=>none) S w y v /\ rpL (fun _=>none) y = some x /\ tkVL y = true /\ rdL (fun _=>none) (fun _=>none) y = some y
 | [],[],_,_=>⟨[],by simp [LR],rfl,rfl,rfl⟩
 | [],_ :: _,_,h=>by simp [LR] at h
 | _ :: _,[],_,h=>by simp [LR] at h
 | c :: cs, v :: l, hp, h => by
   simp only [LR] at h
   simp only [pnVL,Jq] at hp
   obtain ⟨y,h1,h2,h3,h4⟩:=VR.track c v hp.1 h.1
   obtain ⟨ys,h5,h6,h7,h8⟩:=LR.track cs l hp.2 h.2
   exact ⟨y :: ys,by simp only [LR]; exact ⟨h1,h5⟩,by simp only [rpL,h2,h6],by simp only [tkVL,h3,h7,Bool.and_self],by simp only [rdL,h4,h8]⟩
end
mutual
theorem VR.er {S : Nat -> Prop} {w : World} : ∀ (v : V) (val : Value) (r : V),VR (fun _=>none) (fun _=>none) S w v val -> rp (fun _=>none) v = some r -> VR (fun _=>none) (fun _=>none) S w r val
 | .d x, val, r, hv, hr => by
   simp only [rp,Jx] at hr
   subst hr
   simp only [VR] at hv ⊢
   exact hv.er
 | .own k lo n,val,r,hv,hr=>by simp [rp] at hr
 | .ptr _ _ _,_,_,_,hr=>by simp [rp] at hr
 | .fptr _ _ _,_,_,_,hr=>by simp [rp] at hr
 | .bad,_,_,_,hr=>by simp [rp] at hr
 | .agg cs, val, r, hv, hr => by
   simp only [rp] at hr
   cases hl : rpL (fun _=>none) cs with
   | none=>simp [hl] at hr
   | some rs =>
     simp only [hl,Jg,Jx] at hr
     subst hr
     simp only [VR] at hv ⊢
     obtain ⟨l,h1,h2⟩:=hv
     exact ⟨l,h1,LR.er cs l rs h2 hl⟩
 | .tup cs, val, r, hv, hr => by
   simp only [rp] at hr
   cases hl : rpL (fun _=>none) cs with
   | none=>simp [hl] at hr
   | some rs =>
     simp only [hl,Jg,Jx] at hr
     subst hr
     simp only [VR] at hv ⊢
     obtain ⟨l,h1,h2⟩:=hv
     exact ⟨l,h1,LR.er cs l rs h2 hl⟩
 | .fn _ _,val,r,hv,hr=>by simp [rp] at hr
theorem LR.er {S : Nat -> Prop} {w : World} : ∀ (l : List V) (vals : List Value) (rs : List V),LR (fun _=>none) (fun _=>none) S w l vals -> rpL (fun _=>none) l = some rs -> LR (fun _=>none) (fun _=>none) S w rs vals
 | [],[],rs,_,hr=>by simp [rpL] at hr; subst hr; simp [LR]
 | [],_ :: _,_,hl,_=>by simp [LR] at hl
 | _ :: _,[],_,hl,_=>by simp [LR] at hl
 | c :: cs, v :: l, rs, hl, hr => by
   simp only [LR] at hl
   simp only [rpL] at hr
   cases h1 : rp (fun _=>none) c with
   | none=>simp [h1] at hr
   | some x =>
     cases h2 : rpL (fun _=>none) cs with
     | none=>simp [h1,h2] at hr
     | some r =>
       simp only [h1,h2,Jx] at hr
       subst hr
       simp only [LR]
       exact ⟨VR.er c v x hl.1 h1,LR.er cs l r hl.2 h2⟩
end
theorem VC.track {P : Program} {f : FuncId} {As Ps : List V} {v : V} (h : VC P f Ps (fun _ r=>r = v)) (hp : rpL (fun _=>none) As = some Ps) (hv : v.pn = true) :
  VC P f As (fun _ r=>rp (fun _=>none) r = some v /\ r.tk = true):=by
 refine ⟨h.1,fun w vals A hgl hLR=>?_⟩
 refine (h.2 w vals A hgl (LR.er _ _ _ hLR hp)).mono fun e w' he=>?_
 obtain ⟨v',r,rfl,hb,hvr,_,rfl⟩:=he
 obtain ⟨y,h1,h2,h3,h4⟩:=VR.track _ _ hv hvr
 exact ⟨v',y,rfl,hb,h1,h4,h2,h3⟩
def Tk {α β : Type} (c : α -> List D) (e : β -> List D) (pl : α -> β) : Prop:=∀ (l : List D) (p : β),tkL l = true -> erL l = e p -> ∃ a,l = c a /\ pl a = p
theorem Tk.mapS {α β : Type} {c : α -> List D} {e : β -> List D} {pl : α -> β} (h : Tk c e pl) : ∀ (es : List (List D)) (ps : List β),tkLL es = true -> erLL es = ps.map e -> ∃ xs : List α,es = xs.map c /\ xs.map pl = ps
 | [],[],_,_=>⟨[],rfl,rfl⟩
 | [],_ :: _,_,h=>by simp [erLL] at h
 | _ :: _,[],_,h=>by simp [erLL] at h
 | x :: r, p :: ps, ht, he => by
   simp only [tkLL,Jq] at ht
   simp only [erLL,Qz,List.cons.injEq] at he
   obtain ⟨a,h1,h2⟩:=h x p ht.1 he.1
   obtain ⟨xs,h3,h4⟩:=Tk.mapS h r ps ht.2 he.2
   exact ⟨a :: xs,by rw [h1,h3]; rfl,by rw [Qz,h2,h4]⟩
theorem tk_S {α β : Type} {c : α -> List D} {e : β -> List D} {pl : α -> β} (h : Tk c e pl) : Tk (cS c) (cP e) (plS pl):=by
 intro l ps ht he
 simp only [cP,pS] at he
 match l,ht,he with
 | [],_,he=>simp [erL] at he
 | x :: y :: r,_,he=>simp [erL] at he
 | [x], ht, he =>
   simp only [erL,List.cons.injEq,and_true] at he
   simp only [tkL,Bool.and_true] at ht
   cases x with
   | sl id T es =>
     simp only [D.er,D.pl.injEq] at he
     simp only [D.tk] at ht
     obtain ⟨xs,h1,h2⟩:=h.mapS es ps ht he
     exact ⟨⟨id,T,xs⟩,by simp only [cS,dSl,h1],h2⟩
   | pl es=>cases ht
   | _=>simp [D.er] at he
theorem tk_I : Tk cI cI plI:=by
 intro l p ht he
 match l,ht,he with
 | [],_,he=>simp [erL] at he
 | x :: y :: r,_,he=>simp [erL] at he
 | [x], ht, he =>
   simp only [erL,cI,List.cons.injEq,and_true] at he
   refine ⟨p,?_,rfl⟩
   cases x <;> simp [D.er] at he
   simp [he]
theorem wO : Tk cStr cStr fH:=by
 intro l p ht he
 match l,ht,he with
 | [],_,he=>simp [erL] at he
 | x :: y :: r,_,he=>simp [erL] at he
 | [x], ht, he =>
   simp only [erL,cStr,List.cons.injEq,and_true] at he
   refine ⟨p,?_,rfl⟩
   cases x <;> simp [D.er] at he
   simp [he]
theorem qT : ∀ (l a b : List D),erL l = a ++ b -> ∃ l1 l2,l = l1 ++ l2 /\ erL l1 = a /\ erL l2 = b
 | l,[],b,h=>⟨[],l,rfl,rfl,by simpa using h⟩
 | [],x :: a,b,h=>by simp [erL] at h
 | y :: l, x :: a, b, h => by
   simp only [erL,List.cons_append,List.cons.injEq] at h
   obtain ⟨l1,l2,h1,h2,h3⟩:=qT l a b h.2
   exact ⟨y :: l1,l2,by rw [h1]; rfl,by simp only [erL,h.1,h2],h3⟩
theorem Iw {α β γ δ : Type} {c1 : α -> List D} {e1 : β -> List D} {p1 : α -> β} {c2 : γ -> List D} {e2 : δ -> List D} {p2 : γ -> δ} (h1 : Tk c1 e1 p1) (h2 : Tk c2 e2 p2) :
  Tk (fun x : α × γ=>c1 x.1 ++ c2 x.2) (fun x : β × δ=>e1 x.1 ++ e2 x.2) (fun x=>(p1 x.1,p2 x.2)):=by
 intro l p ht he
 obtain ⟨l1,l2,rfl,h3,h4⟩:=qT l _ _ he
 simp only [mM,Jq] at ht
 obtain ⟨a,rfl,h5⟩:=h1 l1 p.1 ht.1 h3
 obtain ⟨b,rfl,h6⟩:=h2 l2 p.2 ht.2 h4
 exact ⟨(a,b),rfl,Prod.ext h5 h6⟩
theorem Tk.map {α β α' β' : Type} {c : α -> List D} {e : β -> List D} {p : α -> β} {c' : α' -> List D} {e' : β' -> List D} {p' : α' -> β'} (h : Tk c e p) (f : α -> α') (g : β' -> β) (hc : ∀ a,c' (f a) = c a) (he : ∀ b,e' b = e (g b)) (hp : ∀ a b,p a = g b -> p' (f a) = b) : Tk c' e' p':=by
 intro l b ht hl
 rw [he] at hl
 obtain ⟨a,h1,h2⟩:=h l (g b) ht hl
 exact ⟨f a,by rw [hc,h1],hp a b h2⟩
theorem CV {α β : Type} {c : α -> List D} {e : β -> List D} {pl : α -> β} (h : Tk c e pl) {r : V} {p : β} (hr : rp (fun _=>none) r = some (.agg ((e p).map .d))) (ht : r.tk = true) : ∃ a,r = .agg ((c a).map .d) /\ pl a = p:=by
 have key : ∀ (cs : List V) (l : List D),rpL (fun _=>none) cs = some (l.map .d) -> ∃ l',cs = l'.map .d /\ erL l' = l:=by
  intro cs
  induction cs with
  | nil=>intro l h; simp only [rpL,Jx] at h; cases l with | nil=>exact ⟨[],rfl,rfl⟩ | cons=>simp at h
  | cons x s ih =>
    intro l h
    simp only [rpL] at h
    cases hx : rp (fun _=>none) x with
    | none=>simp [hx] at h
    | some y =>
      cases hs : rpL (fun _=>none) s with
      | none=>simp [hx,hs] at h
      | some ys =>
        simp only [hx,hs,Jx] at h
        cases l with
        | nil=>simp at h
        | cons d l =>
          simp only [Qz,List.cons.injEq] at h
          obtain ⟨rfl,rfl⟩:=h
          obtain ⟨l',h1,h2⟩:=ih l hs
          cases x with
          | d z =>
            simp only [rp,Jx,V.d.injEq] at hx
            exact ⟨z :: l',by rw [h1]; rfl,by simp only [erL,hx,h2]⟩
          | own=>simp [rp] at hx
          | ptr=>simp [rp] at hx
          | fptr=>simp [rp] at hx
          | bad=>simp [rp] at hx
          | agg zs=>simp only [rp] at hx; cases hz : rpL (fun _=>none) zs <;> simp [hz] at hx
          | tup zs=>simp only [rp] at hx; cases hz : rpL (fun _=>none) zs <;> simp [hz] at hx
          | fn ff zs=>simp [rp] at hx
 cases r with
 | agg cs =>
   simp only [rp] at hr
   cases hc : rpL (fun _=>none) cs with
   | none=>simp [hc] at hr
   | some l =>
     simp only [hc,Jg,Jx,V.agg.injEq] at hr
     subst hr
     obtain ⟨l',rfl,h2⟩:=key cs _ hc
     have : tkL l' = true:=by
      simp only [V.tk] at ht
      have : ∀ l : List D,tkVL (l.map V.d) = tkL l:=by
       intro l; induction l with
       | nil=>rfl
       | cons x r ih=>simp only [Qz,tkVL,V.tk,tkL,ih]
      rw [<- this]; exact ht
     obtain ⟨a,rfl,h3⟩:=h l' p this h2
     exact ⟨a,rfl,h3⟩
 | d x=>simp [rp] at hr
 | own=>simp [rp] at hr
 | ptr=>simp [rp] at hr
 | fptr=>simp [rp] at hr
 | bad=>simp [rp] at hr
 | fn _ _=>simp [rp] at hr
 | tup cs=>simp only [rp] at hr; cases hc : rpL (fun _=>none) cs <;> simp [hc] at hr
theorem uV {α β : Type} {c : α -> List D} {e : β -> List D} {pl : α -> β} (h : Tk c e pl) {r : V} {ps : List β} (hr : rp (fun _=>none) r = some (.d (pS e ps))) (ht : r.tk = true) : ∃ s : Sl α,r = .d (dSl c s) /\ plS pl s = ps:=by
 cases r with
 | d x =>
   simp only [rp,Jx,V.d.injEq] at hr
   obtain ⟨s,h1,h2⟩:=tk_S h [x] ps (by simpa only [tkL,Bool.and_true,V.tk] using ht) (by simp only [erL,hr,cP])
   simp only [cS,List.cons.injEq,and_true] at h1
   exact ⟨s,by rw [h1],h2⟩
 | own=>simp [rp] at hr
 | ptr=>simp [rp] at hr
 | fptr=>simp [rp] at hr
 | bad=>simp [rp] at hr
 | fn _ _=>simp [rp] at hr
 | agg cs=>simp only [rp] at hr; cases hc : rpL (fun _=>none) cs <;> simp [hc] at hr
 | tup cs=>simp only [rp] at hr; cases hc : rpL (fun _=>none) cs <;> simp [hc] at hr
end
section
attribute [local simp] aR aC ax ay pS cP cI cStr cU8 cB
theorem GL (n : Int) : pnL (cI n) = true:=rfl
theorem EX (s : List UInt8) : pnL (cStr s) = true:=rfl
theorem my {α : Type} {c : α -> List D} (h : ∀ a,pnL (c a) = true) (l : List α) : pnLL (l.map c) = true:=by
 induction l with
 | nil=>rfl
 | cons a r ih=>simp only [Qz,pnLL,h a,ih,Bool.and_self]
theorem JY {α : Type} {c : α -> List D} (l : List α) (h : ∀ a,pnL (c a) = true) : (pS c l).pn = true:=my h l
theorem JX {α : Type} {c : α -> List D} (l : List α) (h : ∀ a,pnL (c a) = true) : pnL (cP c l) = true:=by simp only [cP,pnL,JY l h,Bool.and_self]
theorem HM (l : List D) : pnVL (l.map .d) = pnL l:=by
 induction l with
 | nil=>rfl
 | cons x r ih=>simp only [Qz,pnVL,V.pn,pnL,ih]
attribute [simp] HM pnVL V.pn D.pn pnL pnLL
@[simp] theorem pn_pI (l : List Int) : pnLL (l.map cI) = true:=my GL l
@[simp] theorem pn_pSI (l : List (List Int)) : pnLL (l.map (cP cI)) = true:=my (fun a=>JX a GL) l
@[simp] theorem K7 (l : List (List UInt8)) : pnLL (l.map cStr) = true:=my EX l
theorem Dg : Tk cDec eDec fG:=
 Tk.map (Iw (tk_S (tk_S tk_I)) (tk_S tk_I)) (fun x=>(⟨x.1,x.2⟩ : Dec)) (fun b=>(b.bags,b.par)) (fun _=>rfl) (fun _=>rfl) (fun x b h=>by
  simp only [Prod.mk.injEq] at h
  cases b; simp_all [fG])
end
section
attribute [local simp] aR aC ax ay pS cP cI cStr cU8 cB
theorem kF {n B : Nat} {ar : Int} {rows : Sl Ints} (G : Good (cS (cS cI) rows) (whS (whS whI) rows) n) (hB : B <= n) : Good (aA ⟨ar,rows⟩) (fq ⟨ar,rows⟩) B:=by
 have K1 : Good (cI ar ++ cS (cS cI) rows) (whI ar /\ whS (whS whI) rows) B:=Good.app (wb B ar) (G.le hB) (fun g h h'=>by simp [cI,idsL,D.ids] at h)
 exact ⟨K1.nd,K1.lo,K1.wh.1,K1.wh.2⟩
def nilS {α : Type} : Sl α:=⟨none,none,[]⟩
theorem fl (B : Nat) : Good (aA ⟨0,nilS⟩) (fq ⟨0,nilS⟩) B:=
 ⟨by simp [aA,nilS,cS,cI,dSl,idsL,D.ids,idsLL],by simp [aA,nilS,cS,cI,dSl,idsL,D.ids,idsLL],⟨trivial,⟨⟨by simp [nilS],by simp [nilS]⟩,by simp [nilS]⟩⟩⟩
theorem ch {α : Type} {ok : α -> Prop} : okS ok (nilS : Sl α):=⟨by simp [nilS],by simp [nilS]⟩
end
section
attribute [local simp] aR aC ax ay pS cP cI cStr cU8 cB
def inR (n lo hi : Int) : Bool:=decide (lo <= n) && decide (n <= hi)
def aZ (r : List Int) : Bool:=r.all fun v=>inR v 0 99
theorem oK {α : Type} {p : α -> Bool} {l : List α} {i : Nat} (h : i < l.length) : (l.take (i + 1)).all p = ((l.take i).all p && p l[i]):=by
 rw [Jz h,List.all_append]; simp
theorem bn {α : Type} {p : α -> Bool} {l : List α} {i : Nat} (h : i < l.length) (hb : p l[i] = false) : l.all p = false:=by
 rw [List.all_eq_false]
 exact ⟨l[i],Jy h,by simp [hb]⟩
theorem oJ {α : Type} {p : α -> Bool} {l : List α} {i : Nat} (h : l.length <= i) (ha : (l.take i).all p = true) : l.all p = true:=by
 rwa [Jj h] at ha
def bP {α : Type} (p : α -> Bool) (l : List α) (i : Nat) : Prop:=(l.take i).all p = true
theorem aQ {α : Type} {p : α -> Bool} {l : List α} : bP p l 0:=by simp [bP]
theorem aM {α : Type} {p : α -> Bool} {l : List α} {i : Nat} (h : bP p l i) (hi : i < l.length) (hp : p l[i] = true) : bP p l (i + 1):=by
 simp only [bP] at *; rw [oK hi,h,hp]; rfl
theorem aP {α : Type} {p : α -> Bool} {l : List α} {i : Nat} (h : bP p l i) (hi : l.length <= i) : l.all p = true:=oJ hi h
def cmpL : List Int -> List Int -> Int
 | [],[]=>0
 | [],_ :: _=>-1
 | _ :: _,[]=>1
 | x :: a,y :: b=>if x < y then -1 else if y < x then 1 else cmpL a b
theorem dj : ∀ (a b : List Int),cmpL a b = 0 ↔ a = b
 | [],[]=>by simp [cmpL]
 | [],_ :: _=>by simp [cmpL]
 | _ :: _,[]=>by simp [cmpL]
 | x :: a, y :: b => by
   simp only [cmpL]
   split
   ·simp; omega
   ·split
    ·simp; omega
    ·rw [dj a b]
     have : x = y:=by omega
     simp [this]
theorem qO {a b : List Int} {i : Nat} (h : i < a.length) (h' : i < b.length) : cmpL (a.drop i) (b.drop i) = if a[i] < b[i] then -1 else if b[i] < a[i] then 1 else cmpL (a.drop (i + 1)) (b.drop (i + 1)):=by
 rw [List.drop_eq_getElem_cons h,List.drop_eq_getElem_cons h']
 simp only [cmpL]
theorem oX {a b : List Int} {i : Nat} (hi : i <= a.length) (hi' : i <= b.length) (h : ¬ (i < a.length /\ i < b.length)) : cmpL (a.drop i) (b.drop i) = if a.length < b.length then -1 else if b.length < a.length then 1 else 0:=by
 by_cases h1 : i = a.length
 ·by_cases h2 : i = b.length
  ·rw [List.drop_of_length_le (by omega),List.drop_of_length_le (by omega)]
   simp [cmpL]; omega
  ·have h3 : i < b.length:=by omega
   rw [List.drop_of_length_le (l:=a) (by omega),List.drop_eq_getElem_cons h3]
   simp only [cmpL]; rw [if_pos (by omega)]
 ·have h2 : i = b.length:=by omega
  have h3 : i < a.length:=by omega
  rw [List.drop_of_length_le (l:=b) (by omega),List.drop_eq_getElem_cons h3]
  simp only [cmpL]; rw [if_neg (by omega),if_pos (by omega)]
def dU (ar : Int) (l : List (List Int)) (i : Nat) : Bool:=decide (((l.getD i []).length : Int) = ar) && aZ (l.getD i []) && (i == 0 || decide (cmpL (l.getD (i - 1) []) (l.getD i []) < 0))
def aL (ar : Int) (l : List (List Int)) : Bool:=inR ar 0 5 && decide (l.length <= 4000) && (List.range l.length).all (dU ar l)
theorem uU {ar : Int} {l : List (List Int)} {i : Nat} (h : i < l.length) (hb : dU ar l i = false) : aL ar l = false:=by
 have : (List.range l.length).all (dU ar l) = false:=by
  rw [List.all_eq_false]; exact ⟨i,Zg.2 h,by simp [hb]⟩
 simp [aL,this]
theorem rD {ar : Int} {l : List (List Int)} (h1 : inR ar 0 5 = true) (h2 : l.length <= 4000) (h : ∀ j,j < l.length -> dU ar l j = true) : aL ar l = true:=by
 have : (List.range l.length).all (dU ar l) = true:=Jk.2 fun j hj=>h j (Zg.1 hj)
 simp [aL,this,h1,h2]
end
section
attribute [local simp] aR aC ax ay pS cP cI cStr cU8 cB
def bs (l : List (List Int)) (row : List Int) (lo hi : Nat) : Nat:=
 if lo < hi then
  if cmpL (l.getD ((lo + hi) / 2) []) row < 0 then bs l row ((lo + hi) / 2 + 1) hi else bs l row lo ((lo + hi) / 2)
 else lo
termination_by hi - lo
theorem AI {l : List (List Int)} {row : List Int} {lo hi : Nat} (h : lo < hi) : bs l row lo hi = if cmpL (l.getD ((lo + hi) / 2) []) row < 0 then bs l row ((lo + hi) / 2 + 1) hi else bs l row lo ((lo + hi) / 2):=by
 rw [bs,if_pos h]
theorem tz {l : List (List Int)} {row : List Int} {lo hi : Nat} (h : ¬ lo < hi) : bs l row lo hi = lo:=by
 rw [bs,if_neg h]
def dt (l : List (List Int)) (row : List Int) : Nat:=bs l row 0 l.length
def gO (l : List (List Int)) (row : List Int) : Bool:=decide (dt l row < l.length) && cmpL (l.getD (dt l row) []) row == 0
theorem AH {l : List (List Int)} {row : List Int} : ∀ (n lo hi : Nat),hi - lo <= n -> lo <= hi -> lo <= bs l row lo hi /\ bs l row lo hi <= hi
 | 0,lo,hi,h,h'=>by rw [tz (by omega)]; omega
 | n + 1, lo, hi, h, h' => by
   by_cases hlt : lo < hi
   ·rw [AI hlt]
    split
    ·have:=AH (l:=l) (row:=row) n ((lo + hi) / 2 + 1) hi (by omega) (by omega); omega
    ·have:=AH (l:=l) (row:=row) n lo ((lo + hi) / 2) (by omega) (by omega); omega
   ·rw [tz hlt]; omega
theorem zO (l : List (List Int)) (row : List Int) : dt l row <= l.length:=(AH (l:=l) (row:=row) l.length 0 l.length (by omega) (by omega)).2
theorem JP {a b : Nat} (ha : a <= 4294967296) (hb : b <= 4294967296) : IntKind.i64.wrap ((IntKind.i64.wrap ((a : Int) + b)).tdiv 2) = (((a + b) / 2 : Nat) : Int):=by
 have h1 : IntKind.i64.wrap ((a : Int) + b) = (a : Int) + b:=aj (by omega) (by omega)
 rw [h1,Int.tdiv_eq_ediv_of_nonneg (by omega)]
 rw [aj (by omega) (by omega)]
 omega
theorem lQ {ar : Int} {l : List (List Int)} (h : aL ar l = true) : l.length <= 4000:=by
 simp only [aL,Jq,Xj] at h; exact h.1.2
theorem gR {ar : Int} {l : List (List Int)} (h : aL ar l = true) : ∀ x ∈ l,x.length <= 5:=by
 intro x hx
 simp only [aL,Jq,Xj,inR] at h
 obtain ⟨⟨⟨h1,h2⟩,_⟩,h3⟩:=h
 obtain ⟨i,hi,rfl⟩:=List.getElem_of_mem hx
 have h4:=Jk.1 h3 i (Zg.2 hi)
 simp only [dU,Jq,Xj] at h4
 have h5:=h4.1.1
 have hg : l.getD i [] = l[i]:=by simp [hi]
 rw [hg] at h5
 omega
end
section
attribute [local simp] aR aC ax ay pS cP cI cStr cU8 cB
end
section
attribute [local simp] aR aC ax ay pS cP cI cStr cU8 cB
theorem js {α : Type} {p : α -> Bool} {l : List α} {k : Nat} (h : bP p l k) (hk : k <= l.length) (he : ∀ h : k < l.length,p l[k] = false) : (l.takeWhile p).length = k:=by
 induction l generalizing k with
 | nil=>simp at hk; simp [hk]
 | cons a r ih =>
   cases k with
   | zero =>
     have:=he (by simp)
     simp at this
     simp [this]
   | succ k =>
     simp only [bP,List.take_succ_cons,List.all_cons,Jq] at h
     have:=ih (k:=k) h.2 (by simpa using hk) (fun hh=>by have:=he (by simpa using hh); rwa [List.getElem_cons_succ] at this)
     simp [h.1,this]
end
section
open Go.RowKit
mutual
def fbx (k : Nat) (x : D) : V -> V
 | .own j lo n=>if j = k then .bad else .own j lo n
 | .ptr j i o=>if j = k then (if i = 0 then .fptr x 0 o else .bad) else .ptr j i o
 | .agg cs=>.agg (fbxL k x cs)
 | .tup vs=>.tup (fbxL k x vs)
 | .fn f vs=>.fn f (fbxL k x vs)
 | v=>v
def fbxL (k : Nat) (x : D) : List V -> List V
 | []=>[]
 | v :: r=>fbx k x v :: fbxL k x r
end
def St.fbx (σ : St) (k : Nat) (ds : List D) : St:=
 { σ with t:=mapV (Vs.fbx k (.pl [ds])) σ.t,m:=upd (mapM (Vs.fbx k (.pl [ds])) σ.m) k none }
section
variable {P : Program} {E : Md} {A0 : Env} {N : Nat} {w0 : World} {ρ : Nat -> Option (Nat × Nat)} {σ : St} {a : Act} {w : World}
theorem tV (k : Nat) (x : D) : ∀ l : List V,fbxL k x l = l.map (Vs.fbx k x)
 | []=>rfl
 | v :: r=>by simp [fbxL,tV k x r]
theorem GT (k j : Nat) (ds : List D) (h : j ≠ k) : KC ρ σ.m ρ (σ.fbx k ds).m j:=by
 unfold KC
 have : (σ.fbx k ds).m j = (σ.m j).map (Blk.map (Vs.fbx k (.pl [ds]))):=by simp [St.fbx,upd,h,mapM]
 rw [this]
 cases hm : σ.m j with
 | none=>trivial
 | some b0 =>
   cases b0 with
   | box cs=>exact ⟨rfl,cs,rfl⟩
   | row T sz es=>exact ⟨rfl,T,es,rfl,Jv _⟩
mutual
theorem VR.fbx {m m' : Nat -> Option Blk} {S S' : Nat -> Prop} {k : Nat} {ds : List D} {cs : List V} (hm : m k = some (.box cs)) (hd : ∀ g cap,ρ k = some (g,cap) -> DR S' w (.pl [ds]) (.slice (some ⟨g,0,none⟩) 1 1))
  (hS : ∀ g,S g -> S' g) (hk : ∀ j,j ≠ k -> KC ρ m ρ m' j) :
  ∀ (v : V) (val : Value),VR ρ m S w v val -> VR ρ m' S' w (fbx k (.pl [ds]) v) val
 | .d x,val,h=>by simp only [VR,Vs.fbx] at h ⊢; exact h.mono hS (fun _ _=>rfl)
 | .own j lo n, val, h => by
   simp only [Vs.fbx]
   split
   ·simp [VR]
   ·rename_i hj; exact ly (hk j hj) h
 | .ptr j i off, val, h => by
   simp only [Vs.fbx]
   split
   ·rename_i hj
    subst hj
    simp only [VR,hm] at h
    obtain ⟨rfl,g,cap,hρ,rfl⟩:=h
    simp only [if_true,VR,lstD]
    refine ⟨⟨g,0,none⟩,1,1,ds.length,hd g cap hρ,by simp,by simp,?_⟩
    rw [bS]
    simp
   ·rename_i hj; exact lz (hk j hj) h
 | .fptr x i off, val, h => by
   simp only [VR,Vs.fbx] at h ⊢
   obtain ⟨a,n,c,sz,h1,h2⟩:=h
   exact ⟨a,n,c,sz,h1.mono hS (fun _ _=>rfl),h2⟩
 | .bad,val,h=>by simp [VR,Vs.fbx]
 | .agg cs, val, h => by
   simp only [VR,Vs.fbx] at h ⊢
   obtain ⟨l,h1,h2⟩:=h
   exact ⟨l,h1,LR.fbx hm hd hS hk cs l h2⟩
 | .tup vs, val, h => by
   simp only [VR,Vs.fbx] at h ⊢
   obtain ⟨l,h1,h2⟩:=h
   exact ⟨l,h1,LR.fbx hm hd hS hk vs l h2⟩
 | .fn ff vs, val, h => by
   simp only [VR,Vs.fbx] at h ⊢
   obtain ⟨l,h1,h2⟩:=h
   exact ⟨l,h1,LR.fbx hm hd hS hk vs l h2⟩
theorem LR.fbx {m m' : Nat -> Option Blk} {S S' : Nat -> Prop} {k : Nat} {ds : List D} {cs : List V} (hm : m k = some (.box cs)) (hd : ∀ g cap,ρ k = some (g,cap) -> DR S' w (.pl [ds]) (.slice (some ⟨g,0,none⟩) 1 1))
  (hS : ∀ g,S g -> S' g) (hk : ∀ j,j ≠ k -> KC ρ m ρ m' j) :
  ∀ (l : List V) (vals : List Value),LR ρ m S w l vals -> LR ρ m' S' w (fbxL k (.pl [ds]) l) vals
 | [],[],_=>by simp [LR,Vs.fbxL]
 | [],_ :: _,h=>by simp [LR] at h
 | _ :: _,[],h=>by simp [LR] at h
 | c :: cs, v :: l, h => by
   simp only [LR,Vs.fbxL] at h ⊢
   exact ⟨VR.fbx hm hd hS hk c v h.1,LR.fbx hm hd hS hk cs l h.2⟩
end
theorem Rel.fbx (h : Rel A0 N w0 ρ σ a w) {k : Nat} {ds : List D} (hm : σ.m k = some (.box (ds.map V.d))) (hk1 : k < 1000) : Rel A0 N w0 ρ (σ.fbx k ds) a w:=by
 have hmk : (σ.fbx k ds).m k = none:=by simp [St.fbx,upd]
 have hmne : ∀ j,j ≠ k -> (σ.fbx k ds).m j = (σ.m j).map (Blk.map (Vs.fbx k (.pl [ds]))):=fun j hj=>by simp [St.fbx,upd,hj,mapM]
 have hback : ∀ j b,(σ.fbx k ds).m j = some b -> j ≠ k /\ ∃ b0,σ.m j = some b0 /\ b = b0.map (Vs.fbx k (.pl [ds])):=by
  intro j b hj
  by_cases hjk : j = k
  ·subst hjk; rw [hmk] at hj; cases hj
  ·rw [hmne j hjk] at hj
   cases hm : σ.m j with
   | none=>simp [hm] at hj
   | some b0=>simp [hm] at hj; exact ⟨hjk,b0,rfl,hj.symm⟩
 have hS : ∀ g,Sof A0 σ.B ρ σ.m w g -> Sof A0 σ.B ρ (σ.fbx k ds).m w g:=by
  intro g hg
  refine ⟨hg.1,hg.2.1,fun j b hj p hp=>?_⟩
  obtain ⟨_,b0,hb0,_⟩:=hback j b hj
  exact hg.2.2 j b0 hb0 p hp
 have hb:=h.mem k _ hm
 have hg : ∀ p,ρ k = some p -> Sof A0 σ.B ρ (σ.fbx k ds).m w p.1:=by
  intro p hp
  refine ⟨(hb.lt p hp).1.elim .inr (fun h=>by have:=h.1; omega),(hb.lt p hp).2,fun j b hj q hq heq=>?_⟩
  obtain ⟨hjk,b0,hb0,_⟩:=hback j b hj
  exact hjk (h.inj j k b0 _ q p hb0 hm hq hp heq)
 have hd : ∀ g cap,ρ k = some (g,cap) -> DR (Sof A0 σ.B ρ (σ.fbx k ds).m w) w (.pl [ds]) (.slice (some ⟨g,0,none⟩) 1 1):=by
  intro g cap hρ
  obtain ⟨g',cap',hr',hB,cur,T',hc,hl⟩:=hb
  rw [hρ] at hr'
  cases hr'
  refine DR.pl [ds] (some ⟨g,0,none⟩) 1 ds.length (fun x=>cur.getD x undef) (fun p hp _=>by cases hp; exact hg _ hρ) (fun _=>by simp) (by simp) (by simp [maxLen]) (fun i e he=>?_) (fun p hp i e he j u hu=>?_) (fun i e he j u hu=>?_)
  ·cases i with
   | zero=>simp at he; rw [he]
   | succ i=>simp at he
  ·cases i with
   | succ i=>simp at he
   | zero =>
     cases hp
     simp only [List.getElem?_cons_zero,Jx] at he
     subst he
     obtain ⟨v,hv,hvr⟩:=hl.get j (.d u) (by simp [hu])
     rw [bS,db hc]
     simp only [Nat.zero_mul,Nat.zero_add]
     have hv' : cur[j]? = some v:=by simpa using hv
     simp [hv']
  ·cases i with
   | succ i=>simp at he
   | zero =>
     simp only [List.getElem?_cons_zero,Jx] at he
     subst he
     obtain ⟨v,hv,hvr⟩:=hl.get j (.d u) (by simp [hu])
     have hv' : cur[j]? = some v:=by simpa using hv
     simp only [Nat.zero_mul,Nat.zero_add,Qy,hv',Option.getD_some]
     simp only [VR] at hvr
     exact hvr.mono hS (fun _ _=>rfl)
 have hk : ∀ j,j ≠ k -> KC ρ σ.m ρ (σ.fbx k ds).m j:=fun j hj=>GT k j ds hj
 have hk0 : ¬ Hk k:=mf hk1
 refine ⟨h.below,h.hN,h.key,fun j hj=>by rw [hmne _ (hj.ne hk0)]; have:=h.norow j hj; cases hm : σ.m j with | none=>rfl | some b=>rw [hm] at this; cases b <;> simp_all [bF,Blk.map],h.hG,h.hB,h.hs,h.hs0,h.defers,h.size,fun i=>VR.fbx hm hd hS hk _ _ (h.tmps i),fun j b hj=>?_,fun j j' b b' p p' hj hj' hp hp' heq=>?_⟩
 ·obtain ⟨hjk,b0,hb0,rfl⟩:=hback j b hj
  have:=h.mem j b0 hb0
  cases b0 with
  | box cs =>
    obtain ⟨g,cap,hr',hB,cur,T',hc,hl⟩:=this
    refine ⟨g,cap,hr',hB,cur,T',hc,?_⟩
    rw [<- tV]
    exact LR.fbx hm hd hS hk _ _ hl
  | row T' sz' es' =>
    refine ⟨this.1,?_⟩
    have h3:=this.2
    cases hr' : ρ j with
    | none=>rw [hr'] at h3; exact h3
    | some p =>
      obtain ⟨g,cap⟩:=p
      rw [hr'] at h3
      obtain ⟨hB,hc1,hc2,cur,hc,hcs,hall⟩:=h3
      refine ⟨hB,hc1,hc2,cur,hc,hcs,fun i e he=>⟨(hall i e he).1,fun j u hu=>?_⟩⟩
      obtain ⟨v,hv,hd⟩:=(hall i e he).2 j u hu
      exact ⟨v,hv,hd.mono hS (fun _ _=>rfl)⟩
 ·obtain ⟨_,b0,hb0,_⟩:=hback j b hj
  obtain ⟨_,b0',hb0',_⟩:=hback j' b' hj'
  exact h.inj j j' b0 b0' p p' hb0 hb0' hp hp' heq
theorem jS {K : St -> Prop} {k : Nat} {ds : List D} (hm : σ.m k = some (.box (ds.map V.d))) (hk1 : k < 1000) (h : Lead K (σ.fbx k ds)) : Lead K σ:=
 fun A0 N w0 ρ a w hR=>h A0 N w0 ρ a w (hR.fbx hm hk1)
theorem nw {o : Oper} {K : St -> Prop} (h : Lead (vdyn P o K) σ) : vdyn P o K σ:=by
 intro A0 _ N w0 ρ a w hR hd next Q hn
 obtain ⟨_,_,hR',hv⟩:=h A0 N w0 ρ a w hR
 exact hv A0 N w0 _ a w hR' hd next Q hn
end
end
section
open Go.RowKit
def ρK (go gc : Nat) (ro : Option (Nat × Nat)) (k : Nat) : Option (Nat × Nat):=if k = 1001 then some (go,0) else if k = 1002 then ro else if k = 1003 then some (gc,0) else none
def mK (T sz f : Nat) (caps : List V) (es : List (List D)) (k : Nat) : Option Blk:=
 if k = 1001 then some (.box [.own 1002 0 es.length]) else if k = 1002 then some (.row T sz es) else if k = 1003 then some (.box [.fn f caps]) else none
def GK (go gc : Nat) (ro : Option (Nat × Nat)) (g : Nat) : Prop:=g = go \/ g = gc \/ ∃ p,ro = some p /\ g = p.1
def RK (go gc : Nat) (k : Nat) : Option (Nat × Nat):=if k = 1001 then some (go,0) else if k = 1003 then some (gc,0) else none
def SK (A : Nat -> Prop) (B go gc : Nat) (ro : Option (Nat × Nat)) (w : World) (g : Nat) : Prop:=(A g \/ B <= g) /\ g < w.heap.size /\ g ≠ go /\ g ≠ gc /\ ∀ p,ro = some p -> p.1 ≠ g
structure KIn (T sz f : Nat) (caps : List V) (A G : Nat -> Prop) (B go gc : Nat) (ro : Option (Nat × Nat)) (es : List (List D)) (w : World) : Prop where
 blk : ∀ k b,mK T sz f caps es k = some b -> BlkR (Gk G k) (Ak A k) (ρK go gc ro) (mK T sz f caps es) (SK A B go gc ro w) B w (ρK go gc ro k) b
 one : go ≠ gc
 two : ∀ p,ro = some p -> p.1 ≠ go /\ p.1 ≠ gc
def VK (P : Program) (f : FuncId) (args caps : List V) (T sz : Nat) (es : List (List D)) (post : List (List D) -> Prop) : Prop:=
 (∃ fn,P.funcs[f]? = some fn /\ fn.body.isSome = true /\ (fn.name == "runtime.NumGoroutine") = false) /\
 ∀ (w : World) (vals : List Value) (go gc : Nat) (ro : Option (Nat × Nat)) (A : Nat → Prop),
   GlobIn (gdat P) (GK go gc ro) w -> KIn T sz f caps A (GK go gc ro) w.heap.size go gc ro es w ->
   LR (ρK go gc ro) (mK T sz f caps es) (SK A w.heap.size go gc ro w) w (args ++ caps) vals ->
   Calls P f vals.toArray w fun e w'=>∃ es' ro',e = .returned (.tuple #[]) /\ Bel (GK go gc ro) w.heap.size w w' /\
    KIn T sz f caps A (GK go gc ro) w.heap.size go gc ro' es' w' /\ post es'
def St.startK (args caps : List V) (T sz f : Nat) (es : List (List D)) (h : Nat) : St:={ B:=h,hs:=h,W:=[],t:=fun i=>(args ++ caps).getD i (.tup []),m:=mK T sz f caps es }
def qh (f : Nat) (caps : List V) (T sz : Nat) (post : List (List D) -> Prop) (σ : St) : Prop:=
 ∃ es,σ.m 1001 = some (.box [.own 1002 0 es.length]) /\ σ.m 1002 = some (.row T sz es) /\ σ.m 1003 = some (.box [.fn f caps]) /\ post es
def rN (f : Nat) (caps : List V) (T sz : Nat) (post : List (List D) -> Prop) : Exit -> St -> Prop
 | .normal,σ | .ret,σ=>qh f caps T sz post σ
 | _,_=>False
section
variable {P : Program} {E : Md} {A0 : Env} [GlobC A0 P] {N : Nat} {w0 : World} {ρ : Nat -> Option (Nat × Nat)} {σ : St} {a : Act} {w : World}
theorem vH {T sz f : Nat} {caps : List V} {A G : Nat -> Prop} {R : Nat -> Option (Nat × Nat)} {L : List (Nat × List Int)} {B go gc : Nat} {ro : Option (Nat × Nat)} {es : List (List D)} {w : World} {g : Nat} (h : SK A B go gc ro w g) :
  Sof ⟨A,G,R,L⟩ B (ρK go gc ro) (mK T sz f caps es) w g:=by
 obtain ⟨h1,h2,h3,h4,h5⟩:=h
 refine ⟨h1,h2,fun k b hk p hp=>?_⟩
 unfold ρK at hp
 split at hp
 ·cases hp; exact fun e=>h3 e.symm
 ·split at hp
  ·exact h5 p hp
  ·split at hp
   ·cases hp; exact fun e=>h4 e.symm
   ·cases hp
theorem KIn.inj {T sz f : Nat} {caps : List V} {A G : Nat -> Prop} {B go gc : Nat} {ro : Option (Nat × Nat)} {es : List (List D)} {w : World} (h : KIn T sz f caps A G B go gc ro es w) :
  ∀ k k' b b' p p',mK T sz f caps es k = some b -> mK T sz f caps es k' = some b' -> ρK go gc ro k = some p -> ρK go gc ro k' = some p' -> p.1 = p'.1 -> k = k':=by
 intro k k' b b' p p' hk hk' hp hp' heq
 have hc : ∀ k b,mK T sz f caps es k = some b -> k = 1001 \/ k = 1002 \/ k = 1003:=by
  intro k b hk
  unfold mK at hk
  split at hk
  ·exact .inl (by assumption)
  ·split at hk
   ·exact .inr (.inl (by assumption))
   ·split at hk
    ·exact .inr (.inr (by assumption))
    ·cases hk
 have h1:=h.one
 have h2:=h.two
 rcases hc k b hk with rfl | rfl | rfl <;> rcases hc k' b' hk' with rfl | rfl | rfl <;> simp [ρK] at hp hp' <;> first | rfl | (exfalso; subst hp hp'; first | exact h1 heq | exact h1 heq.symm) | (exfalso; subst hp; have:=h2 _ hp'; first | exact this.1 heq.symm | exact this.2 heq.symm) | (exfalso; subst hp'; have:=h2 _ hp; first | exact this.1 heq | exact this.2 heq)
theorem VK.of (E : Md) {f : FuncId} {fn : Func} {c : Code} {args caps : List V} {T sz : Nat} {es : List (List D)} {post : List (List D) -> Prop} (sch : Nat -> Tr) (hf : P.funcs[f]? = some fn) (h : ∀ B,vwp P E sch c (rN f caps T sz post) (St.startK args caps T sz f es B))
  (hb : fn.body = some c:=by rfl) (hok : dq E fn.ntmps sch c = true:=by kernel_rfl) (hm : P.follows .mixedOrders = true:=by kernel_rfl) (hname : (fn.name == "runtime.NumGoroutine") = false:=by kernel_rfl) (hn' : Nat.ble (args ++ caps).length fn.ntmps = true:=by kernel_rfl) (hN' : Nat.ble fn.ntmps 1000 = true:=by kernel_rfl) (hr : fn.results = #[]:=by rfl) : VK P f args caps T sz es post:=by
 have hn:=Nat.le_of_ble_eq_true hn'
 have hN:=Nat.le_of_ble_eq_true hN'
 refine ⟨⟨fn,hf,by simp [hb],hname⟩,fun w vals go gc ro A hgl hin hLR=>?_⟩
 have hlen:=hLR.length
 refine calls_of_wp hf hb ?_
 have h0 : Rel ⟨A,GK go gc ro,RK go gc,gdat P⟩ fn.ntmps w (ρK go gc ro) (St.startK args caps T sz f es w.heap.size) { tmps:=vals.toArray ++ Array.replicate (fn.ntmps - vals.toArray.size) undef,defers:=[] } w:=by
  refine ⟨Bel.refl _ _ _,⟨hN,hgl⟩,fun k hk=>?_,fun k hk=>?_,by simp [St.startK],rfl,Jv _,Jv _,rfl,by simp; omega,fun i=>?_,fun k b hk=>?_,hin.inj⟩
  ·have:=hk.2
   simp [ρK,RK,this]
  ·have:=hk.2
   simp only [St.startK,mK,this,if_false]
   split
   ·rfl
   ·split <;> rfl
  ·simp only [St.startK]
   by_cases hi : i < (args ++ caps).length
   ·obtain ⟨v,hv,hd⟩:=hLR.get i (args ++ caps)[i] (Jw hi)
    have he : ({ tmps:=vals.toArray ++ Array.replicate (fn.ntmps - vals.toArray.size) undef,defers:=[] } : Act).eval (.tmp i) = v:=by
     have hi' : i < vals.length:=by omega
     simp only [Act.eval,Qy]
     rw [Array.getElem?_append_left (by simpa using hi')]
     simpa using by rw [hv]; rfl
    rw [he]
    have hg : (args ++ caps).getD i (.tup []) = (args ++ caps)[i]:=by simp only [List.getD,Jw hi,Option.getD_some]
    rw [hg]
    exact VR.mono (fun g hg=>vH hg) (fun _ _=>rfl) (fun k=>KC.refl k) _ _ hd
   ·have hg : (args ++ caps).getD i (.tup []) = .tup []:=by simp only [List.getD,List.getElem?_eq_none (Nat.le_of_not_lt hi),Option.getD_none]
    rw [hg]
    have he : ({ tmps:=vals.toArray ++ Array.replicate (fn.ntmps - vals.toArray.size) undef,defers:=[] } : Act).eval (.tmp i) = undef:=by
     have hi' : vals.length <= i:=by omega
     simp only [Act.eval,Qy]
     rw [Array.getElem?_append_right (by simpa using hi')]
     cases hx : (Array.replicate (fn.ntmps - vals.toArray.size) undef)[i - vals.toArray.size]? with
     | none=>rfl
     | some y =>
       rw [Array.getElem?_replicate] at hx
       split at hx
       ·cases hx; rfl
       ·cases hx
    rw [he]
    exact ez
  ·have:=hin.blk k b hk
   cases b with
   | box cs =>
     obtain ⟨g,cap,h1,h2,cur,T',h3,h4⟩:=this
     exact ⟨g,cap,h1,h2,cur,T',h3,LR.mono (fun g hg=>vH hg) (fun _ _=>rfl) (fun k=>KC.refl k) _ _ h4⟩
   | row T' sz' es' =>
     refine ⟨this.1,?_⟩
     have h3:=this.2
     cases hr' : ρK go gc ro k with
     | none=>rw [hr'] at h3; exact h3
     | some p =>
       obtain ⟨g,cap⟩:=p
       rw [hr'] at h3
       obtain ⟨hB,hc1,hc2,cur,hc,hcs,hall⟩:=h3
       refine ⟨hB,hc1,hc2,cur,hc,hcs,fun i e he=>⟨(hall i e he).1,fun j u hu=>?_⟩⟩
       obtain ⟨v,hv,hd⟩:=(hall i e he).2 j u hu
       exact ⟨v,hv,hd.mono (fun g hg=>vH hg) (fun _ _=>rfl)⟩
 have fin : ∀ (σ' : St) (ρ' : Nat -> Option (Nat × Nat)) (a' : Act) (w' : World),Rel ⟨A,GK go gc ro,RK go gc,gdat P⟩ fn.ntmps w ρ' σ' a' w' -> qh f caps T sz post σ' ->
   a'.defers = [] /\ (results fn a'.tmps).run P w' = .ok (.tuple #[]) w' /\ ∃ es' ro',Bel (GK go gc ro) w.heap.size w w' /\
   KIn T sz f caps A (GK go gc ro) w.heap.size go gc ro' es' w' /\ post es':=by
  intro σ' ρ' a' w' hR hK
  obtain ⟨es',m1,m2,m3,hpost⟩:=hK
  refine ⟨hR.defers,?_,es',ρ' 1002,hR.below,?_,hpost⟩
  ·haveI : GlobC ⟨A,GK go gc ro,RK go gc,gdat P⟩ P:=⟨rfl⟩
   obtain ⟨val,hrun,hV⟩:=iw (P:=P) hR fn (by simp [hr])
   simp only [hr,oneV,List.map_nil,VR] at hV
   obtain ⟨l,rfl,hl⟩:=hV
   cases l with
   | nil=>exact hrun
   | cons _ _=>simp [LR] at hl
  have k1 : ρ' 1001 = some (go,0):=hR.key 1001 ⟨by decide,by decide⟩
  have k3 : ρ' 1003 = some (gc,0):=hR.key 1003 ⟨by decide,by decide⟩
  have hB : σ'.B = w.heap.size:=hR.hB
  have hone : go ≠ gc:=hin.one
  have htwo : ∀ p,ρ' 1002 = some p -> p.1 ≠ go /\ p.1 ≠ gc:=fun p hp=>
   ⟨fun e=>by have:=hR.inj 1002 1001 _ _ p (go,0) m2 m1 hp k1 e; omega,fun e=>by have:=hR.inj 1002 1003 _ _ p (gc,0) m2 m3 hp k3 e; omega⟩
  have hS : ∀ g,Sof ⟨A,GK go gc ro,RK go gc,gdat P⟩ σ'.B ρ' σ'.m w' g -> SK A w.heap.size go gc (ρ' 1002) w' g:=by
   intro g hg
   rw [<- hB]
   exact ⟨hg.1,hg.2.1,fun e=>hg.2.2 1001 _ m1 _ k1 e.symm,fun e=>hg.2.2 1003 _ m3 _ k3 e.symm,fun p hp=>hg.2.2 1002 _ m2 p hp⟩
  have hkc : ∀ k,KC ρ' σ'.m (ρK go gc (ρ' 1002)) (mK T sz f caps es') k:=by
   intro k
   unfold KC
   by_cases e1 : k = 1001
   ·subst e1
    rw [show mK T sz f caps es' 1001 = some (.box [.own 1002 0 es'.length]) from rfl]
    exact ⟨by simp [ρK,k1],_,m1⟩
   ·by_cases e2 : k = 1002
    ·subst e2
     rw [show mK T sz f caps es' 1002 = some (.row T sz es') from rfl]
     exact ⟨by simp [ρK],_,_,m2,Jv _⟩
    ·by_cases e3 : k = 1003
     ·subst e3
      rw [show mK T sz f caps es' 1003 = some (.box [.fn f caps]) from rfl]
      exact ⟨by simp [ρK,k3],_,m3⟩
     ·rw [show mK T sz f caps es' k = none by simp [mK,e1,e2,e3]]
      trivial
  refine ⟨fun k b hk=>?_,hone,htwo⟩
  have hmk : σ'.m k = some b /\ ρK go gc (ρ' 1002) k = ρ' k:=by
   unfold mK at hk
   split at hk
   ·rename_i e; subst e; cases hk; exact ⟨m1,by simp [ρK,k1]⟩
   ·split at hk
    ·rename_i e; subst e; cases hk; exact ⟨m2,by simp [ρK]⟩
    ·split at hk
     ·rename_i e; subst e; cases hk; exact ⟨m3,by simp [ρK,k3]⟩
     ·cases hk
  rw [hmk.2]
  have:=hR.mem k b hmk.1
  cases b with
  | box cs =>
    obtain ⟨g,cap,h1,h2,cur,T',h3,h4⟩:=this
    rw [hB] at h2
    exact ⟨g,cap,h1,h2,cur,T',h3,LR.mono hS (fun _ _=>rfl) hkc _ _ h4⟩
  | row T' sz' es'' =>
    refine ⟨this.1,?_⟩
    have h3:=this.2
    cases hr' : ρ' k with
    | none=>rw [hr'] at h3; exact h3
    | some p =>
      obtain ⟨g,cap⟩:=p
      rw [hr'] at h3
      obtain ⟨hBg,hc1,hc2,cur,hc,hcs,hall⟩:=h3
      rw [hB] at hBg
      refine ⟨hBg,hc1,hc2,cur,hc,hcs,fun i e he=>⟨(hall i e he).1,fun j u hu=>?_⟩⟩
      obtain ⟨v,hv,hd⟩:=(hall i e he).2 j u hu
      exact ⟨v,hv,hd.mono hS (fun _ _=>rfl)⟩
 haveI : GlobC ⟨A,GK go gc ro,RK go gc,gdat P⟩ P:=⟨rfl⟩
 refine wp_mono (cV hm sch c _ _ _ _ _ hok h0 (h w.heap.size)) fun e a' w' he=>?_
 obtain ⟨σ',ρ',hR,hK⟩:=he
 cases e with
 | normal =>
   obtain ⟨hd,hrun,es',ro',hbel,hk,hpost⟩:=fin σ' ρ' a' w' hR hK
   exact ⟨hd,_,hrun,es',ro',rfl,hbel,hk,hpost⟩
 | ret =>
   obtain ⟨hd,hrun,es',ro',hbel,hk,hpost⟩:=fin σ' ρ' a' w' hR hK
   exact ⟨hd,_,hrun,es',ro',rfl,hbel,hk,hpost⟩
 | _=>exact hK.elim
end
end
section
open Go.RowKit
section
variable {P : Program} {E : Md} {A0 : Env} [GlobC A0 P] {N : Nat} {w0 : World} {ρ : Nat -> Option (Nat × Nat)} {σ : St} {a : Act} {w : World}
theorem Eg {P : Program} (f : FuncId) {fn : Func} (hfn : P.funcs[f]? = some fn) (hbody : fn.body.isSome = true) (hname : (fn.name == "runtime.NumGoroutine") = false) (a : Act) (w : World) (dst : Option Tmp) (t : Tmp) (caps : List Value) (ht : a.eval (.tmp t) = .func (.func f) #[] caps.toArray) (args : Array Operand) (tys : Array TypeId) (ty : TypeId) (pos : String) (af : Array Edge) (gd : Option (Nat × Bool)) :
  (execOp a.eval ⟨dst,.call ⟨.value (.tmp t),args,tys⟩,ty,pos,af,gd⟩).run P w = .ok (.enter f ((args.toList.map a.eval) ++ caps).toArray) w:=by
 have hbn : ¬ (fn.body = none):=fun hb=>by rw [hb] at hbody; cases hbody
 simp only [beq_eq_false_iff_ne,ne_eq] at hname
 simp [execOp,resolve,Deferred.ofValue,ht,invoke,callFunc,hfn,hname,hbn,Jh,Qj,Result.andThen]
def k6 : V -> Bool
 | .ptr k _ _=>k == 1001 || k == 1003
 | .d _ | .fptr _ _ _=>true
 | _=>false
def renK (ko kc : Nat) : V -> V
 | .ptr k i o=>.ptr (if k = 1001 then ko else kc) i o
 | v=>v
theorem DQ {ko kc kr : Nat} (h1 : ko ≠ kr) (h2 : kc ≠ kr) : ∀ {c : V},k6 c = true -> wipe kr (renK ko kc c) = renK ko kc c
 | .ptr k i o, _ => by
   simp only [renK]
   split <;> simp [wipe,h1,h2]
 | .d _,_=>rfl
 | .fptr _ _ _,_=>rfl
theorem rO {ko kc kr : Nat} (h1 : ko ≠ kr) (h2 : kc ≠ kr) : ∀ {l : List V},l.all k6 = true -> (l.map (renK ko kc)).map (wipe kr) = l.map (renK ko kc)
 | [],_=>rfl
 | c :: r, h => by
   simp only [List.all_cons,Jq] at h
   simp only [Qz,DQ h1 h2 h.1,rO h1 h2 h.2]
section
variable {m : Nat -> Option Blk} {S S' : Nat -> Prop} {w' : World} {ko kc go gc co cc T sz f : Nat} {ro : Option (Nat × Nat)} {caps cs1 cs2 : List V} {es : List (List D)}
theorem HX (h1 : m ko = some (.box cs1)) (h2 : ρ ko = some (go,co)) (h3 : m kc = some (.box cs2)) (h4 : ρ kc = some (gc,cc)) (hS : ∀ g,S g -> S' g) (hw : ∀ g,S g -> w'.heap[g]? = w.heap[g]?) :
  ∀ {c : V} {v : Value},k6 c = true -> VR ρ m S w (renK ko kc c) v -> VR (ρK go gc ro) (mK T sz f caps es) S' w' c v
 | .d x,v,_,h=>by simp only [renK,VR] at h ⊢; exact h.mono hS hw
 | .fptr x i o, v, _, h => by
   simp only [renK,VR] at h ⊢
   obtain ⟨a,n,c,sz,h1,h2⟩:=h
   exact ⟨a,n,c,sz,h1.mono hS hw,h2⟩
 | .ptr k i o, v, hc, h => by
   by_cases e1 : k = 1001
   ·subst e1
    simp only [renK,if_true,VR,h1] at h
    obtain ⟨rfl,g,cap,hρ,rfl⟩:=h
    rw [h2] at hρ
    cases hρ
    simp only [VR]
    rw [show mK T sz f caps es 1001 = some (.box [.own 1002 0 es.length]) from rfl]
    exact ⟨trivial,go,0,by simp [ρK],rfl⟩
   ·have e3 : k = 1003:=by simpa [k6,e1] using hc
    subst e3
    simp only [renK,if_neg e1,VR,h3] at h
    obtain ⟨rfl,g,cap,hρ,rfl⟩:=h
    rw [h4] at hρ
    cases hρ
    simp only [VR]
    rw [show mK T sz f caps es 1003 = some (.box [.fn f caps]) from rfl]
    exact ⟨trivial,gc,0,by simp [ρK],rfl⟩
theorem sI (h1 : m ko = some (.box cs1)) (h2 : ρ ko = some (go,co)) (h3 : m kc = some (.box cs2)) (h4 : ρ kc = some (gc,cc)) (hS : ∀ g,S g -> S' g) (hw : ∀ g,S g -> w'.heap[g]? = w.heap[g]?) :
  ∀ {l : List V} {vs : List Value},l.all k6 = true -> LR ρ m S w (l.map (renK ko kc)) vs -> LR (ρK go gc ro) (mK T sz f caps es) S' w' l vs
 | [],[],_,_=>by simp [LR]
 | [],_ :: _,_,h=>by simp [LR] at h
 | _ :: _,[],_,h=>by simp [LR] at h
 | c :: r, v :: vs, hc, h => by
   simp only [List.all_cons,Jq] at hc
   simp only [Qz,LR] at h ⊢
   exact ⟨HX h1 h2 h3 h4 hS hw hc.1 h.1,sI h1 h2 h3 h4 hS hw hc.2 h.2⟩
theorem CQ (h1 : m ko = some (.box cs1)) (h2 : ρ ko = some (go,co)) (h3 : m kc = some (.box cs2)) (h4 : ρ kc = some (gc,cc)) (hS : ∀ g,S g -> S' g) (hw : ∀ g,S g -> w'.heap[g]? = w.heap[g]?) :
  ∀ {c : V} {v : Value},k6 c = true -> VR (ρK go gc ro) (mK T sz f caps es) S w c v -> VR ρ m S' w' (renK ko kc c) v
 | .d x,v,_,h=>by simp only [renK,VR] at h ⊢; exact h.mono hS hw
 | .fptr x i o, v, _, h => by
   simp only [renK,VR] at h ⊢
   obtain ⟨a,n,c,sz,h1,h2⟩:=h
   exact ⟨a,n,c,sz,h1.mono hS hw,h2⟩
 | .ptr k i o, v, hc, h => by
   by_cases e1 : k = 1001
   ·subst e1
    simp only [VR] at h
    rw [show mK T sz f caps es 1001 = some (.box [.own 1002 0 es.length]) from rfl] at h
    obtain ⟨rfl,g,cap,hρ,rfl⟩:=h
    simp only [ρK,if_true,Jx,Prod.mk.injEq] at hρ
    simp only [renK,if_true,VR,h1]
    exact ⟨trivial,go,co,h2,by rw [hρ.1]⟩
   ·have e3 : k = 1003:=by simpa [k6,e1] using hc
    subst e3
    simp only [VR] at h
    rw [show mK T sz f caps es 1003 = some (.box [.fn f caps]) from rfl] at h
    obtain ⟨rfl,g,cap,hρ,rfl⟩:=h
    simp [ρK] at hρ
    simp only [renK,if_neg e1,VR,h3]
    exact ⟨trivial,gc,cc,h4,by rw [hρ.1]⟩
theorem rB (h1 : m ko = some (.box cs1)) (h2 : ρ ko = some (go,co)) (h3 : m kc = some (.box cs2)) (h4 : ρ kc = some (gc,cc)) (hS : ∀ g,S g -> S' g) (hw : ∀ g,S g -> w'.heap[g]? = w.heap[g]?) :
  ∀ {l : List V} {vs : List Value},l.all k6 = true -> LR (ρK go gc ro) (mK T sz f caps es) S w l vs -> LR ρ m S' w' (l.map (renK ko kc)) vs
 | [],[],_,_=>by simp [LR]
 | [],_ :: _,_,h=>by simp [LR] at h
 | _ :: _,[],_,h=>by simp [LR] at h
 | c :: r, v :: vs, hc, h => by
   simp only [List.all_cons,Jq] at hc
   simp only [Qz,LR] at h ⊢
   exact ⟨CQ h1 h2 h3 h4 hS hw hc.1 h.1,rB h1 h2 h3 h4 hS hw hc.2 h.2⟩
end
def St.kst (σ : St) (kr ko T sz : Nat) (es' : List (List D)) (hs' : Nat) : St:=
 { (σ.lay kr (.row T sz es')) with hs:=hs',m:=upd (σ.lay kr (.row T sz es')).m ko (some (.box [.own kr 0 es'.length])) }
theorem DI {t : Tmp} {ko kr kc T sz f : Nat} {dst : Option Tmp} {ty : TypeId} {pos : String} {af : Array Edge} {gd : Option (Nat × Bool)} {args : Array Operand} {tys : Array TypeId} {es : List (List D)} {caps : List V} {post : List (List D) -> Prop} {K : St -> Prop}
  (hko : σ.m ko = some (.box [.own kr 0 es.length])) (hkr : σ.m kr = some (.row T sz es)) (hkc : σ.m kc = some (.box [.fn f (caps.map (renK ko kc))])) (hk0 : ¬ Hk kr) (ht : σ.t t = .fn f (caps.map (renK ko kc))) (hcap : caps.all k6 = true)
  (hargs : rdL (fun _=>none) σ.m (args.toList.map σ.ev) = some (args.toList.map σ.ev)) (hVK : VK P f (args.toList.map σ.ev) caps T sz es post)
  (hK : ∀ es' hs',σ.hs <= hs' -> post es' -> lnLL es' -> es'.length <= maxLen -> (∀ i ∈ idsLL es',i < hs') -> K ((σ.kst kr ko T sz es' hs').put dst (.tup []))) :
  vdyn P ⟨dst,.call ⟨.value (.tmp t),args,tys⟩,ty,pos,af,gd⟩ K σ:=by
 intro A0 _ N w0 ρ a w h hd next Q hn
 obtain ⟨⟨fn,hfn,hbody,hname⟩,hVK⟩:=hVK
 have hne1 : ko ≠ kr:=by rintro rfl; rw [hko] at hkr; cases hkr
 have hne2 : kc ≠ kr:=by rintro rfl; rw [hkc] at hkr; cases hkr
 have hne3 : ko ≠ kc:=by rintro rfl; rw [hko] at hkc; cases hkc
 obtain ⟨go,co,hρo,hBo,curo,To,hco,hlo⟩:=h.mem ko _ hko
 obtain ⟨gc,cc,hρc,hBc,curc,Tc,hcc,hlc⟩:=h.mem kc _ hkc
 have hrow:=h.mem kr _ hkr
 have hog : go ≠ gc:=fun e=>hne3 (h.inj ko kc _ _ _ _ hko hkc hρo hρc e)
 have hrg : ∀ p,ρ kr = some p -> p.1 ≠ go /\ p.1 ≠ gc:=fun p hp=>⟨fun e=>hne1 (h.inj ko kr _ _ _ _ hko hkr hρo hp e.symm),fun e=>hne2 (h.inj kc kr _ _ _ _ hkc hkr hρc hp e.symm)⟩
 obtain ⟨A,hA⟩ : ∃ A : Nat -> Prop,A = fun g=>Sof A0 σ.B ρ σ.m w g \/ ∃ p,ρ kr = some p /\ g = p.1:=⟨_,rfl⟩
 have hSK : ∀ g,Sof A0 σ.B ρ σ.m w g -> SK A w.heap.size go gc (ρ kr) w g:=fun g hg=>
  ⟨.inl (by rw [hA]; exact .inl hg),hg.2.1,fun e=>hg.2.2 ko _ hko _ hρo e.symm,fun e=>hg.2.2 kc _ hkc _ hρc e.symm,fun p hp=>hg.2.2 kr _ hkr p hp⟩
 have hBsz : σ.B <= w.heap.size:=by rw [h.hB]; exact h.below.size
 have hin : KIn T sz f caps A (GK go gc (ρ kr)) w.heap.size go gc (ρ kr) es w:=by
  refine ⟨fun k b hk=>?_,hog,hrg⟩
  unfold mK at hk
  split at hk
  ·rename_i e; subst e; cases hk
   refine ⟨go,0,by simp [ρK],.inr ⟨by decide,.inl rfl⟩,curo,To,hco,?_⟩
   generalize curo.toList = l at hlo
   match l,hlo with
   | [v], hl =>
     simp only [LR,VR,hkr] at hl ⊢
     rw [show mK T sz f caps es 1002 = some (.row T sz es) from rfl]
     exact ⟨⟨hl.1.1,hl.1.2⟩,trivial⟩
  ·split at hk
   ·rename_i e; subst e; cases hk
    refine ⟨hrow.1,?_⟩
    have h3:=hrow.2
    rw [show ρK go gc (ρ kr) 1002 = ρ kr from rfl]
    cases hr' : ρ kr with
    | none=>rw [hr'] at h3; exact h3
    | some p =>
      obtain ⟨g,cap⟩:=p
      rw [hr'] at h3
      obtain ⟨hBg,hc1,hc2,cur,hc,hcs,hall⟩:=h3
      refine ⟨.inr ⟨⟨by decide,.inr (.inr ⟨_,rfl,rfl⟩)⟩,by decide,by rw [hA]; exact .inr ⟨_,hr',rfl⟩⟩,hc1,hc2,cur,hc,hcs,fun i e he=>⟨(hall i e he).1,fun j u hu=>?_⟩⟩
      obtain ⟨v,hv,hd⟩:=(hall i e he).2 j u hu
      rw [<- hr']
      exact ⟨v,hv,hd.mono hSK (fun _ _=>rfl)⟩
   ·split at hk
    ·rename_i e; subst e; cases hk
     refine ⟨gc,0,by simp [ρK],.inr ⟨by decide,.inr (.inl rfl)⟩,curc,Tc,hcc,?_⟩
     generalize curc.toList = l at hlc
     match l,hlc with
     | [v], hl =>
       simp only [LR,VR] at hl ⊢
       obtain ⟨⟨l',hv,hl'⟩,_⟩:=hl
       exact ⟨⟨l',hv,sI hko hρo hkc hρc hSK (fun _ _=>rfl) hcap hl'⟩,trivial⟩
    ·cases hk
 have hLa : LR (ρK go gc (ρ kr)) (mK T sz f caps es) (SK A w.heap.size go gc (ρ kr) w) w (args.toList.map σ.ev) (args.toList.map a.eval):=
  LR.fz _ _ (jW _ _ hargs) (LR.zf _ _ hargs (iz h args.toList)) fun g hg _=>hSK g hg
 have htv:=h.tmps t
 rw [ht] at htv
 simp only [VR] at htv
 obtain ⟨cl,hcl,hLcl⟩:=htv
 unfold Oper.wp
 rw [Eg f hfn hbody hname a w dst t cl hcl]
 simp only [Oper.upon]
 refine (hVK w _ go gc (ρ kr) A (h.globW fun g hg=>by
  rcases hg with rfl | rfl | ⟨p,hp,rfl⟩
  ·exact hBo.imp id And.right
  ·exact hBc.imp id And.right
  ·exact (hrow.lo p hp).imp id (fun h=>h.1.2)) hin (LR.append hLa (sI hko hρo hkc hρc hSK (fun _ _=>rfl) hcap hLcl))).mono fun e w' he=>?_
 obtain ⟨es',ro',rfl,hb,hk',hpost⟩:=he
 have hm2 : ∀ j,j ≠ ko -> (σ.kst kr ko T sz es' w'.heap.size).m j = (σ.lay kr (.row T sz es')).m j:=fun j hj=>by simp [St.kst,upd,hj]
 have hmo : (σ.kst kr ko T sz es' w'.heap.size).m ko = some (.box [.own kr 0 es'.length]):=by simp [St.kst,upd]
 have hmr : (σ.kst kr ko T sz es' w'.heap.size).m kr = some (.row T sz es'):=by rw [hm2 kr (Ne.symm hne1),bC]; rfl
 have hmne : ∀ j,j ≠ ko -> j ≠ kr -> (σ.kst kr ko T sz es' w'.heap.size).m j = (σ.m j).map (Blk.map (wipe kr)):=fun j h1 h2=>by rw [hm2 j h1,cy _ _ _ _ h2]
 obtain ⟨σ2,hσ2⟩ : ∃ σ2,σ2 = σ.kst kr ko T sz es' w'.heap.size:=⟨_,rfl⟩
 rw [<- hσ2] at hmo hmr hmne
 have hB2 : σ2.B = σ.B:=by rw [hσ2]; rfl
 have ht2 : ∀ i,σ2.t i = wipe kr (σ.t i):=fun i=>by rw [hσ2]; rfl
 have hW2 : σ2.W = σ.W:=by rw [hσ2]; rfl
 have hh2 : σ2.hs = w'.heap.size:=by rw [hσ2]; rfl
 have hmc : σ2.m kc = some (.box [.fn f (caps.map (renK ko kc))]):=by
  rw [hmne kc (Ne.symm hne3) hne2,hkc]
  simp only [Jg,Blk.map,Qz,List.map_nil,wipe,gD,rO hne1 hne2 hcap]
 have hback : ∀ j b,σ2.m j = some b -> ∃ b0,σ.m j = some b0:=by
  intro j b hj
  by_cases e1 : j = ko
  ·subst e1; exact ⟨_,hko⟩
  ·by_cases e2 : j = kr
   ·subst e2; exact ⟨_,hkr⟩
   ·rw [hmne j e1 e2] at hj
    cases hm : σ.m j with
    | none=>simp [hm] at hj
    | some b0=>exact ⟨b0,rfl⟩
 have hρ2 : ∀ j,j ≠ kr -> upd ρ kr ro' j = ρ j:=fun j hj=>by simp [upd,hj]
 have hρr : upd ρ kr ro' kr = ro':=by simp [upd]
 have hrow':=hk'.blk 1002 _ rfl
 have hro' : ∀ p,ro' = some p -> w.heap.size <= p.1 \/ ρ kr ≠ none /\ ∀ q,ρ kr = some q -> p.1 = q.1:=by
  intro p hp
  have h1:=hrow'.lo p (by simpa [ρK] using hp)
  rcases h1 with h1 | ⟨h1,h2⟩
  ·exact .inl h1
  ·refine .inr ?_
   have h4 : ∃ q,ρ kr = some q /\ p.1 = q.1:=by
    have h5:=h2.2
    rw [hA] at h5
    rcases h5 with h5 | h5
    ·rcases h1.2 with e | e | ⟨q,hq,e⟩
     ·exact absurd e.symm (h5.2.2 ko _ hko _ hρo)
     ·exact absurd e.symm (h5.2.2 kc _ hkc _ hρc)
     ·exact ⟨q,hq,e⟩
    ·exact h5
   obtain ⟨q,hq,e⟩:=h4
   exact ⟨by rw [hq]; simp,fun q' hq'=>by rw [hq] at hq'; cases hq'; exact e⟩
 have hwS : ∀ g,Sof A0 σ.B ρ σ.m w g -> w'.heap[g]? = w.heap[g]?:=by
  intro g hg
  refine hb.block g hg.2.1 ?_
  rintro (e | e | ⟨p,hp,e⟩)
  ·exact hg.2.2 ko _ hko _ hρo e.symm
  ·exact hg.2.2 kc _ hkc _ hρc e.symm
  ·exact hg.2.2 kr _ hkr p hp e.symm
 have hS : ∀ g,Sof A0 σ.B ρ σ.m w g -> Sof A0 σ2.B (upd ρ kr ro') σ2.m w' g:=by
  intro g hg
  rw [hB2]
  refine ⟨hg.1,Xq hg.2.1 hb.size,fun j b hj p hp=>?_⟩
  by_cases e : j = kr
  ·subst e
   rw [hρr] at hp
   rcases hro' p hp with h1 | ⟨h1,h2⟩
   ·have:=hg.2.1; omega
   ·cases hq : ρ j with
    | none=>exact absurd hq h1
    | some q=>rw [h2 q hq]; exact hg.2.2 j _ hkr q hq
  ·rw [hρ2 j e] at hp
   obtain ⟨b0,hb0⟩:=hback j b hj
   exact hg.2.2 j b0 hb0 p hp
 have hSK2 : ∀ g,SK A w.heap.size go gc ro' w' g -> Sof A0 σ2.B (upd ρ kr ro') σ2.m w' g:=by
  rintro g ⟨h1,h2,h3,h4,h5⟩
  have hnew : (A0.A g \/ σ.B <= g) -> (∀ j b0 p,j ≠ kr -> j ≠ ko -> j ≠ kc -> σ.m j = some b0 -> ρ j = some p -> p.1 ≠ g) -> Sof A0 σ2.B (upd ρ kr ro') σ2.m w' g:=by
   intro hlo hne
   rw [hB2]
   refine ⟨hlo,h2,fun j b hj p hp=>?_⟩
   by_cases e : j = kr
   ·subst e; rw [hρr] at hp; exact h5 p hp
   ·rw [hρ2 j e] at hp
    by_cases e1 : j = ko
    ·subst e1; rw [hρo] at hp; cases hp; exact fun e=>h3 e.symm
    ·by_cases e2 : j = kc
     ·subst e2; rw [hρc] at hp; cases hp; exact fun e=>h4 e.symm
     ·obtain ⟨b0,hb0⟩:=hback j b hj
      exact hne j b0 p e e1 e2 hb0 hp
  rcases h1 with h1 | h1
  ·rw [hA] at h1
   rcases h1 with h1 | ⟨p,hp,rfl⟩
   ·exact hS g h1
   ·refine hnew ((hrow.lo p hp).elim .inr fun h=>.inl h.2.2) fun j b0 q e _ _ hb0 hq he=>e (h.inj j kr _ _ q p hb0 hkr hq hp he)
  ·exact hnew (.inr (by omega)) fun j b0 p _ _ _ hb0 hp=>by have:=((h.mem j b0 hb0).lt p hp).2; omega
 have hKC : ∀ j,j ≠ kr -> KC ρ σ.m (upd ρ kr ro') σ2.m j:=by
  intro j hj
  unfold KC
  by_cases e1 : j = ko
  ·subst e1; rw [hmo]; exact ⟨hρ2 j hj,_,hko⟩
  ·rw [hmne j e1 hj]
   cases hm : σ.m j with
   | none=>trivial
   | some b0 =>
     cases b0 with
     | box cs=>exact ⟨hρ2 j hj,cs,rfl⟩
     | row T sz es=>exact ⟨hρ2 j hj,T,es,rfl,Jv _⟩
 have hold : ∀ j b0 p,j ≠ kr -> j ≠ ko -> j ≠ kc -> σ.m j = some b0 -> ρ j = some p -> w'.heap[p.1]? = w.heap[p.1]?:=by
  intro j b0 p e1 e2 e3 hj hp
  refine hb.block p.1 ((h.mem j b0 hj).lt p hp).2 ?_
  rintro (e | e | ⟨q,hq,e⟩)
  ·exact e2 (h.inj j ko _ _ p _ hj hko hp hρo e)
  ·exact e3 (h.inj j kc _ _ p _ hj hkc hp hρc e)
  ·exact e1 (h.inj j kr _ _ p q hj hkr hp hq e)
 have hGo : A0.G go \/ w0.heap.size <= go:=by rw [<- h.hB]; exact hBo.elim .inr fun h=>.inl h.2
 have hGc : A0.G gc \/ w0.heap.size <= gc:=by rw [<- h.hB]; exact hBc.elim .inr fun h=>.inl h.2
 have hGr : ∀ p,ρ kr = some p -> A0.G p.1 \/ w0.heap.size <= p.1:=fun p hp=>by rw [<- h.hB]; exact (hrow.lo p hp).elim .inr fun h=>.inl h.1.2
 have hbel : Bel A0.G w0.heap.size w w':=by
  refine ⟨hb.os,hb.tape,hb.output,hb.size,fun k hk hG=>hb.block k (Xq hk h.below.size) ?_,fun k hk=>hb.shape k (Xq hk h.below.size)⟩
  rintro (rfl | rfl | ⟨q,hq,rfl⟩)
  ·rcases hGo with h1 | h1
   ·exact hG h1
   ·omega
  ·rcases hGc with h1 | h1
   ·exact hG h1
   ·omega
  ·rcases hGr q hq with h1 | h1
   ·exact hG h1
   ·omega
 have hR : Rel A0 N w0 (upd ρ kr ro') σ2 a w':=by
  refine ⟨h.below.trans hbel,h.hN,fun j hj=>by rw [hρ2 j (hj.ne hk0)]; exact h.key j hj,fun j hj=>?_,by rw [hW2]; exact h.hG,by rw [hB2]; exact h.hB,by rw [hh2]; exact Jv _,by rw [hB2,hh2]; exact Zy hBsz hb.size,h.defers,h.size,
   fun i=>by rw [ht2]; exact VR.wipe kr hS hwS hKC _ _ (h.tmps i),fun j b hj=>?_,fun j j' b b' p p' hj hj' hp hp' heq=>?_⟩
  ·by_cases e1 : j = ko
   ·subst e1; rw [hmo]; rfl
   ·rw [hmne j e1 (hj.ne hk0)]
    have:=h.norow j hj
    cases hm : σ.m j with
    | none=>rfl
    | some b=>rw [hm] at this; cases b <;> simp_all [bF,Blk.map]
  ·by_cases e1 : j = ko
   ·subst e1
    rw [hmo] at hj
    cases hj
    obtain ⟨g,cap,hg,_,cur,T',hcur,hl⟩:=hk'.blk 1001 _ rfl
    simp only [ρK,if_true,Jx,Prod.mk.injEq] at hg
    obtain ⟨rfl,rfl⟩:=hg
    rw [hρ2 j hne1]
    refine ⟨go,co,hρo,by rw [hB2]; exact hBo,cur,T',hcur,?_⟩
    generalize cur.toList = l at hl
    match l,hl with
    | [v], hl =>
      simp only [LR,VR,hmr,hρr] at hl ⊢
      rw [show mK T sz f caps es' 1002 = some (.row T sz es') from rfl] at hl
      exact ⟨⟨hl.1.1,hl.1.2⟩,trivial⟩
   ·by_cases e2 : j = kr
    ·subst e2
     rw [hmr] at hj
     cases hj
     rw [hρr]
     refine ⟨hrow.1,?_⟩
     have h3:=hrow'.2
     rw [show ρK go gc ro' 1002 = ro' from rfl] at h3
     cases hr' : ro' with
     | none=>rw [hr'] at h3; exact h3
     | some p =>
       obtain ⟨g,cap⟩:=p
       subst hr'
       obtain ⟨_,hc1,hc2,cur,hc,hcs,hall⟩:=h3
       refine ⟨?_,hc1,hc2,cur,hc,hcs,fun i e he=>⟨(hall i e he).1,fun j u hu=>?_⟩⟩
       ·rw [hB2]
        rcases hro' (g,cap) rfl with h1 | ⟨h1,h2⟩
        ·exact .inl (Zy hBsz h1)
        ·cases hq : ρ j with
         | none=>exact absurd hq h1
         | some q =>
           have h4:=hrow.lo q hq
           rw [<- h2 q hq] at h4
           exact h4
       ·obtain ⟨v,hv,hd⟩:=(hall i e he).2 j u hu
        exact ⟨v,hv,hd.mono hSK2 (fun _ _=>rfl)⟩
    ·by_cases e3 : j = kc
     ·subst e3
      rw [hmc] at hj
      cases hj
      obtain ⟨g,cap,hg,_,cur,T',hcur,hl⟩:=hk'.blk 1003 _ rfl
      simp [ρK] at hg
      obtain ⟨rfl,rfl⟩:=hg
      rw [hρ2 j hne2]
      refine ⟨gc,cc,hρc,by rw [hB2]; exact hBc,cur,T',hcur,?_⟩
      generalize cur.toList = l at hl
      match l,hl with
      | [v], hl =>
        simp only [LR,VR] at hl ⊢
        obtain ⟨⟨l',hv,hl'⟩,_⟩:=hl
        exact ⟨⟨l',hv,rB hmo ((hρ2 ko hne1).trans hρo) hmc ((hρ2 j hne2).trans hρc) hSK2 (fun _ _=>rfl) hcap hl'⟩,trivial⟩
     ·rw [hmne j e1 e2] at hj
      rw [hρ2 j e2]
      cases hm : σ.m j with
      | none=>simp [hm] at hj
      | some b0 =>
        simp only [hm,Jg,Jx] at hj
        subst hj
        have:=h.mem j b0 hm
        rw [hB2]
        rw [hB2] at hS
        cases b0 with
        | box cs =>
          obtain ⟨g,cap,hr',hB,cur,T',hc,hl⟩:=this
          refine ⟨g,cap,hr',hB,cur,T',(hold j _ (g,cap) e2 e1 e3 hm hr').trans hc,?_⟩
          rw [<- gD]
          exact LR.wipe kr hS hwS hKC _ _ hl
        | row T' sz' es'' =>
          refine ⟨this.1,?_⟩
          have h3:=this.2
          cases hr' : ρ j with
          | none=>rw [hr'] at h3; exact h3
          | some p =>
            obtain ⟨g,cap⟩:=p
            rw [hr'] at h3
            obtain ⟨hB,hc1,hc2,cur,hc,hcs,hall⟩:=h3
            refine ⟨hB,hc1,hc2,cur,(hold j _ (g,cap) e2 e1 e3 hm hr').trans hc,hcs,fun i e he=>⟨(hall i e he).1,fun n u hu=>?_⟩⟩
            obtain ⟨v,hv,hd⟩:=(hall i e he).2 n u hu
            exact ⟨v,hv,hd.mono hS hwS⟩
  ·have cross : ∀ j b p pk,σ2.m j = some b -> ρ j = some p -> j ≠ kr -> ro' = some pk -> p.1 = pk.1 -> False:=by
    intro j b p pk hj hp hjk hrk heq
    obtain ⟨b0,hb0⟩:=hback j b hj
    rcases hro' pk hrk with h1 | ⟨h1,h2⟩
    ·have:=((h.mem j b0 hb0).lt p hp).2; omega
    ·cases hq : ρ kr with
     | none=>exact absurd hq h1
     | some q=>exact hjk (h.inj j kr _ _ p q hb0 hkr hp hq (heq.trans (h2 q hq)))
   by_cases e : j = kr
   ·by_cases e' : j' = kr
    ·rw [e,e']
    ·subst e
     rw [hρr] at hp
     rw [hρ2 j' e'] at hp'
     exact (cross j' b' p' p hj' hp' e' hp heq.symm).elim
   ·by_cases e' : j' = kr
    ·subst e'
     rw [hρr] at hp'
     rw [hρ2 j e] at hp
     exact (cross j b p p' hj hp e hp' heq).elim
    ·rw [hρ2 j e] at hp
     rw [hρ2 j' e'] at hp'
     obtain ⟨b0,hb0⟩:=hback j b hj
     obtain ⟨b0',hb0'⟩:=hback j' b' hj'
     exact h.inj j j' _ _ p p' hb0 hb0' hp hp' heq
 have hput:=hR.put dst hd (v:=.tup []) (val:=.tuple #[]) (by simp only [VR]; exact ⟨[],rfl,by simp [LR]⟩)
 have hrowln : lnLL es' /\ es'.length <= maxLen /\ ∀ i ∈ idsLL es',i < w'.heap.size:=by
  have h3:=hrow'.2
  rw [show ρK go gc ro' 1002 = ro' from rfl] at h3
  cases hr' : ro' with
  | none=>rw [hr'] at h3; subst h3; simp [lnLL,idsLL]
  | some p =>
    obtain ⟨g,cap⟩:=p
    rw [hr'] at h3
    obtain ⟨_,hc1,hc2,cur,hc,hcs,hall⟩:=h3
    have hdr : ∀ e ∈ es',∀ u ∈ e,∃ v,DR (SK A w.heap.size go gc (some (g,cap)) w') w' u v:=by
     intro e he u hu
     obtain ⟨i,hi⟩:=List.mem_iff_getElem?.1 he
     obtain ⟨j,hj⟩:=List.mem_iff_getElem?.1 hu
     obtain ⟨v,_,hv⟩:=(hall i e hi).2 j u hj
     exact ⟨v,hv⟩
    refine ⟨mn fun e he u hu=>?_,by omega,fun i hi=>?_⟩
    ·obtain ⟨v,hv⟩:=hdr e he u hu
     exact hv.ln
    ·obtain ⟨e,he,hi⟩:=jV hi
     obtain ⟨u,hu,hi⟩:=ow hi
     obtain ⟨v,hv⟩:=hdr e he u hu
     exact (hv.ids i hi).2.1
 rw [hσ2] at hput
 exact hn _ _ _ w' hput (hK es' w'.heap.size (Zy h.hs hb.size) hpost hrowln.1 hrowln.2.1 hrowln.2.2)
end
end
theorem jG.lead {X : Type} {Inv : X -> Nat -> Prop} {S : X -> List (Nat × V)} {M : X -> List (Nat × Option Blk)} {μ : X -> Nat} {B : Nat} {W : List Nat} {hs n : Nat} {K : St -> Prop} {σ : St} (h : Lead K σ) (hk : ∀ σ',K σ' -> jG Inv S M μ B W hs n σ') : jG Inv S M μ B W hs n σ:=h.bind hk
theorem anyQ {P : Program} {E : Md} {sch : Nat -> Tr} {c : Code} {X : Type} {Inv : X -> Prop} {S : X -> List (Nat × V)} {M : X -> List (Nat × Option Blk)} {μ : X -> Nat} {B : Nat} {W : List Nat} {hs n : Nat} {Q : Exit -> St -> Prop} {σ : St}
 (h : ∀ Q,vwp P E sch c (qK Inv S M μ B W hs n Q) σ) : vwp P E sch c (qK Inv S M μ B W hs n Q) σ:=h Q
theorem dx {P : Program} {E : Md} {sch : Nat -> Tr} {c : Code} {X : Type} {Inv : X -> Nat -> Prop} {S : X -> List (Nat × V)} {M : X -> List (Nat × Option Blk)} {μ : X -> Nat} {B : Nat} {W : List Nat} {hs n : Nat} {Q : Exit -> St -> Prop} {σ : St}
 (h : ∀ Q,vwp P E sch c (lB Inv S M μ B W hs n Q) σ) : vwp P E sch c (lB Inv S M μ B W hs n Q) σ:=h Q
theorem ak {α : Type} {l : List α} {i : Nat} (d : α) (h : i < l.length) : l.getD i d = l[i]:=by simp [List.getD,h]
theorem gn : ∀ (a b : List Int),cmpL b a = - cmpL a b
 | [],[]=>rfl
 | [],_ :: _=>rfl
 | _ :: _,[]=>rfl
 | x :: a, y :: b => by
   simp only [cmpL]
   by_cases h1 : x < y
   ·have h2 : ¬ y < x:=by omega
    simp [h1,h2]
   ·by_cases h2 : y < x
    ·simp [h1,h2]
    ·simp [h1,h2,gn a b]
theorem dA : ∀ {a b c : List Int},cmpL a b < 0 -> cmpL b c < 0 -> cmpL a c < 0
 | [],[],c,h,_=>by simp [cmpL] at h
 | [],_ :: _,[],_,h=>by simp [cmpL] at h
 | [],_ :: _,_ :: _,_,_=>by simp [cmpL]
 | _ :: _,[],_,h,_=>by simp [cmpL] at h
 | _ :: _,_ :: _,[],_,h=>by simp [cmpL] at h
 | x :: a, y :: b, z :: c, h1, h2 => by
   simp only [cmpL] at h1 h2 ⊢
   by_cases e1 : x < y
   ·by_cases e2 : y < z
    ·simp [show x < z by omega]
    ·by_cases e3 : z < y
     ·simp [e2,e3] at h2
     ·simp [show x < z by omega]
   ·by_cases e1' : y < x
    ·simp [e1,e1'] at h1
    ·simp only [e1,e1',if_false] at h1
     have : x = y:=by omega
     subst this
     by_cases e2 : x < z
     ·simp [e2]
     ·by_cases e3 : z < x
      ·simp [e2,e3] at h2
      ·simp only [e2,e3,if_false] at h2 ⊢
       exact dA h1 h2
theorem cK (a : List Int) : cmpL a a = 0:=(dj a a).2 rfl
theorem tK (a b : List Int) : cmpL a b < 0 \/ a = b \/ cmpL b a < 0:=by
 have h1:=gn a b
 have h2:=dj a b
 by_cases h : cmpL a b = 0
 ·exact .inr (.inl (h2.1 h))
 ·omega
abbrev Srt (l : List (List Int)) : Prop:=l.Pairwise fun a b=>cmpL a b < 0
theorem oC : ∀ {l l' : List (List Int)},Srt l -> Srt l' -> (∀ x,x ∈ l ↔ x ∈ l') -> l = l'
 | [],[],_,_,_=>rfl
 | [],b :: s,_,_,h=>by have:=(h b).2 (by simp); simp at this
 | a :: r,[],_,_,h=>by have:=(h a).1 (by simp); simp at this
 | a :: r, b :: s, h1, h2, h => by
   simp only [Srt,List.pairwise_cons] at h1 h2
   have e : a = b:=by
    rcases Zz.1 ((h a).1 (by simp)) with e | e
    ·exact e
    ·rcases Zz.1 ((h b).2 (by simp)) with e' | e'
     ·exact e'.symm
     ·have:=dA (h1.1 b e') (h2.1 a e)
      simp [cK] at this
   subst e
   rw [oC h1.2 h2.2 fun x=>⟨fun hx=>by
    rcases Zz.1 ((h x).1 (by simp [hx])) with e | e
    ·subst e; have:=h1.1 x hx; simp [cK] at this
    ·exact e,fun hx=>by
    rcases Zz.1 ((h x).2 (by simp [hx])) with e | e
    ·subst e; have:=h2.1 x hx; simp [cK] at this
    ·exact e⟩]
theorem sN {l : List (List Int)} (h : Srt l) {i j : Nat} (hij : i < j) (hj : j < l.length) : cmpL (l[i]'(by omega)) l[j] < 0:=List.pairwise_iff_getElem.1 h i j (by omega) hj hij
theorem rY {l : List (List Int)} {x : List Int} (h : Srt l) : ∀ (n lo hi : Nat),hi - lo <= n -> lo <= hi -> hi <= l.length ->
  (∀ j (hj : j < l.length),j < lo -> cmpL l[j] x < 0) -> (∀ j (hj : j < l.length),hi <= j -> ¬ cmpL l[j] x < 0) ->
  (∀ j (hj : j < l.length),j < bs l x lo hi -> cmpL l[j] x < 0) /\ (∀ j (hj : j < l.length),bs l x lo hi <= j -> ¬ cmpL l[j] x < 0)
 | 0, lo, hi, hn, hle, hh, h1, h2 => by
   rw [tz (by omega)]
   exact ⟨h1,fun j hj hl=>h2 j hj (by omega)⟩
 | n + 1, lo, hi, hn, hle, hh, h1, h2 => by
   by_cases hlt : lo < hi
   ·rw [AI hlt]
    have hm : (lo + hi) / 2 < l.length:=by omega
    rw [ak _ hm]
    split
    ·rename_i hc
     refine rY h n _ hi (by omega) (by omega) hh (fun j hj hl=>?_) h2
     by_cases e : j = (lo + hi) / 2
     ·subst e; exact hc
     ·exact dA (sN h (by omega) hm) hc
    ·rename_i hc
     refine rY h n lo _ (by omega) (by omega) (by omega) h1 fun j hj hl hj'=>?_
     by_cases e : j = (lo + hi) / 2
     ·subst e; exact hc hj'
     ·exact hc (dA (sN h (by omega) hj) hj')
   ·rw [tz hlt]
    exact ⟨h1,fun j hj hl=>h2 j hj (by omega)⟩
theorem nT {l : List (List Int)} {x : List Int} (h : Srt l) : (∀ j (hj : j < l.length),j < dt l x -> cmpL l[j] x < 0) /\ (∀ j (hj : j < l.length),dt l x <= j -> ¬ cmpL l[j] x < 0):=
 rY h l.length 0 l.length (by omega) (by omega) (by omega) (fun _ _ h=>by omega) (fun _ _ h=>by omega)
theorem lO {l : List (List Int)} {x : List Int} (h : Srt l) : gO l x = true ↔ x ∈ l:=by
 obtain ⟨h1,h2⟩:=nT (x:=x) h
 constructor
 ·intro hb
  simp only [gO,Jq,Xj,beq_iff_eq] at hb
  rw [ak _ hb.1,dj] at hb
  exact hb.2 ▸ Jy _
 ·intro hm
  obtain ⟨j,hj,rfl⟩:=List.mem_iff_getElem.1 hm
  have hk : dt l l[j] <= j:=by
   apply Nat.le_of_not_lt; intro hc
   have:=h1 j hj hc; simp [cK] at this
  have hk2 : dt l l[j] = j:=by
   apply Nat.le_antisymm hk; apply Nat.le_of_not_lt; intro hc
   exact h2 _ (by omega) (Jv _) (sN h hc hj)
  simp only [gO,hk2,Jq,Xj,beq_iff_eq]
  exact ⟨hj,by rw [ak _ hj,cK]⟩
def insR (l : List (List Int)) (x : List Int) : List (List Int):=if gO l x then l else l.take (dt l x) ++ x :: l.drop (dt l x)
theorem BS {l : List (List Int)} {x : List Int} (h : Srt l) (y : List Int) : y ∈ insR l x ↔ y ∈ l \/ y = x:=by
 simp only [insR]
 split
 ·rename_i hb
  have:=(lO h).1 hb
  exact ⟨.inl,fun hy=>hy.elim id fun e=>e ▸ this⟩
 ·simp only [Qq,Zz]
  have e : (y ∈ l) ↔ (y ∈ l.take (dt l x) \/ y ∈ l.drop (dt l x)):=by
   rw [<- Qq,List.take_append_drop]
  rw [e]
  constructor
  ·rintro (h | h | h) <;> simp [h]
  ·rintro ((h | h) | h) <;> simp [h]
theorem BT {l : List (List Int)} {x : List Int} (h : Srt l) : Srt (insR l x):=by
 simp only [insR]
 split
 ·exact h
 ·rename_i hb
  obtain ⟨h1,h2⟩:=nT (x:=x) h
  have hne : x ∉ l:=fun hm=>hb ((lO h).2 hm)
  have hA : ∀ y ∈ l.take (dt l x),cmpL y x < 0:=fun y hy=>by
   obtain ⟨j,hj,rfl⟩:=List.mem_iff_getElem.1 hy
   rw [Zq] at hj
   rw [List.getElem_take]
   exact h1 j (by omega) (by omega)
  have hB : ∀ y ∈ l.drop (dt l x),cmpL x y < 0:=fun y hy=>by
   have hm:=List.mem_of_mem_drop hy
   obtain ⟨j,hj,rfl⟩:=List.mem_iff_getElem.1 hy
   rw [List.length_drop] at hj
   rw [List.getElem_drop] at hm ⊢
   rcases tK l[dt l x + j] x with h' | h' | h'
   ·exact absurd h' (h2 _ (by omega) (by omega))
   ·exact absurd (h' ▸ hm) hne
   ·exact h'
  refine List.pairwise_append.2 ⟨h.sublist (List.take_sublist _ _),List.pairwise_cons.2 ⟨hB,h.sublist (List.drop_sublist _ _)⟩,fun a ha b hb=>?_⟩
  rcases Zz.1 hb with rfl | hb
  ·exact hA a ha
  ·exact dA (hA a ha) (hB b hb)
theorem BR (l : List (List Int)) (x : List Int) : l.length <= (insR l x).length /\ (insR l x).length <= l.length + 1:=by
 have:=zO l x
 simp only [insR]
 split
 ·omega
 ·simp only [Qw,Zq,Qv,List.length_drop]; omega
def srtU (rows : List (List Int)) : List (List Int):=rows.foldl insR []
theorem mc : ∀ (rows l : List (List Int)),Srt l -> Srt (rows.foldl insR l) /\ (∀ x,x ∈ rows.foldl insR l ↔ x ∈ l \/ x ∈ rows) /\ (rows.foldl insR l).length <= l.length + rows.length
 | [],l,h=>⟨h,by simp,by simp⟩
 | r :: rows, l, h => by
   obtain ⟨h1,h2,h3⟩:=mc rows (insR l r) (BT h)
   have:=BR l r
   refine ⟨h1,fun x=>?_,by simp only [List.foldl_cons,Qv]; omega⟩
   simp only [List.foldl_cons,h2,BS h,Zz,or_assoc]
theorem gS (rows : List (List Int)) : Srt (srtU rows):=(mc rows [] .nil).1
theorem bZ (rows : List (List Int)) (x : List Int) : x ∈ srtU rows ↔ x ∈ rows:=by simpa [srtU] using (mc rows [] .nil).2.1 x
theorem dB (rows : List (List Int)) : (srtU rows).length <= rows.length:=by simpa [srtU] using (mc rows [] .nil).2.2
theorem nv {l rows : List (List Int)} (h : Srt l) (hm : ∀ x,x ∈ l ↔ x ∈ rows) : l = srtU rows:=oC h (gS rows) fun x=>by rw [hm,bZ]
theorem yw {l : List (List Int)} (h : Srt l) : srtU l = l:=(nv h fun _=>Iff.rfl).symm
theorem iu {α : Type} (l : List α) : l = [] \/ ∃ o z,l = o ++ [z]:=by
 rcases List.eq_nil_or_concat l with h | ⟨o,z,h⟩
 ·exact .inl h
 ·exact .inr ⟨o,z,by rw [h,List.concat_eq_append]⟩
theorem yW {a b : List Int} (h : cmpL a b < 0) : ¬ cmpL b a < 0:=by have:=gn a b; omega
structure MI (rows a b out : List (List Int)) : Prop where
 sa : Srt a
 sb : Srt b
 so : Srt out
 le : ∀ y ∈ out,∀ z,z ∈ a \/ z ∈ b -> ¬ cmpL z y < 0
 mem : ∀ x,(x ∈ out \/ x ∈ a \/ x ∈ b) ↔ x ∈ rows
 len : out.length + a.length + b.length <= rows.length
theorem MI.start (rows : List (List Int)) (m : Nat) : MI rows (srtU (rows.take m)) (srtU (rows.drop m)) []:=by
 refine ⟨gS _,gS _,.nil,by simp,fun x=>?_,?_⟩
 ·rw [bZ,bZ,<- Qq,List.take_append_drop]; simp
 ·have h1:=dB (rows.take m)
  have h2:=dB (rows.drop m)
  rw [Zq] at h1
  rw [List.length_drop] at h2
  simp only [List.length_nil]; omega
theorem MI.swap {rows a b out : List (List Int)} (h : MI rows a b out) : MI rows b a out:=
 ⟨h.sb,h.sa,h.so,fun y hy z hz=>h.le y hy z hz.symm,fun x=>by rw [<- h.mem x,or_comm (a:=x ∈ a)],by have:=h.len; omega⟩
theorem MI.done {rows out : List (List Int)} (h : MI rows [] [] out) : out = srtU rows:=nv h.so fun x=>by rw [<- h.mem x]; simp
theorem MI.left {rows a b out : List (List Int)} {x : List Int} (h : MI rows (x :: a) b out) (hb : ∀ z ∈ b,¬ cmpL z x < 0) :
  (x ∈ out -> MI rows a b out) /\ (x ∉ out -> MI rows a b (out ++ [x])):=by
 have ha:=List.pairwise_cons.1 h.sa
 have hl:=h.len
 simp only [Qv] at hl
 constructor
 ·intro hx
  refine ⟨ha.2,h.sb,h.so,fun y hy z hz=>h.le y hy z (hz.imp (fun hz=>by simp [hz]) id),fun y=>?_,by omega⟩
  rw [<- h.mem y]
  constructor
  ·rintro (h1 | h1 | h1) <;> simp [h1]
  ·rintro (h1 | h1 | h1)
   ·exact .inl h1
   ·rcases Zz.1 h1 with rfl | h1
    ·exact .inl hx
    ·exact .inr (.inl h1)
   ·exact .inr (.inr h1)
 ·intro hx
  refine ⟨ha.2,h.sb,List.pairwise_append.2 ⟨h.so,by simp,fun y hy z hz=>?_⟩,fun y hy z hz=>?_,fun y=>?_,by simp only [Qw,Qv,List.length_nil]; omega⟩
  ·rw [Qg.1 hz]
   rcases tK y x with h1 | h1 | h1
   ·exact h1
   ·exact absurd (h1 ▸ hy) hx
   ·exact absurd h1 (h.le y hy x (by simp))
  ·rcases Qq.1 hy with hy | hy
   ·exact h.le y hy z (hz.imp (fun hz=>by simp [hz]) id)
   ·rw [Qg.1 hy]
    rcases hz with hz | hz
    ·exact yW (ha.1 z hz)
    ·exact hb z hz
  ·rw [<- h.mem y]
   simp only [Qq,Zz,List.not_mem_nil,or_false]
   constructor
   ·rintro ((h1 | h1) | h1 | h1) <;> simp [h1]
   ·rintro (h1 | (h1 | h1) | h1) <;> simp [h1]
theorem MI.last {rows a b out : List (List Int)} {x z : List Int} (h : MI rows (x :: a) b (out ++ [z])) : x ∈ out ++ [z] ↔ z = x:=by
 constructor
 ·intro hx
  rcases Qq.1 hx with hx | hx
  ·have:=(List.pairwise_append.1 h.so).2.2 x hx z (by simp)
   exact absurd this (h.le z (by simp) x (by simp))
  ·exact (Qg.1 hx).symm
 ·rintro rfl; simp
theorem MI.hl {rows a b out : List (List Int)} {x y : List Int} (h : MI rows (x :: a) (y :: b) out) (hc : ¬ 0 < cmpL x y) : ∀ z ∈ y :: b,¬ cmpL z x < 0:=by
 have h1:=gn x y
 intro z hz
 rcases Zz.1 hz with rfl | hz
 ·omega
 ·intro h2
  have:=dA ((List.pairwise_cons.1 h.sb).1 z hz) h2
  omega
theorem MI.hr {rows a b out : List (List Int)} {x y : List Int} (h : MI rows (x :: a) (y :: b) out) (hc : 0 < cmpL x y) : ∀ z ∈ x :: a,¬ cmpL z y < 0:=
 h.swap.hl (by have:=gn x y; omega)
theorem wH {ar : Int} {l : List (List Int)} (h : aL ar l = true) : Srt l:=by
 simp only [aL,Jq,Jk,Zg] at h
 have key : ∀ n i,i + n + 1 < l.length -> cmpL (l.getD i []) (l.getD (i + n + 1) []) < 0:=by
  intro n
  induction n with
  | zero =>
    intro i hi
    have:=h.2 (i + 1) (by omega)
    simp only [dU,Jq,Xx,Xj] at this
    simpa using this.2
  | succ n ih =>
    intro i hi
    have h1:=ih i (by omega)
    have:=h.2 (i + n + 1 + 1) (by omega)
    simp only [dU,Jq,Xx,Xj] at this
    have h2 : cmpL (l.getD (i + n + 1) []) (l.getD (i + n + 1 + 1) []) < 0:=by simpa using this.2
    exact dA h1 h2
 refine List.pairwise_iff_getElem.2 fun i j hi hj hij=>?_
 have:=key (j - i - 1) i (by omega)
 rw [show i + (j - i - 1) + 1 = j by omega,ak _ hi,ak _ hj] at this
 exact this
theorem bK {ar : Int} {l : List (List Int)} (h : aL ar l = true) {x : List Int} (hx : x ∈ l) : (x.length : Int) = ar /\ aZ x = true:=by
 simp only [aL,Jq,Jk,Zg] at h
 obtain ⟨i,hi,rfl⟩:=List.mem_iff_getElem.1 hx
 have:=h.2 i hi
 simp only [dU,Jq,Xj,ak _ hi] at this
 exact this.1
theorem rC {ar : Int} {l : List (List Int)} (hr : inR ar 0 5 = true) (hs : Srt l) (hm : ∀ x ∈ l,(x.length : Int) = ar /\ aZ x = true) : aL ar l = decide (l.length <= 4000):=by
 simp only [aL,hr,Bool.true_and]
 suffices h : ((List.range l.length).all (dU ar l)) = true by rw [h,Bool.and_true]
 simp only [Jk,Zg]
 intro i hi
 have h1:=hm _ (Jy hi)
 simp only [dU,Jq,Xj,ak _ hi,Xx,beq_iff_eq]
 refine ⟨h1,?_⟩
 by_cases e : i = 0
 ·exact .inl e
 ·right
  rw [ak _ (by omega)]
  exact sN hs (by omega) hi
def newB (ar : Int) (rows : List (List Int)) : Bool:=rows.all (fun r=>decide ((r.length : Int) = ar) && aZ r) && aL ar (srtU rows)
def newR (ar : Int) (rows : List (List Int)) : bE:=if newB ar rows then ⟨ar,srtU rows⟩ else ⟨0,[]⟩
theorem ov {ar : Int} {rows : List (List Int)} (hr : inR ar 0 5 = true) (hm : ∀ x ∈ rows,(x.length : Int) = ar /\ aZ x = true) : newB ar rows = decide ((srtU rows).length <= 4000):=by
 have h : rows.all (fun r=>decide ((r.length : Int) = ar) && aZ r) = true:=by
  simp only [Jk,Jq,Xj]; exact hm
 rw [newB,h,Bool.true_and]
 exact rC hr (gS rows) fun x hx=>hm x ((bZ rows x).1 hx)
theorem pY {ar : Int} {l : List (List Int)} (h : aL ar l = true) : inR ar 0 5 = true:=by
 simp only [aL,Jq] at h; exact h.1.1
def bp (cols row : List Int) : List Int:=cols.map fun c=>row.getD c.toNat 0
def eA (ar : Int) (cols : List Int) : Bool:=decide (cols.length <= 5) && cols.all fun c=>inR c 0 (IntKind.i64.wrap (ar - 1))
theorem dp (cols row : List Int) : (bp cols row).length = cols.length:=by simp [bp]
theorem Co {cols row : List Int} (h : aZ row = true) (hc : ∀ c ∈ cols,0 <= c /\ c < row.length) : aZ (bp cols row) = true:=by
 simp only [aZ,bp,Jk,Xz] at h ⊢
 rintro v ⟨c,hcm,rfl⟩
 have h1:=hc c hcm
 have h2 : c.toNat < row.length:=by omega
 rw [ak _ h2]
 exact h _ (Jy h2)
theorem pM {cols row : List Int} {i : Nat} (h : i < cols.length) (hc : ∀ c ∈ cols,0 <= c /\ c < row.length) :
  bp (cols.take (i + 1)) row = bp (cols.take i) row ++ [row[cols[i].toNat]'(by have:=hc _ (Jy h); omega)]:=by
 have h1:=hc _ (Jy h)
 rw [Jz h,bp,Zj]
 simp only [bp,Qz,List.map_nil]
 rw [ak _ (by omega)]
theorem xJ {α : Type} {c : α -> List D} {l l' : List α} (h : l'.Sublist l) : (idsLL (l'.map c)).Sublist (idsLL (l.map c)):=by
 induction h with
 | slnil=>simp
 | cons a _ ih=>simp only [Qz,idsLL]; exact ih.trans (List.sublist_append_right _ _)
 | cons_cons a _ ih=>simp only [Qz,idsLL]; exact (List.Sublist.refl _).append ih
theorem cutT {P : Program} {E : Md} {ops : Array Oper} {tr : Tr} {K : St -> Prop} {B hs0 : Nat} {W : List Nat} {t0 : Nat -> V} {m0 : Nat -> Option Blk} {X : Type} (Inv : X -> Nat -> Prop) (S : X -> List (Nat × V)) (M : X -> List (Nat × Option Blk))
  (h1 : ∀ K' : St -> Prop,(∀ x s,Inv x s.hs -> s.B = B -> s.W = W -> hs0 <= s.hs -> (∀ p ∈ S x,s.t p.1 = p.2) -> (∀ p ∈ M x,s.m p.1 = p.2) -> K' s) -> vtr P E ops K' tr ⟨B,hs0,W,t0,m0⟩)
  (h2 : ∀ x hs t m,Inv x hs -> hs0 <= hs -> K ⟨B,hs,W,updL t (S x),updL m (M x)⟩) : vtr P E ops K tr ⟨B,hs0,W,t0,m0⟩:=by
 refine h1 K ?_
 rintro x ⟨B',hs',W',t',m'⟩ a1 a2 a3 a4 a5 a6
 simp only at a1 a2 a3 a4 a5 a6
 subst a2 a3
 have:=h2 x hs' t' m' a1 a4
 rwa [bL a5,bL a6] at this
theorem xA {α : Type} {a b : List α} {i : Nat} (h1 : i < a.length) (h2 : i < b.length) (h : a[i] ≠ b[i]) : a ≠ b:=by rintro rfl; exact h rfl
theorem tS {α : Type} {a b : List α} {i : Nat} (hi : a.take i = b.take i) (h1 : i < a.length) (h2 : i < b.length) (h : a[i] = b[i]) : a.take (i + 1) = b.take (i + 1):=by
 rw [Jz h1,Jz h2,hi,h]
theorem tR {α : Type} {a b : List α} {i : Nat} (hi : a.take i = b.take i) (h : a.length <= i) (hl : a.length = b.length) : a = b:=by
 rwa [Jj h,Jj (by omega)] at hi
theorem xB {α : Type} {a b : List α} (h : a.length ≠ b.length) : a ≠ b:=by rintro rfl; exact h rfl
structure EqTo {α : Type} (a b : List α) (i : Nat) : Prop where
 le : i <= a.length
 eq : a.take i = b.take i
theorem EqTo.zero {α : Type} {a b : List α} : EqTo a b 0:=⟨by omega,by simp⟩
def fL (v : Int) : List UInt8:=if inR v 0 4 then ([88,89,90,85,86].drop v.toNat).take 1 else []
theorem rM (v : Int) : (fL v).length <= 1:=by
 unfold fL; split
 ·rw [Zq]; omega
 ·simp
def jc (l : List Int) : List UInt8:=l.flatMap fL
theorem jd (l : List Int) : (jc l).length <= l.length:=by
 induction l with
 | nil=>simp [jc]
 | cons a r ih=>simp only [jc,List.flatMap_cons,Qw,Qv] at ih ⊢; have:=rM a; omega
theorem wS {l : List Int} {i : Nat} (h : i < l.length) : jc (l.take (i + 1)) = jc (l.take i) ++ fL l[i]:=by
 unfold jc
 rw [Jz h,List.flatMap_append]
 simp only [List.flatMap_cons,List.flatMap_nil,List.append_nil]
def ir (sep : List UInt8) : List (List UInt8) -> List UInt8
 | []=>[]
 | x :: r=>x ++ r.flatMap fun y=>sep ++ y
theorem wi {sep x : List UInt8} {l : List (List UInt8)} : ir sep (l ++ [x]) = ir sep l ++ (if l = [] then [] else sep) ++ x:=by
 cases l with
 | nil=>simp [ir]
 | cons a r=>simp [ir]
theorem wj {sep : List UInt8} {l : List (List UInt8)} {i : Nat} (h : i < l.length) : ir sep (l.take (i + 1)) = ir sep (l.take i) ++ (if i = 0 then [] else sep) ++ l[i]:=by
 rw [Jz h,wi]
 have : l.take i = [] ↔ i = 0:=by
  constructor
  ·intro e
   have:=congrArg List.length e
   rw [Zq,List.length_nil] at this; omega
  ·rintro rfl; simp
 simp only [this]
def strW (s : Nat) : List (List UInt8) -> Nat
 | []=>0
 | x :: r=>x.length + s + strW s r
theorem zw (sep : List UInt8) : ∀ l : List (List UInt8),(ir sep l).length <= strW sep.length l
 | []=>by simp [ir,strW]
 | x :: r => by
   have : ∀ r : List (List UInt8),(r.flatMap fun y=>sep ++ y).length <= strW sep.length r:=fun r=>by
    induction r with
    | nil=>simp [strW]
    | cons a r ih=>simp only [List.flatMap_cons,Qw,strW] at ih ⊢; omega
   have:=this r
   simp only [ir,strW,Qw]; omega
def lowB (b : UInt8) : Bool:=decide (97 <= b.toNat /\ b.toNat <= 122)
theorem xT {b : UInt8} (h : (b.toNat : Int) < 97) : lowB b = false:=by simp only [lowB,decide_eq_false_iff_not]; omega
theorem xS {b : UInt8} (h : (122 : Int) < (b.toNat : Int)) : lowB b = false:=by simp only [lowB,decide_eq_false_iff_not]; omega
theorem xU {b : UInt8} (h : ¬ (b.toNat : Int) < 97) (h' : ¬ (122 : Int) < (b.toNat : Int)) : lowB b = true:=by simp only [lowB,Xj]; omega
def dc (s : List UInt8) : Bool:=decide (1 <= s.length /\ s.length <= 4) && s.all lowB
theorem jn {s : List UInt8} (h : s.all lowB = false) : dc s = false:=by rw [dc,h,Bool.and_false]
theorem pH {s : List UInt8} (h : ¬ (1 <= s.length /\ s.length <= 4)) : dc s = false:=by rw [dc,decide_eq_false h,Zh]
theorem rh {s : List UInt8} (h : s.all lowB = true) : dc s = decide (1 <= s.length /\ s.length <= 4):=by rw [dc,h,Bool.and_true]
def cJ (l : List Int) (n : Int) : Bool:=l.all (fun x=>inR x 0 (IntKind.i64.wrap (n - 1))) && decide l.Nodup
def b6 (n : Int) (a : aH) : Bool:=dc a.rel && inR a.vars.length 1 5 && a.vars.all fun x=>inR x 0 (IntKind.i64.wrap (n - 1))
def br (l : List aH) : List Int:=l.flatMap aH.vars
def eX (n : Int) (l : List aH) : Bool:=(List.range n.toNat).all fun (v : Nat)=>(br l).contains (v : Int)
def aw (q : ab) : Bool:=inR q.n 1 5 && inR q.atoms.length 1 4 && cJ q.out q.n && q.atoms.all (b6 q.n) && eX q.n q.atoms
theorem dF : ∀ (n : Nat) (l : List Int),l.Nodup -> (∀ x ∈ l,0 <= x /\ x < n) -> l.length <= n
 | 0, l, _, h => by
   cases l with
   | nil=>simp
   | cons a r=>have:=h a (by simp); omega
 | n + 1, l, hn, h => by
   have h1:=dF n (l.erase (n : Int)) (hn.erase _) fun x hx=>by
    have h2:=h x (List.mem_of_mem_erase hx)
    have h3:=(hn.mem_erase_iff.1 hx).1
    omega
   rw [List.length_erase] at h1
   split at h1 <;> omega
theorem rG {l : List Int} {n : Int} (hn : 1 <= n /\ n <= 5) (h : cJ l n = true) : (l.length : Int) <= n:=by
 simp only [cJ,Jq,Jk,Xj] at h
 obtain ⟨m,rfl⟩ : ∃ m : Nat,n = (m : Int):=⟨n.toNat,by omega⟩
 have:=dF m l h.2 fun x hx=>by
  have:=h.1 x hx
  rw [aj (by omega) (by omega)] at this
  simp only [inR,Jq,Xj] at this
  omega
 omega
def idxL (l : List Int) (v : Int) : Int:=if v ∈ l then ((l.takeWhile fun x=>!(x == v)).length : Int) else -1
theorem xK {l : List Int} {v : Int} {i : Nat} (h : bP (fun x=>!(x == v)) l i) (hi : i < l.length) (e : l[i] = v) : idxL l v = i:=by
 have hm : v ∈ l:=e ▸ Jy hi
 rw [idxL,if_pos hm,js h (by omega) (fun _=>by simp [e])]
theorem sn {l : List Int} {v : Int} (h : (l.all fun x=>!(x == v)) = true) : v ∉ l /\ idxL l v = -1:=by
 have hm : v ∉ l:=fun hm=>by
  have:=(Jk.1 h) v hm
  simp at this
 exact ⟨hm,by rw [idxL,if_neg hm]⟩
theorem eH (l : List Int) (v : Int) : decide (0 <= idxL l v) = l.contains v:=by
 by_cases h : v ∈ l
 ·simp [idxL,h]
 ·simp [idxL,h]
structure kY (l : List Int) (n : Int) (i : Nat) : Prop where
 le : i <= l.length
 all : ∀ x ∈ l.take i,inR x 0 (IntKind.i64.wrap (n - 1)) = true
 nd : (l.take i).Nodup
theorem kY.zero {l : List Int} {n : Int} : kY l n 0:=⟨by omega,by simp,by simp⟩
theorem kY.step {l : List Int} {n : Int} {i : Nat} (h : kY l n i) (hi : i < l.length) (h1 : inR l[i] 0 (IntKind.i64.wrap (n - 1)) = true) (h2 : l[i] ∉ l.take i) : kY l n (i + 1):=by
 refine ⟨hi,fun x hx=>?_,?_⟩
 ·rw [Jz hi] at hx
  rcases Qq.1 hx with h' | h'
  ·exact h.all x h'
  ·simp only [Qg] at h'; rw [h']; exact h1
 ·rw [Jz hi]
  exact List.nodup_append.2 ⟨h.nd,by simp,fun a ha b hb e=>by simp only [Qg] at hb; subst hb; subst e; exact h2 ha⟩
theorem kY.done {l : List Int} {n : Int} {i : Nat} (h : kY l n i) (hi : l.length <= i) : cJ l n = true:=by
 have h1:=h.all; have h2:=h.nd
 rw [Jj hi] at h1 h2
 simp only [cJ,Jq,Jk,Xj]
 exact ⟨h1,h2⟩
theorem lR {l : List Int} {n : Int} {i : Nat} (hi : i < l.length) (h1 : inR l[i] 0 (IntKind.i64.wrap (n - 1)) = false) : cJ l n = false:=by
 have : l.all (fun x=>inR x 0 (IntKind.i64.wrap (n - 1))) = false:=bn (p:=fun x=>inR x 0 (IntKind.i64.wrap (n - 1))) hi h1
 simp only [cJ,this,Zh]
theorem lS {l : List Int} {n : Int} {i : Nat} (hi : i < l.length) (h2 : l[i] ∈ l.take i) : cJ l n = false:=by
 have : ¬ l.Nodup:=fun hn=>by
  have e : l = l.take i ++ l[i] :: l.drop (i + 1):=by rw [<- List.drop_eq_getElem_cons hi,List.take_append_drop]
  rw [e] at hn
  exact (List.nodup_append.1 hn).2.2 _ h2 _ (Zz.2 (.inl rfl)) rfl
 simp only [cJ,this,decide_false,Bool.and_false]
structure AtI (n : Int) (l : List aH) (i : Nat) : Prop where
 le : i <= l.length
 ok : bP (b6 n) l i
theorem AtI.zero {n : Int} {l : List aH} : AtI n l 0:=⟨by omega,aQ⟩
structure AtK (n : Int) (l : List Int) (k : Nat) : Prop where
 le : k <= l.length
 ok : bP (fun x=>inR x 0 (IntKind.i64.wrap (n - 1))) l k
theorem AtK.zero {n : Int} {l : List Int} : AtK n l 0:=⟨by omega,aQ⟩
theorem AtK.step {n : Int} {l : List Int} {k : Nat} (h : AtK n l k) (hk : k < l.length) (e : inR l[k] 0 (IntKind.i64.wrap (n - 1)) = true) : AtK n l (k + 1):=⟨hk,aM h.ok hk e⟩
theorem oN {n : Int} {a : aH} {k : Nat} (hk : k < a.vars.length) (e : inR a.vars[k] 0 (IntKind.i64.wrap (n - 1)) = false) : b6 n a = false:=by
 have : a.vars.all (fun x=>inR x 0 (IntKind.i64.wrap (n - 1))) = false:=bn (p:=fun x=>inR x 0 (IntKind.i64.wrap (n - 1))) hk e
 simp only [b6,this,Bool.and_false]
theorem nM {n : Int} {a : aH} {k : Nat} (h : AtK n a.vars k) (hk : a.vars.length <= k) (h1 : dc a.rel = true) (h2 : inR a.vars.length 1 5 = true) : b6 n a = true:=by
 have:=aP h.ok hk
 simp only [b6,h1,h2,this]; rfl
theorem AtI.step {n : Int} {l : List aH} {i : Nat} (h : AtI n l i) (hi : i < l.length) (e : b6 n l[i] = true) : AtI n l (i + 1):=⟨hi,aM h.ok hi e⟩
theorem nt {q : ab} (h : inR q.n 1 5 = false) : aw q = false:=by simp only [aw,h,Zh]
theorem kI {q : ab} (h : inR q.atoms.length 1 4 = false) : aw q = false:=by simp only [aw,h,Zh,Bool.and_false]
theorem kJ {q : ab} (h : cJ q.out q.n = false) : aw q = false:=by simp only [aw,h,Zh,Bool.and_false]
theorem pQ {q : ab} {i : Nat} (hi : i < q.atoms.length) (h : b6 q.n q.atoms[i] = false) : aw q = false:=by
 have : q.atoms.all (b6 q.n) = false:=bn hi h
 simp only [aw,this,Zh,Bool.and_false]
theorem ru {q : ab} (h : eX q.n q.atoms = false) : aw q = false:=by simp only [aw,h,Bool.and_false]
theorem nV {q : ab} (h1 : inR q.n 1 5 = true) (h2 : inR q.atoms.length 1 4 = true) (h3 : cJ q.out q.n = true) (h4 : q.atoms.all (b6 q.n) = true) (h5 : eX q.n q.atoms = true) : aw q = true:=by
 simp only [aw,h1,h2,h3,h4,h5]; rfl
def k9 (l : List aH) (v : Int) (i : Nat) : Bool:=(l.take i).any fun a=>a.vars.contains v
theorem we (l : List aH) (v : Int) : k9 l v 0 = false:=by simp [k9]
theorem wc {l : List aH} {v : Int} {i : Nat} (hi : i < l.length) : k9 l v (i + 1) = (k9 l v i || l[i].vars.contains v):=by
 rw [k9,Jz hi,List.any_append]; simp [k9]
theorem zu {l : List aH} {v : Int} {i : Nat} (hi : l.length <= i) : k9 l v i = (br l).contains v:=by
 rw [k9,Jj hi,Bool.eq_iff_iff]
 simp [br]
structure UsTo (n : Int) (l : List aH) (v : Nat) : Prop where
 le : v <= n.toNat
 ok : bP (fun (v : Nat)=>(br l).contains (v : Int)) (List.range n.toNat) v
theorem UsTo.zero {n : Int} {l : List aH} : UsTo n l 0:=⟨by omega,aQ⟩
theorem UsTo.step {n : Int} {l : List aH} {v : Nat} (h : UsTo n l v) (hv : v < n.toNat) (e : (br l).contains (v : Int) = true) : UsTo n l (v + 1):=
 ⟨hv,aM h.ok (by simpa using hv) (by simpa using e)⟩
theorem vg {n : Int} {l : List aH} {v : Nat} (hv : v < n.toNat) (e : (br l).contains (v : Int) = false) : eX n l = false:=
 bn (p:=fun (v : Nat)=>(br l).contains (v : Int)) (l:=List.range n.toNat) (i:=v) (by simpa using hv) (by simpa using e)
theorem UsTo.done {n : Int} {l : List aH} {v : Nat} (h : UsTo n l v) (hv : n.toNat <= v) : eX n l = true:=aP h.ok (by simpa using hv)
def fK (n : Nat) (vs : List Int) : List Bool:=(List.range n).map fun (j : Nat)=>vs.contains (j : Int)
@[simp] theorem sX (n : Nat) (vs : List Int) : (fK n vs).length = n:=by simp [fK]
theorem Af (n : Nat) : fK n [] = List.replicate n false:=by
 apply List.ext_getElem (by simp)
 intro i h1 h2; simp [fK]
theorem wR {n k : Nat} {vs : List Int} (h : k < n) : (fK n vs).set k true = fK n (vs ++ [(k : Int)]):=by
 apply List.ext_getElem (by simp)
 intro i h1 h2
 simp only [List.length_set,sX] at h1
 rw [List.getElem_set]
 simp only [fK,List.getElem_map,List.getElem_range]
 by_cases e : k = i
 ·subst e; simp
 ·have : ¬ ((i : Int) = (k : Int)):=by omega
  simp [e,this]
theorem vh {n : Int} {l : List aH} : eX n l = (fK n.toNat (br l)).all id:=by
 simp only [eX,fK,List.all_map]; rfl
def aI (n : Nat) : List Int:=(List.range n).map fun (k : Nat)=>(k : Int)
@[simp] theorem lg (n : Nat) : (aI n).length = n:=by simp [aI]
theorem en (n : Nat) : aI (n + 1) = aI n ++ [(n : Int)]:=by simp [aI,List.range_succ]
theorem bD : aI 0 = []:=rfl
def lE (q : ab) : List Int:=if aw q then aI q.n.toNat else []
def sbd (q : ab) : PDec:=if aw q then ⟨[aI q.n.toNat],[-1]⟩ else ⟨[],[]⟩
theorem bq {q : ab} (h : aw q = true) : 1 <= q.n /\ q.n <= 5:=by
 cases h1 : inR q.n 1 5
 ·rw [nt h1] at h; cases h
 ·simpa [inR] using h1
theorem mr {q : dQ} (h : ec q) : ∀ a ∈ (aO q).atoms,a.rel.length <= maxLen:=fun a ha=>by
 simp only [aO,plS,Xz] at ha
 obtain ⟨b,hb,rfl⟩:=ha
 exact (h.2.1.2 b hb).1
structure OrdI (q : ab) (i : Nat) : Prop where
 le : (i : Int) <= max 0 q.n
 ok : 0 < i -> aw q = true
theorem zr (B : Nat) : Good (cDec ⟨nilS,nilS⟩) (vA ⟨nilS,nilS⟩) B:=
 ⟨by simp [cDec,nilS,cS,dSl,idsL,D.ids,idsLL],by simp [cDec,nilS,cS,dSl,idsL,D.ids,idsLL],⟨⟨⟨by simp [nilS],by simp [nilS]⟩,by simp [nilS]⟩,⟨⟨by simp [nilS],by simp [nilS]⟩,by simp [nilS]⟩⟩⟩
theorem zt {B : Nat} {bags : List Ints} {par : List Int} {g1 g2 : Option Nat} {T1 T2 : TypeId × Nat}
  (hnd : (idsLL (bags.map (cS cI))).Nodup) (hlo : ∀ g ∈ idsLL (bags.map (cS cI)),B <= g) (hwh : ∀ r ∈ bags,whS whI r)
  (q1 : ∀ g,g1 = some g -> B <= g /\ g ∉ idsLL (bags.map (cS cI))) (e1 : bags ≠ [] -> g1 ≠ none)
  (q2 : ∀ g,g2 = some g -> B <= g /\ g ∉ idsLL (bags.map (cS cI))) (e2 : par ≠ [] -> g2 ≠ none) (hne : ∀ g,g1 = some g -> g2 = some g -> False) :
  Good (cDec ⟨⟨g1,some T1,bags⟩,⟨g2,some T2,par⟩⟩) (vA ⟨⟨g1,some T1,bags⟩,⟨g2,some T2,par⟩⟩) B:=by
 have K1 : Good (cS (cS cI) ⟨g1,some T1,bags⟩) (whS (whS whI) ⟨g1,some T1,bags⟩) B:=df (fun g h=>(q1 g h).1) e1 (fun g h=>(q1 g h).2) ⟨hnd,hlo⟩ hwh
 have K2 : Good (cS cI ⟨g2,some T2,par⟩) (whS whI ⟨g2,some T2,par⟩) B:=df (fun g h=>(q2 g h).1) e2 (by simp) ⟨by simp,by simp⟩ (by simp [whI])
 have:=Good.app K1 K2 fun g h h'=>by
  rw [bc] at h h'
  have h':=(aK.1 h').resolve_right (by simp)
  rcases aK.1 h with h | h
  ·exact hne g h h'
  ·exact (q2 g h').2 h
 exact this
def lp (t : PTab) : Bool:=dc t.name && aL t.rel.ar t.rel.rows && decide (1 <= t.rel.ar) && decide (t.rel.rows.length <= 16)
def dbAt (l : List PTab) (j : Nat) : Bool:=(decide (j = 0) || Op.bytesLess (l.getD (j - 1) default).name (l.getD j default).name) && lp (l.getD j default)
def dbOk (d : PDb) : Bool:=decide (d.tabs.length <= 6) && (List.range d.tabs.length).all (dbAt d.tabs)
structure DbTo (l : List PTab) (i : Nat) : Prop where
 le : i <= l.length
 ok : bP (dbAt l) (List.range l.length) i
theorem DbTo.zero {l : List PTab} : DbTo l 0:=⟨by omega,aQ⟩
theorem DbTo.step {l : List PTab} {i : Nat} (h : DbTo l i) (hi : i < l.length) (e : dbAt l i = true) : DbTo l (i + 1):=⟨hi,aM h.ok (by simpa using hi) (by simpa using e)⟩
theorem DbTo.done {l : List PTab} {i : Nat} (h : DbTo l i) (hi : l.length <= i) : dbOk ⟨l⟩ = decide (l.length <= 6):=by
 have:=aP h.ok (by simpa using hi)
 simp only [dbOk,this,Bool.and_true]
theorem tO {l : List PTab} {i : Nat} (hi : i < l.length) (e : dbAt l i = false) : dbOk ⟨l⟩ = false:=by
 have : (List.range l.length).all (dbAt l) = false:=bn (p:=dbAt l) (l:=List.range l.length) (i:=i) (by simpa using hi) (by simpa using e)
 simp only [dbOk,this,Bool.and_false]
theorem AX {d : PDb} (h : dbOk d = true) : d.tabs.length <= 6:=by
 simp only [dbOk,Jq,Xj] at h; exact h.1
theorem l5 {d : PDb} (h : dbOk d = true) {t : PTab} (ht : t ∈ d.tabs) : lp t = true:=by
 obtain ⟨i,hi,rfl⟩:=List.getElem_of_mem ht
 simp only [dbOk,Jq,Jk] at h
 have:=h.2 i (by simpa using hi)
 simp only [dbAt,Jq] at this
 have h2:=this.2
 rwa [ak _ hi] at h2
theorem xo {l : List PTab} {i : Nat} (hi : i < l.length) : dbAt l i = ((decide (i = 0) || Op.bytesLess (l[i - 1]'(by omega)).name l[i].name) && lp l[i]):=by
 rw [dbAt,ak _ hi,ak _ (show i - 1 < l.length by omega)]
theorem uZ {α : Type} (f : α -> List UInt8) (s k : Nat) : ∀ (l : List α),(∀ a ∈ l,(f a).length <= k) -> strW s (l.map f) <= (k + s) * l.length
 | [],_=>by simp [strW]
 | a :: r, h => by
   have h1:=uZ f s k r fun b hb=>h b (by simp [hb])
   have h2:=h a (by simp)
   simp only [Qz,strW,Qv,Nat.mul_add,Nat.mul_one]; omega
theorem zJ {d : Db} (h : okDb d) : ∀ t ∈ (plDb d).tabs,t.name.length <= maxLen:=fun t ht=>by
 simp only [plDb,plS,Xz] at ht
 obtain ⟨b,hb,rfl⟩:=ht
 exact (h.2 b hb).1
def lkT (d : PDb) (nm : List UInt8) : Option bE:=if dbOk d then (d.tabs.find? fun t=>t.name == nm).map PTab.rel else none
def lkB (d : PDb) (nm : List UInt8) : Bool:=(lkT d nm).isSome
def lkR (d : PDb) (nm : List UInt8) : bE:=(lkT d nm).getD ⟨0,[]⟩
theorem xQ {d : PDb} {nm : List UInt8} (h : dbOk d = false) : lkB d nm = false /\ lkR d nm = ⟨0,[]⟩:=by simp [lkB,lkR,lkT,h]
theorem Eo {α : Type} {p : α -> Bool} {l : List α} {i : Nat} (h : bP (fun a=>!p a) l i) (hi : i < l.length) (e : p l[i] = true) : l.find? p = some l[i]:=by
 have e0 : l = l.take i ++ l[i] :: l.drop (i + 1):=by rw [<- List.drop_eq_getElem_cons hi,List.take_append_drop]
 have hn : (l.take i).find? p = none:=by
  rw [List.find?_eq_none]; intro x hx
  have:=(Jk.1 h) x hx
  simpa using this
 obtain ⟨a,ha⟩ : ∃ a,a = l[i]:=⟨_,rfl⟩
 rw [<- ha] at e e0 ⊢
 rw [e0,List.find?_append,hn,Option.none_or,List.find?_cons,e]
theorem Ep {α : Type} {p : α -> Bool} {l : List α} (h : (l.all fun a=>!p a) = true) : l.find? p = none:=by
 rw [List.find?_eq_none]; intro x hx
 have:=(Jk.1 h) x hx
 simpa using this
theorem JO {l : List PTab} {nm : List UInt8} (hd : dbOk ⟨l⟩ = true) {i : Nat} (h : bP (fun t=>!(t.name == nm)) l i) (hi : i < l.length) (e : l[i].name = nm) : lkB ⟨l⟩ nm = true /\ lkR ⟨l⟩ nm = l[i].rel:=by
 have:=Eo (p:=fun t : PTab=>t.name == nm) h hi (by simpa using e)
 have hT : lkT ⟨l⟩ nm = some l[i].rel:=by rw [lkT,if_pos hd]; simp only; rw [this]; rfl
 exact ⟨by rw [lkB,hT]; rfl,by rw [lkR,hT]; rfl⟩
theorem EG {l : List PTab} {nm : List UInt8} (h : (l.all fun t=>!(t.name == nm)) = true) : lkB ⟨l⟩ nm = false /\ lkR ⟨l⟩ nm = ⟨0,[]⟩:=by
 have:=Ep (p:=fun t : PTab=>t.name == nm) h
 by_cases hd : dbOk ⟨l⟩ = true
 ·have hT : lkT ⟨l⟩ nm = none:=by rw [lkT,if_pos hd]; simp only; rw [this]; rfl
  exact ⟨by rw [lkB,hT]; rfl,by rw [lkR,hT]; rfl⟩
 ·exact xQ (by simpa using hd)
structure LkTo (l : List PTab) (nm : List UInt8) (i : Nat) : Prop where
 le : i <= l.length
 ok : bP (fun t=>!(t.name == nm)) l i
theorem LkTo.zero {l : List PTab} {nm : List UInt8} : LkTo l nm 0:=⟨by omega,aQ⟩
theorem LkTo.step {l : List PTab} {nm : List UInt8} {i : Nat} (h : LkTo l nm i) (hi : i < l.length) (e : ¬ l[i].name = nm) : LkTo l nm (i + 1):=⟨hi,aM h.ok hi (by simp [e])⟩
theorem LkTo.done {l : List PTab} {nm : List UInt8} {i : Nat} (h : LkTo l nm i) (hi : l.length <= i) : lkB ⟨l⟩ nm = false /\ lkR ⟨l⟩ nm = ⟨0,[]⟩:=EG (aP h.ok hi)
theorem LkTo.found {l : List PTab} {nm : List UInt8} {i : Nat} (h : LkTo l nm i) (hd : dbOk ⟨l⟩ = true) (hi : i < l.length) (e : l[i].name = nm) : lkB ⟨l⟩ nm = true /\ lkR ⟨l⟩ nm = l[i].rel:=JO hd h.ok hi e
theorem um {d : PDb} {nm : List UInt8} (h : lkB d nm = true) : aL (lkR d nm).ar (lkR d nm).rows = true:=by
 cases hT : lkT d nm with
 | none=>rw [lkB,hT] at h; cases h
 | some r =>
   have hr : lkR d nm = r:=by rw [lkR,hT]; rfl
   rw [hr]
   unfold lkT at hT
   split at hT
   ·rename_i hd
    obtain ⟨t,ht,rfl⟩:=Option.map_eq_some_iff.1 hT
    have hm:=l5 hd (List.mem_of_find?_eq_some ht)
    simp only [lp,Jq] at hm
    exact hm.1.1.2
   ·cases hT
theorem rH {t : PTab} (h : lp t = true) : t.rel.rows.length <= 4294967296 /\ ∀ x ∈ t.rel.rows,x.length <= 4294967296:=by
 simp only [lp,Jq,Xj] at h
 exact ⟨by omega,fun x hx=>by have:=gR h.1.1.2 x hx; omega⟩
def difB (a b : bE) : Bool:=aL a.ar a.rows && aL b.ar b.rows && decide (a.ar = b.ar)
def difL (l : List (List Int)) (b : List (List Int)) : List (List Int):=l.filter fun r=>!gO b r
theorem y8 {l b : List (List Int)} {i : Nat} (h : i < l.length) : difL (l.take (i + 1)) b = difL (l.take i) b ++ if gO b l[i] then [] else [l[i]]:=by
 rw [Jz h,difL,List.filter_append]
 cases e : gO b l[i] <;> simp [difL,e]
theorem A4 (l b : List (List Int)) : (difL l b).length <= l.length:=Xy _ _
def difR (a b : bE) : bE:=if difB a b then ⟨a.ar,difL a.rows b.rows⟩ else ⟨0,[]⟩
theorem VC.er {P : Program} {f : FuncId} {As Ps : List V} {post : Nat -> V -> Prop} (h : VC P f Ps post) (hp : rpL (fun _=>none) As = some Ps) : VC P f As post:=
 ⟨h.1,fun w vals A hgl hLR=>h.2 w vals A hgl (LR.er _ _ _ hLR hp)⟩
structure CopI {α β : Type} (c : α -> List D) (wh : α -> Prop) (ok : α -> Prop) (pl : α -> β) (l : List β) (B : Nat) (p : Nat × List α) (h : Nat) : Prop where
 le : p.1 <= l.length
 pl : p.2.map pl = l.take p.1
 ok : ∀ y ∈ p.2,ok y
 good : e8 c wh B h p.2
section
variable {α β : Type} {c : α -> List D} {wh : α -> Prop} {ok : α -> Prop} {pl : α -> β} {l : List β} {B : Nat}
theorem CopI.zero {h : Nat} : CopI c wh ok pl l B (0,[]) h:=⟨by simp,by simp,by simp,e8.nil⟩
theorem CopI.len {h i : Nat} {ys : List α} (H : CopI c wh ok pl l B (i,ys) h) : ys.length = i:=by
 have:=congrArg List.length H.pl
 have hl:=H.le
 simp only [List.length_map,Zq] at this hl
 omega
theorem CopI.snoc {h m h' i : Nat} {ys : List α} {y : α} (H : CopI c wh ok pl l B (i,ys) h) (hi : i < l.length) (hy : pl y = l[i]) (hok : ok y) (hb : B <= m /\ h <= m) (hm : m <= h') (G : Good (c y) (wh y) m) (hr : ∀ g ∈ idsL (c y),g < h') : CopI c wh ok pl l B (i + 1,ys ++ [y]) h':=by
 refine ⟨hi,?_,fun z hz=>?_,e8.snoc H.good hb hm G hr⟩
 ·have:=H.pl
  simp only at this
  simp only [Zj,Qz,List.map_nil]
  rw [this,hy,Jz hi]
 ·rcases Qq.1 hz with h | h
  ·exact H.ok z h
  ·rw [Qg.1 h]; exact hok
theorem CopI.all {h i : Nat} {ys : List α} (H : CopI c wh ok pl l B (i,ys) h) (hi : l.length <= i) : ys.map pl = l:=by
 have:=H.pl
 simp only at this
 rwa [Jj hi] at this
end
structure MJ (rows a b out : List (List Int)) : Prop where
 sa : Srt a
 sb : Srt b
 so : Srt out
 lt : ∀ y ∈ out,∀ z,z ∈ a \/ z ∈ b -> cmpL y z < 0
 mem : ∀ x,(x ∈ out \/ x ∈ a \/ x ∈ b) ↔ x ∈ rows
 len : out.length + a.length + b.length <= rows.length
theorem MJ.start (rows : List (List Int)) (m : Nat) : MJ rows (srtU (rows.take m)) (srtU (rows.drop m)) []:=by
 have h:=MI.start rows m
 exact ⟨h.sa,h.sb,h.so,by simp,h.mem,h.len⟩
theorem MJ.swap {rows a b out : List (List Int)} (h : MJ rows a b out) : MJ rows b a out:=
 ⟨h.sb,h.sa,h.so,fun y hy z hz=>h.lt y hy z hz.symm,fun x=>by rw [<- h.mem x,or_comm (a:=x ∈ a)],by have:=h.len; omega⟩
theorem MJ.done {rows out : List (List Int)} (h : MJ rows [] [] out) : out = srtU rows:=nv h.so fun x=>by rw [<- h.mem x]; simp
theorem MJ.left {rows a b out : List (List Int)} {x : List Int} (h : MJ rows (x :: a) b out) (hb : ∀ z ∈ b,cmpL x z < 0) : MJ rows a b (out ++ [x]):=by
 have ha:=List.pairwise_cons.1 h.sa
 have hl:=h.len
 simp only [Qv] at hl
 refine ⟨ha.2,h.sb,List.pairwise_append.2 ⟨h.so,by simp,fun y hy z hz=>?_⟩,fun y hy z hz=>?_,fun y=>?_,by simp only [Qw,Qv,List.length_nil]; omega⟩
 ·rw [Qg.1 hz]; exact h.lt y hy x (by simp)
 ·rcases Qq.1 hy with hy | hy
  ·exact h.lt y hy z (hz.imp (fun hz=>by simp [hz]) id)
  ·rw [Qg.1 hy]
   rcases hz with hz | hz
   ·exact ha.1 z hz
   ·exact hb z hz
 ·rw [<- h.mem y]
  simp only [Qq,Zz,List.not_mem_nil,or_false]
  constructor
  ·rintro ((h1 | h1) | h1 | h1) <;> simp [h1]
  ·rintro (h1 | (h1 | h1) | h1) <;> simp [h1]
theorem MJ.both {rows a b out : List (List Int)} {x : List Int} (h : MJ rows (x :: a) (x :: b) out) : MJ rows a b (out ++ [x]):=by
 have hb:=List.pairwise_cons.1 h.sb
 have hl:=h.len
 simp only [Qv] at hl
 refine MJ.left (x:=x) ⟨h.sa,hb.2,h.so,fun y hy z hz=>h.lt y hy z (hz.imp id fun hz=>by simp [hz]),fun y=>?_,by simp only [Qv]; omega⟩ hb.1
 rw [<- h.mem y]
 simp only [Zz]
 constructor
 ·rintro (h1 | h1 | h1)
  ·exact .inl h1
  ·exact .inr (.inl h1)
  ·exact .inr (.inr (.inr h1))
 ·rintro (h1 | h1 | h1 | h1)
  ·exact .inl h1
  ·exact .inr (.inl h1)
  ·exact .inr (.inl (.inl h1))
  ·exact .inr (.inr h1)
theorem MJ.less {rows a b out : List (List Int)} {x y : List Int} (h : MJ rows (x :: a) (y :: b) out) (hc : cmpL x y < 0) : ∀ z ∈ y :: b,cmpL x z < 0:=fun z hz=>by
 rcases Zz.1 hz with rfl | hz
 ·exact hc
 ·exact dA hc ((List.pairwise_cons.1 h.sb).1 z hz)
structure OwnR (B : Nat) (L : List Ints) : Prop where
 nd : (idsLL (L.map (cS cI))).Nodup
 lo : ∀ g ∈ idsLL (L.map (cS cI)),B <= g
 wh : ∀ r ∈ L,whS whI r
 ok : ∀ r ∈ L,okS okI r
theorem ug {L L' : List Ints} (h : L'.Perm L) : (idsLL (L'.map (cS cI))).Perm (idsLL (L.map (cS cI))):=by
 induction h with
 | nil=>exact .refl _
 | cons a _ ih=>simp only [Qz,idsLL]; exact (List.Perm.refl _).append ih
 | swap a b l=>simp only [Qz,idsLL]; exact List.perm_append_comm_assoc _ _ _
 | trans _ _ h1 h2=>exact h1.trans h2
theorem OwnR.perm {B : Nat} {L L' : List Ints} (H : OwnR B L) (h : L'.Perm L) : OwnR B L':=
 ⟨(ug h).nodup_iff.2 H.nd,fun g hg=>H.lo g ((ug h).mem_iff.1 hg),fun r hr=>H.wh r (h.mem_iff.1 hr),fun r hr=>H.ok r (h.mem_iff.1 hr)⟩
theorem OwnR.sub {B : Nat} {L L' : List Ints} (H : OwnR B L) (h : L'.Sublist L) : OwnR B L':=
 ⟨H.nd.sublist (xJ h),fun g hg=>H.lo g ((xJ h).subset hg),fun r hr=>H.wh r (h.subset hr),fun r hr=>H.ok r (h.subset hr)⟩
structure SrtI (rows : List (List Int)) (B : Nat) (p : List Ints × List Ints × List Ints × Option (TypeId × Nat) × Option (TypeId × Nat)) : Prop where
 mj : MJ rows (p.1.map (plS plI)) (p.2.1.map (plS plI)) (p.2.2.1.map (plS plI))
 own : OwnR B (p.2.2.1 ++ (p.1 ++ p.2.1))
theorem SrtI.left {rows : List (List Int)} {B : Nat} {x : Ints} {a b o : List Ints} {Ta Tb Ta' : Option (TypeId × Nat)} (H : SrtI rows B (x :: a,b,o,Ta,Tb)) (hb : ∀ z ∈ b.map (plS plI),cmpL (plS plI x) z < 0) : SrtI rows B (a,b,o ++ [x],Ta',Tb):=by
 have h1:=H.mj
 simp only [Qz] at h1
 refine ⟨by simp only [Zj,Qz,List.map_nil]; exact h1.left hb,?_⟩
 have h2:=H.own
 simp only at h2 ⊢
 simpa using h2
theorem SrtI.right {rows : List (List Int)} {B : Nat} {y : Ints} {a b o : List Ints} {Ta Tb Tb' : Option (TypeId × Nat)} (H : SrtI rows B (a,y :: b,o,Ta,Tb)) (ha : ∀ z ∈ a.map (plS plI),cmpL (plS plI y) z < 0) : SrtI rows B (a,b,o ++ [y],Ta,Tb'):=by
 have h1:=H.mj
 simp only [Qz] at h1
 refine ⟨by simp only [Zj,Qz,List.map_nil]; exact (h1.swap.left ha).swap,?_⟩
 refine H.own.perm ?_
 simp only [List.append_assoc,List.singleton_append]
 exact (List.Perm.refl o).append List.perm_middle.symm
theorem SrtI.both {rows : List (List Int)} {B : Nat} {x y : Ints} {a b o : List Ints} {Ta Tb Ta' Tb' : Option (TypeId × Nat)} (H : SrtI rows B (x :: a,y :: b,o,Ta,Tb)) (e : plS plI x = plS plI y) : SrtI rows B (a,b,o ++ [x],Ta',Tb'):=by
 have h1:=H.mj
 simp only [Qz,<- e] at h1
 refine ⟨by simp only [Zj,Qz,List.map_nil]; exact h1.both,?_⟩
 refine H.own.sub ?_
 simp only [List.append_assoc,List.singleton_append]
 exact (List.Sublist.refl o).append ((((List.Sublist.refl a).append (List.sublist_cons_self y b))).cons_cons x)
structure ToN (ar : Int) (l : List (List Int)) (i : Nat) : Prop where
 le : i <= l.length
 ok : bP (fun r : List Int=>decide ((r.length : Int) = ar) && aZ r) l i
theorem ToN.zero {ar : Int} {l : List (List Int)} : ToN ar l 0:=⟨by omega,aQ⟩
theorem ToN.step {ar : Int} {l : List (List Int)} {i : Nat} (h : ToN ar l i) (hi : i < l.length) (e : (decide ((l[i].length : Int) = ar) && aZ l[i]) = true) : ToN ar l (i + 1):=⟨hi,aM h.ok hi e⟩
theorem ToN.done {ar : Int} {l : List (List Int)} {i : Nat} (h : ToN ar l i) (hi : l.length <= i) : (l.all fun r : List Int=>decide ((r.length : Int) = ar) && aZ r) = true:=aP h.ok hi
theorem ToN.bad {ar : Int} {l : List (List Int)} {i : Nat} (_ : ToN ar l i) (hi : i < l.length) (e : (decide ((l[i].length : Int) = ar) && aZ l[i]) = false) : newB ar l = false:=by
 have : (l.all fun r : List Int=>decide ((r.length : Int) = ar) && aZ r) = false:=bn (p:=fun r : List Int=>decide ((r.length : Int) = ar) && aZ r) hi e
 rw [newB,this,Zh]
theorem VC.weak {P : Program} {f : FuncId} {As : List V} {post post' : Nat -> V -> Prop} (h : VC P f As post) (hp : ∀ n r,post n r -> post' n r) : VC P f As post':=
 ⟨h.1,fun w vals A hgl hLR=>(h.2 w vals A hgl hLR).mono fun e w' he=>by
  obtain ⟨v,r,h1,h2,h3,h4,h5⟩:=he
  exact ⟨v,r,h1,h2,h3,h4,hp _ _ h5⟩⟩
theorem tG {P : Program} {E : Md} {args : List Operand} {f : FuncId} {vs : List V} {dst : Option Tmp} {K : St -> Prop} {σ : St} {post : Nat -> V -> Prop} (hk : keysVL vs ≠ [])
  (hc : ∀ γ n,σ.hs <= n -> Gam σ γ n -> ∃ As,rdL γ σ.m vs = some As /\ VC P f As post) (hi : ∀ n r,post n r -> (∀ i ∈ r.ids,n <= i) /\ r.hp = false)
  (hK : ∀ n hs' r,σ.hs <= n -> n <= hs' -> post n r -> (∀ i ∈ r.ids,i < hs') -> K ({ σ with hs:=hs' }.put dst r)) : b9 P E f args vs dst K σ:=by
 refine .inl ?_
 unfold mP
 split
 ·rename_i h; exact (hk h).elim
 ·intro γ n a b
  obtain ⟨As,h1,h2⟩:=hc γ n a b
  exact ⟨As,post,h1,h2,fun r hs' c d e=>⟨(hi n r d).1,(hi n r d).2,hK n hs' r a c d e⟩⟩
def nxP (ps : List Int) (k : Int) : Int:=ps.getD k.toNat 0
def upI (ps : List Int) : Nat -> Int -> Option Int
 | 0,a=>some a
 | m + 1,a=>if a < 0 then some a else if inR (nxP ps a) (-1) (ps.length - 1) then upI ps m (nxP ps a) else none
def jj : Option Int -> Bool
 | some a=>decide (a < 0)
 | none=>false
def cU (ps : List Int) (i : Nat) : Bool:=inR (nxP ps i) (-1) (ps.length - 1) && jj (upI ps (ps.length + 1) i)
def sJ (ps : List Int) : Nat:=(ps.filter fun p=>decide (p < 0)).length
def eW (ps : List Int) : Bool:=(List.range ps.length).all (cU ps) && decide (sJ ps = 1)
def bo (ps : List Int) : Nat -> Int -> List Int
 | 0,_=>[]
 | m + 1,k=>if inR k 0 (ps.length - 1) then k :: bo ps m (nxP ps k) else []
def oneR (ps : List Int) : Nat:=(ps.filter fun p=>p == -1).length
def dM (ps : List Int) : Int:=if oneR ps = 1 then (ps.findIdx fun p=>p == -1 : Nat) else -1
def gM (l : List Int) : Int:=l.getD (l.length - 1) 0
def jo (ps : List Int) (i : Nat) : Bool:=decide ((bo ps (ps.length + 1) i).length <= ps.length) && decide (gM (bo ps (ps.length + 1) i) = dM ps)
def rK (ps : List Int) : Bool:=decide (0 <= dM ps) && (List.range ps.length).all (jo ps)
section
variable {ps : List Int}
theorem cA {m : Nat} {k : Int} (h : inR k 0 (ps.length - 1) = true) : bo ps (m + 1) k = k :: bo ps m (nxP ps k):=by
 show (if inR k 0 (ps.length - 1) then k :: bo ps m (nxP ps k) else []) = _
 rw [if_pos h]
theorem cQ {m : Nat} {k : Int} (h : ¬ inR k 0 (ps.length - 1) = true) : bo ps m k = []:=by
 cases m with
 | zero=>rfl
 | succ m =>
   show (if inR k 0 (ps.length - 1) then k :: bo ps m (nxP ps k) else []) = _
   rw [if_neg h]
theorem mi {k n : Int} (h : k < 0) : ¬ inR k 0 n = true:=by simp only [inR,Jq,Xj]; omega
theorem mO {m : Nat} {a : Int} (h : a < 0) : upI ps m a = some a:=by
 cases m with
 | zero=>rfl
 | succ m=>rw [upI,if_pos h]
theorem kP {m : Nat} {a b : Int} (ha : 0 <= a) (h : upI ps (m + 1) a = some b) : inR (nxP ps a) (-1) (ps.length - 1) = true /\ upI ps m (nxP ps a) = some b:=by
 rw [upI,if_neg (by omega)] at h
 split at h
 ·rename_i h1; exact ⟨h1,h⟩
 ·cases h
theorem sU : ∀ {m : Nat} {a b : Int},b < 0 -> upI ps m a = some b -> upI ps (m + 1) a = some b /\ bo ps (m + 1) a = bo ps m a
 | 0, a, b, hb, h => by
   simp only [upI,Jx] at h
   subst h
   exact ⟨mO hb,by rw [cQ (mi hb),cQ (mi hb)]⟩
 | m + 1, a, b, hb, h => by
   by_cases ha : a < 0
   ·rw [mO ha] at h
    refine ⟨by rw [mO ha]; exact h,?_⟩
    rw [cQ (mi ha),cQ (mi ha)]
   ·obtain ⟨h1,h2⟩:=kP (by omega) h
    obtain ⟨h3,h4⟩:=sU hb h2
    refine ⟨by rw [upI,if_neg ha,if_pos h1]; exact h3,?_⟩
    by_cases hin : inR a 0 (ps.length - 1) = true
    ·rw [cA hin,cA hin,h4]
    ·rw [cQ hin,cQ hin]
theorem DA {a b : Int} (hb : b < 0) {m : Nat} (h : upI ps m a = some b) : ∀ k,upI ps (m + k) a = some b /\ bo ps (m + k) a = bo ps m a
 | 0=>⟨h,rfl⟩
 | k + 1 => by
   obtain ⟨h1,h2⟩:=DA hb h k
   obtain ⟨h3,h4⟩:=sU hb h1
   exact ⟨h3,h4.trans h2⟩
theorem x7 : ∀ (m : Nat) (a : Int),∀ x ∈ bo ps m a,0 <= x /\ x < ps.length
 | 0,a,x,hx=>by simp [bo] at hx
 | m + 1, a, x, hx => by
   by_cases h : inR a 0 (ps.length - 1) = true
   ·rw [cA h] at hx
    simp only [inR,Jq,Xj] at h
    rcases Zz.1 hx with h' | h'
    ·omega
    ·exact x7 m _ x h'
   ·rw [cQ h] at hx; simp at hx
theorem rn : ∀ {m : Nat} {a b : Int},b < 0 -> 0 <= a -> a < ps.length -> upI ps m a = some b -> ∀ x ∈ (bo ps m a).tail,∃ m',upI ps m' x = some b /\ (bo ps m' x).length < (bo ps m a).length
 | 0,a,b,_,_,_,_,x,hx=>by simp [bo] at hx
 | m + 1, a, b, hb, ha, hl, h, x, hx => by
   have hin : inR a 0 (ps.length - 1) = true:=by simp only [inR,Jq,Xj]; omega
   obtain ⟨h1,h2⟩:=kP ha h
   rw [cA hin] at hx ⊢
   simp only [List.tail_cons] at hx
   cases m with
   | zero=>simp [bo] at hx
   | succ m =>
     by_cases hq : inR (nxP ps a) 0 (ps.length - 1) = true
     ·have hq':=hq
      simp only [inR,Jq,Xj] at hq'
      rw [cA hq] at hx
      rcases Zz.1 hx with h' | h'
      ·subst h'; exact ⟨m + 1,h2,by simp⟩
      ·have:=rn hb hq'.1 (by omega) h2 x (by rw [cA hq]; exact h')
       obtain ⟨m',e1,e2⟩:=this
       exact ⟨m',e1,by simp only [Qv]; omega⟩
     ·rw [cQ hq] at hx; simp at hx
theorem x8 : ∀ {m : Nat} {a b : Int},b < 0 -> 0 <= a -> a < ps.length -> upI ps m a = some b -> (bo ps m a).Nodup
 | 0,a,b,_,_,_,_=>by simp [bo]
 | m + 1, a, b, hb, ha, hl, h => by
   have hin : inR a 0 (ps.length - 1) = true:=by simp only [inR,Jq,Xj]; omega
   have ht:=rn hb ha hl h
   obtain ⟨h1,h2⟩:=kP ha h
   have hu:=DA hb h
   have e : bo ps (m + 1) a = a :: bo ps m (nxP ps a):=cA hin
   rw [e,List.nodup_cons]
   refine ⟨fun hm=>?_,?_⟩
   ·obtain ⟨m',e1,e2⟩:=ht a (by rw [e]; exact hm)
    have hu':=DA hb e1
    have a1:=(hu m').2
    have a2:=(hu' (m + 1)).2
    rw [Nat.add_comm] at a2
    rw [<- a1,a2] at e2
    omega
   ·by_cases hq : inR (nxP ps a) 0 (ps.length - 1) = true
    ·simp only [inR,Jq,Xj] at hq
     exact x8 hb hq.1 (by omega) h2
    ·rw [cQ hq]; simp
theorem uG {m : Nat} {a b : Int} (hb : b < 0) (ha : 0 <= a) (hl : a < ps.length) (h : upI ps m a = some b) : (bo ps m a).length <= ps.length:=
 dF ps.length _ (x8 hb ha hl h) fun x hx=>by have:=x7 _ _ x hx; omega
theorem pF {x : Int} {l : List Int} (h : l ≠ []) : gM (x :: l) = gM l:=by
 cases l with
 | nil=>exact absurd rfl h
 | cons y r=>simp [gM]
theorem rm : ∀ {m : Nat} {a b : Int},b < 0 -> 0 <= a -> a < ps.length -> upI ps m a = some b -> 0 < m /\ bo ps m a ≠ [] /\ nxP ps (gM (bo ps m a)) = -1 /\ 0 <= gM (bo ps m a) /\ gM (bo ps m a) < ps.length
 | 0,a,b,hb,ha,_,h=>by simp only [upI,Jx] at h; omega
 | m + 1, a, b, hb, ha, hl, h => by
   have hin : inR a 0 (ps.length - 1) = true:=by simp only [inR,Jq,Xj]; omega
   obtain ⟨h1,h2⟩:=kP ha h
   have e : bo ps (m + 1) a = a :: bo ps m (nxP ps a):=cA hin
   rw [e]
   refine ⟨by omega,by simp,?_⟩
   simp only [inR,Jq,Xj] at h1
   by_cases hq : 0 <= nxP ps a
   ·obtain ⟨_,e1,e2,e3,e4⟩:=rm hb hq (by omega) h2
    rw [pF e1]; exact ⟨e2,e3,e4⟩
   ·have hnil : bo ps m (nxP ps a) = []:=cQ (mi (by omega))
    rw [hnil]
    simp only [gM,List.length_singleton,Nat.sub_self,List.getD_cons_zero]
    exact ⟨by omega,ha,hl⟩
theorem x9 : ∀ {m : Nat} {a : Int},0 <= a -> a < ps.length -> (bo ps m a).length < m -> nxP ps (gM (bo ps m a)) = -1 -> upI ps m a = some (-1)
 | 0,a,_,_,h,_=>by omega
 | m + 1, a, ha, hl, h, he => by
   have hin : inR a 0 (ps.length - 1) = true:=by simp only [inR,Jq,Xj]; omega
   have e : bo ps (m + 1) a = a :: bo ps m (nxP ps a):=cA hin
   rw [e] at h he
   simp only [Qv] at h
   rw [upI,if_neg (by omega)]
   by_cases hq : inR (nxP ps a) 0 (ps.length - 1) = true
   ·simp only [inR,Jq,Xj] at hq
    have hne : bo ps m (nxP ps a) ≠ []:=by
     cases m with
     | zero=>omega
     | succ m=>rw [cA (by simp only [inR,Jq,Xj]; omega)]; simp
    rw [pF hne] at he
    rw [if_pos (by simp only [inR,Jq,Xj]; omega)]
    exact x9 hq.1 (by omega) (by omega) he
   ·have hnil : bo ps m (nxP ps a) = []:=cQ hq
    rw [hnil] at he
    simp only [gM,List.length_singleton,Nat.sub_self,List.getD_cons_zero] at he
    rw [he,if_pos (by simp only [inR,Jq,Xj]; omega)]
    exact mO (by omega)
theorem eJ {i : Nat} (h : i < ps.length) : nxP ps i = ps[i]:=by
 rw [nxP,Int.toNat_natCast,ak _ h]
theorem wP {α : Type} {p : α -> Bool} {l : List α} {i j : Nat} (hij : i < j) (hj : j < l.length) (h1 : p (l[i]'(by omega)) = true) (h2 : p l[j] = true) : 2 <= (l.filter p).length:=by
 have e : l.filter p = (l.take (i + 1)).filter p ++ (l.drop (i + 1)).filter p:=by rw [<- List.filter_append,List.take_append_drop]
 have m1 : l[i]'(by omega) ∈ (l.take (i + 1)).filter p:=List.mem_filter.2 ⟨by
  rw [Jz (by omega)]; exact Qq.2 (.inr (Qg.2 rfl)),h1⟩
 have m2 : l[j] ∈ (l.drop (i + 1)).filter p:=List.mem_filter.2 ⟨by
  rw [List.mem_iff_getElem]
  exact ⟨j - (i + 1),by simp; omega,by simp only [List.getElem_drop]; congr 1; omega⟩,h2⟩
 have l1:=List.length_pos_of_mem m1
 have l2:=List.length_pos_of_mem m2
 rw [e,Qw]; omega
theorem pK {i j : Nat} (h : oneR ps = 1) (hi : i < ps.length) (hj : j < ps.length) (e1 : ps[i] = -1) (e2 : ps[j] = -1) : i = j:=by
 rcases Nat.lt_trichotomy i j with hc | hc | hc
 ·have:=wP (p:=fun p : Int=>p == -1) hc hj (by simp [e1]) (by simp [e2])
  simp only [oneR] at h; omega
 ·exact hc
 ·have:=wP (p:=fun p : Int=>p == -1) hc hi (by simp [e2]) (by simp [e1])
  simp only [oneR] at h; omega
theorem oB (h : oneR ps = 1) : ∃ r : Nat,dM ps = (r : Int) /\ ∃ hr : r < ps.length,ps[r] = -1:=by
 have hm : ∃ x ∈ ps,(x == (-1 : Int)) = true:=by
  have : 0 < (ps.filter fun p=>p == (-1 : Int)).length:=by simp only [oneR] at h; omega
  obtain ⟨x,hx⟩:=List.exists_mem_of_length_pos this
  obtain ⟨h1,h2⟩:=List.mem_filter.1 hx
  exact ⟨x,h1,h2⟩
 have hl:=List.findIdx_lt_length_of_exists hm
 refine ⟨ps.findIdx fun p=>p == -1,by rw [dM,if_pos h],hl,?_⟩
 have:=List.findIdx_getElem (w:=hl)
 simpa using this
theorem po {o : Option Int} : jj o = true ↔ ∃ b,o = some b /\ b < 0:=by
 cases o with
 | none=>simp [jj]
 | some b=>simp [jj]
theorem oD (ps : List Int) : eW ps = rK ps:=by
 rw [Bool.eq_iff_iff]
 simp only [eW,rK,Jq,Xj,Jk,Zg]
 constructor
 ·rintro ⟨h1,h2⟩
  have hpar : ∀ i (h : i < ps.length),-1 <= ps[i] /\ ps[i] <= ps.length - 1:=fun i h=>by
   have:=h1 i h
   simp only [cU,Jq,eJ h] at this
   simpa [inR] using this.1
  have hone : oneR ps = 1:=by
   rw [<- h2,oneR,sJ]
   congr 1
   refine List.filter_congr fun x hx=>?_
   obtain ⟨i,hi,rfl⟩:=List.mem_iff_getElem.1 hx
   have:=hpar i hi
   by_cases e : ps[i] = -1
   ·simp [e]
   ·simp [e]; omega
  obtain ⟨r,hr,hrl,hre⟩:=oB hone
  refine ⟨by omega,fun i hi=>?_⟩
  have hi':=h1 i hi
  simp only [cU,Jq] at hi'
  obtain ⟨b,hu,hb⟩:=po.1 hi'.2
  have hlen:=uG hb (by omega) (by omega) hu
  obtain ⟨_,_,e2,e3,e4⟩:=rm hb (by omega) (by omega) hu
  simp only [jo,Jq,Xj]
  refine ⟨hlen,?_⟩
  obtain ⟨l,hl⟩ : ∃ l : Nat,gM (bo ps (ps.length + 1) i) = (l : Int):=⟨(gM (bo ps (ps.length + 1) i)).toNat,by omega⟩
  rw [hl] at e2 e4 ⊢
  have hll : l < ps.length:=by omega
  rw [eJ hll] at e2
  rw [hr,pK hone hll hrl e2 hre]
 ·rintro ⟨h1,h2⟩
  have hone : oneR ps = 1:=by
   by_cases hc : oneR ps = 1
   ·exact hc
   ·rw [dM,if_neg hc] at h1; omega
  obtain ⟨r,hr,hrl,hre⟩:=oB hone
  have hu : ∀ i,i < ps.length -> upI ps (ps.length + 1) i = some (-1):=fun i hi=>by
   have:=h2 i hi
   simp only [jo,Jq,Xj] at this
   refine x9 (by omega) (by omega) (by omega) ?_
   rw [this.2,hr,eJ hrl,hre]
  have hpar : ∀ i,i < ps.length -> inR (nxP ps i) (-1) (ps.length - 1) = true:=fun i hi=>(kP (by omega) (hu i hi)).1
  refine ⟨fun i hi=>?_,?_⟩
  ·simp only [cU,hpar i hi,hu i hi,jj]; decide
  ·rw [<- hone,oneR,sJ]
   congr 1
   refine List.filter_congr fun x hx=>?_
   obtain ⟨i,hi,rfl⟩:=List.mem_iff_getElem.1 hx
   have:=hpar i hi
   rw [eJ hi] at this
   simp only [inR,Jq,Xj] at this
   by_cases e : ps[i] = -1
   ·simp [e]
   ·simp [e]; omega
end
def iL (b : List Int) (i : Nat) : Bool:=decide (i = 0) || decide (b.getD (i - 1) 0 < b.getD i 0)
def ascB (b : List Int) : Bool:=(List.range b.length).all (iL b)
def bagI (n : Int) (b : List Int) : Bool:=decide (0 < b.length) && ascB b && cJ b n
def cp (n : Int) (b : List Int) (i : Nat) : Bool:=inR (b.getD i 0) 0 (IntKind.i64.wrap (n - 1)) && iL b i
def bagS (n : Int) (b : List Int) : Bool:=(List.range b.length).all (cp n b) && decide (0 < b.length)
theorem vM {b : List Int} (h : ascB b = true) : b.Pairwise (· < ·):=by
 simp only [ascB,Jk,Zg] at h
 have key : ∀ n i,i + n + 1 < b.length -> b.getD i 0 < b.getD (i + n + 1) 0:=by
  intro n
  induction n with
  | zero =>
    intro i hi
    have:=h (i + 1) (by omega)
    simp only [iL,Xx,Xj] at this
    simpa using this
  | succ n ih =>
    intro i hi
    have h1:=ih i (by omega)
    have:=h (i + n + 1 + 1) (by omega)
    simp only [iL,Xx,Xj] at this
    have h2 : b.getD (i + n + 1) 0 < b.getD (i + n + 1 + 1) 0:=by simpa using this
    exact Int.lt_trans h1 h2
 refine List.pairwise_iff_getElem.2 fun i j hi hj hij=>?_
 have:=key (j - i - 1) i (by omega)
 rw [show i + (j - i - 1) + 1 = j by omega,ak _ hi,ak _ hj] at this
 exact this
theorem AC (n : Int) (b : List Int) : bagI n b = bagS n b:=by
 rw [Bool.eq_iff_iff]
 simp only [bagI,bagS,ascB,Jq,Xj,Jk,Zg,cp]
 constructor
 ·rintro ⟨⟨h1,h2⟩,h3⟩
  refine ⟨fun i hi=>⟨?_,h2 i hi⟩,h1⟩
  simp only [cJ,Jq,Jk] at h3
  rw [ak _ hi]; exact h3.1 _ (Jy hi)
 ·rintro ⟨h1,h2⟩
  refine ⟨⟨h2,fun i hi=>(h1 i hi).2⟩,?_⟩
  have hpw:=vM (b:=b) (by simp only [ascB,Jk,Zg]; exact fun i hi=>(h1 i hi).2)
  simp only [cJ,Jq,Jk,Xj]
  refine ⟨fun x hx=>?_,hpw.imp fun h e=>by omega⟩
  obtain ⟨i,hi,rfl⟩:=List.mem_iff_getElem.1 hx
  have:=(h1 i hi).1
  rwa [ak _ hi] at this
def nN (a : aH) : List Int:=(aI 5).filter fun v=>a.vars.contains v
def fA (x y : List Int) : List Int:=x.filter fun v=>y.contains v
def inAB (a : aH) (b : List Int) : Bool:=decide ((fA (nN a) b).length = (nN a).length)
def insD (a : aH) (b : List Int) : Bool:=a.vars.all fun v=>b.contains v
theorem sr {a : aH} {n : Int} (hn : 1 <= n /\ n <= 5) (h : b6 n a = true) (b : List Int) : inAB a b = insD a b:=by
 rw [Bool.eq_iff_iff]
 simp only [inAB,insD,Xj,fA,List.length_filter_eq_length_iff,Jk]
 have hv : ∀ v ∈ a.vars,0 <= v /\ v < 5:=fun v hv=>by
  simp only [b6,Jq,Jk] at h
  have:=h.2 v hv
  rw [aj (by omega) (by omega)] at this
  simp only [inR,Jq,Xj] at this
  omega
 constructor
 ·intro h1 v hva
  have h2:=hv v hva
  refine h1 v (List.mem_filter.2 ⟨?_,by simpa using hva⟩)
  simp only [aI,Xz,Zg]
  exact ⟨v.toNat,by omega,by omega⟩
 ·intro h1 v hva
  have:=(List.mem_filter.1 hva).2
  exact h1 v (by simpa using this)
def bR (bags : List (List Int)) (ps : List Int) (v : Int) (i : Nat) : Bool:=(bags.getD i []).contains v && (decide (ps.getD i 0 < 0) || !((bags.getD (ps.getD i 0).toNat []).contains v))
def topN (bags : List (List Int)) (ps : List Int) (v : Int) (i : Nat) : Nat:=((List.range i).filter (bR bags ps v)).length
theorem rJ (bags : List (List Int)) (ps : List Int) (v : Int) (i : Nat) : topN bags ps v (i + 1) = topN bags ps v i + if bR bags ps v i then 1 else 0:=by
 rw [topN,List.range_succ,List.filter_append,Qw]
 cases h : bR bags ps v i <;> simp [topN,h]
theorem yF (bags : List (List Int)) (ps : List Int) (v : Int) (i : Nat) : topN bags ps v i <= i:=by
 have:=Xy (bR bags ps v) (List.range i)
 simpa [topN] using this
def gE (bags : List (List Int)) (a : aH) : Bool:=bags.any fun b=>inAB a b
def bH (q : ab) (d : PDec) : Bool:=aw q && decide (d.bags.length = d.par.length) && eW d.par && d.bags.all (bagI q.n) && q.atoms.all (gE d.bags) && (List.range q.n.toNat).all fun v=>decide (topN d.bags d.par (v : Int) d.bags.length = 1)
def eM (q : ab) (d : PDec) (i : Nat) : Bool:=bagS q.n (d.bags.getD i []) && jo d.par i
theorem xw {q : ab} {d : PDec} (h : aw q = false) : bH q d = false:=by simp only [bH,h,Zh]
theorem xv {q : ab} {d : PDec} (h : ¬ d.bags.length = d.par.length) : bH q d = false:=by simp only [bH,decide_eq_false h,Zh,Bool.and_false]
theorem sh {q : ab} {d : PDec} (h : eW d.par = false) : bH q d = false:=by simp only [bH,h,Zh,Bool.and_false]
theorem Ef {q : ab} {d : PDec} (h : dM d.par < 0) : bH q d = false:=sh (by rw [oD,rK,decide_eq_false (by omega),Zh])
theorem xu {q : ab} {d : PDec} {i : Nat} (hi : i < d.bags.length) (h : bagI q.n d.bags[i] = false) : bH q d = false:=by
 have : d.bags.all (bagI q.n) = false:=bn hi h
 simp only [bH,this,Zh,Bool.and_false]
theorem Ee {q : ab} {d : PDec} {i : Nat} (hl : d.bags.length = d.par.length) (hi : i < d.bags.length) (h : eM q d i = false) : bH q d = false:=by
 rw [eM,ak _ hi,<- AC] at h
 cases hb : bagI q.n d.bags[i]
 ·exact xu hi hb
 ·rw [hb,Bool.true_and] at h
  refine sh ?_
  rw [oD,rK]
  have : (List.range d.par.length).all (jo d.par) = false:=bn (p:=jo d.par) (l:=List.range d.par.length) (i:=i) (by simp; omega) (by simpa using h)
  rw [this,Bool.and_false]
theorem xt {q : ab} {d : PDec} {i : Nat} (hi : i < q.atoms.length) (h : gE d.bags q.atoms[i] = false) : bH q d = false:=by
 have : q.atoms.all (gE d.bags) = false:=bn hi h
 simp only [bH,this,Zh,Bool.and_false]
theorem xx {q : ab} {d : PDec} {v : Nat} (hv : v < q.n.toNat) (h : ¬ topN d.bags d.par (v : Int) d.bags.length = 1) : bH q d = false:=by
 have : ((List.range q.n.toNat).all fun v=>decide (topN d.bags d.par (v : Int) d.bags.length = 1)) = false:=bn (p:=fun v : Nat=>decide (topN d.bags d.par (v : Int) d.bags.length = 1)) (l:=List.range q.n.toNat) (i:=v) (by simpa using hv) (by simpa using h)
 simp only [bH,this,Bool.and_false]
theorem qQ {q : ab} {d : PDec} (h1 : aw q = true) (h2 : d.bags.length = d.par.length) (h3 : eW d.par = true) (h4 : d.bags.all (bagI q.n) = true) (h5 : q.atoms.all (gE d.bags) = true) (h6 : ((List.range q.n.toNat).all fun v=>decide (topN d.bags d.par (v : Int) d.bags.length = 1)) = true) : bH q d = true:=by
 simp only [bH,h1,h3,h4,h5,h6,decide_eq_true h2]; rfl
theorem places {q : ab} {d : PDec} (hl : d.bags.length = d.par.length) (hr : 0 <= dM d.par) (h : (List.range d.bags.length).all (eM q d) = true) : eW d.par = true /\ d.bags.all (bagI q.n) = true:=by
 simp only [Jk,Zg,eM,Jq] at h
 constructor
 ·rw [oD,rK,decide_eq_true hr,Bool.true_and]
  simp only [Jk,Zg]
  exact fun i hi=>(h i (by omega)).2
 ·simp only [Jk]
  intro b hb
  obtain ⟨i,hi,rfl⟩:=List.mem_iff_getElem.1 hb
  have:=(h i hi).1
  rwa [ak _ hi,<- AC] at this
structure AscI (b : List Int) (i : Nat) : Prop where
 le : 1 <= i /\ i <= b.length + 1
 ok : ∀ j,j < i -> j < b.length -> iL b j = true
theorem AscI.one {b : List Int} : AscI b 1:=by
 refine ⟨by omega,fun j hj _=>?_⟩
 have : j = 0:=by omega
 subst this
 simp [iL]
theorem lZ {b : List Int} {i : Nat} (h1 : 1 <= i) (hi : i < b.length) : iL b i = decide (b[i - 1]'(by omega) < b[i]):=by
 rw [iL,ak _ hi,ak _ (show i - 1 < b.length by omega),decide_eq_false (by omega),Bool.false_or]
theorem AscI.step {b : List Int} {i : Nat} (h : AscI b i) (hi : i < b.length) (e : b[i - 1]'(by omega) < b[i]) : AscI b (i + 1):=
 ⟨by omega,fun j hj hl=>by
  by_cases hc : j < i
  ·exact h.ok j hc hl
  ·have : j = i:=by omega
   subst this; rw [lZ h.le.1 hl]; simpa using e⟩
theorem AscI.done {b : List Int} {i : Nat} (h : AscI b i) (hi : b.length <= i) : ascB b = true:=by
 simp only [ascB,Jk,Zg]
 exact fun j hj=>h.ok j (by omega) hj
theorem D3 {b : List Int} {i : Nat} (h1 : 1 <= i) (hi : i < b.length) (e : ¬ b[i - 1]'(by omega) < b[i]) : ascB b = false:=
 bn (p:=iL b) (l:=List.range b.length) (i:=i) (by simpa using hi) (by simp only [List.getElem_range]; rw [lZ h1 hi]; simpa using e)
structure BagI (n : Int) (b : List Int) (i : Nat) : Prop where
 le : i <= b.length
 ok : bP (cp n b) (List.range b.length) i
theorem BagI.zero {n : Int} {b : List Int} : BagI n b 0:=⟨by omega,aQ⟩
theorem BagI.step {n : Int} {b : List Int} {i : Nat} (h : BagI n b i) (hi : i < b.length) (e : cp n b i = true) : BagI n b (i + 1):=⟨hi,aM h.ok (by simpa using hi) (by simpa using e)⟩
theorem BagI.done {n : Int} {b : List Int} {i : Nat} (h : BagI n b i) (hi : b.length <= i) : bagS n b = decide (0 < b.length):=by
 rw [bagS,aP h.ok (by simpa using hi),Bool.true_and]
theorem tq {n : Int} {b : List Int} {i : Nat} (hi : i < b.length) (e : cp n b i = false) : bagS n b = false:=by
 have : (List.range b.length).all (cp n b) = false:=bn (p:=cp n b) (l:=List.range b.length) (i:=i) (by simpa using hi) (by simpa using e)
 rw [bagS,this,Zh]
theorem y4 {l b : List Int} {i : Nat} (h : i < l.length) : fA (l.take (i + 1)) b = fA (l.take i) b ++ if b.contains l[i] then [l[i]] else []:=by
 rw [Jz h,fA,List.filter_append]
 cases e : b.contains l[i] <;> simp only [fA,List.filter_cons,e,List.filter_nil] <;> simp
def avTo (a : aH) (i : Nat) : List Int:=(aI i).filter fun v=>a.vars.contains v
theorem yO (a : aH) (i : Nat) : avTo a (i + 1) = avTo a i ++ if a.vars.contains (i : Int) then [(i : Int)] else []:=by
 rw [avTo,en,List.filter_append]
 cases e : a.vars.contains (i : Int) <;> simp only [avTo,List.filter_cons,e,List.filter_nil] <;> simp
theorem tp (a : aH) (i : Nat) : (avTo a i).length <= i:=by
 have:=Xy (fun v=>a.vars.contains v) (aI i)
 simpa [avTo] using this
structure InTo (b : List Int) (a : aH) (i : Nat) : Prop where
 le : i <= a.vars.length
 ok : bP (fun v=>b.contains v) a.vars i
theorem InTo.zero {b : List Int} {a : aH} : InTo b a 0:=⟨by omega,aQ⟩
theorem InTo.step {b : List Int} {a : aH} {i : Nat} (h : InTo b a i) (hi : i < a.vars.length) (e : a.vars[i] ∈ b) : InTo b a (i + 1):=⟨hi,aM h.ok hi (by simpa using e)⟩
theorem InTo.done {b : List Int} {a : aH} {i : Nat} (h : InTo b a i) (hi : a.vars.length <= i) : insD a b = true:=aP h.ok hi
theorem Ez {b : List Int} {a : aH} {i : Nat} (hi : i < a.vars.length) (e : ¬ a.vars[i] ∈ b) : insD a b = false:=bn (p:=fun v=>b.contains v) hi (by simpa using e)
structure TreI (ps : List Int) (i : Nat) : Prop where
 le : i <= ps.length
 ok : bP (cU ps) (List.range ps.length) i
theorem TreI.zero {ps : List Int} : TreI ps 0:=⟨by omega,aQ⟩
theorem TreI.step {ps : List Int} {i : Nat} (h : TreI ps i) (hi : i < ps.length) (e : cU ps i = true) : TreI ps (i + 1):=⟨hi,aM h.ok (by simpa using hi) (by simpa using e)⟩
def dH (ps : List Int) (i : Nat) : Nat:=((ps.take i).filter fun p=>decide (p < 0)).length
theorem sK {ps : List Int} {i : Nat} (h : i < ps.length) : dH ps (i + 1) = dH ps i + if ps[i] < 0 then 1 else 0:=by
 rw [dH,Jz h,List.filter_append,Qw]
 by_cases e : ps[i] < 0 <;> simp [dH,e]
theorem wG (ps : List Int) (i : Nat) : dH ps i <= i:=by
 have:=Xy (fun p : Int=>decide (p < 0)) (ps.take i)
 rw [Zq] at this
 simp only [dH]; omega
theorem TreI.done {ps : List Int} {i : Nat} (h : TreI ps i) (hi : ps.length <= i) : eW ps = decide (dH ps i = 1):=by
 rw [eW,aP h.ok (by simpa using hi),Bool.true_and,dH,Jj hi]; rfl
theorem z5 {ps : List Int} {i : Nat} (hi : i < ps.length) (e : cU ps i = false) : eW ps = false:=by
 have : (List.range ps.length).all (cU ps) = false:=bn (p:=cU ps) (l:=List.range ps.length) (i:=i) (by simpa using hi) (by simpa using e)
 rw [eW,this,Zh]
structure UpT (ps : List Int) (i : Nat) (p : Nat × Int) : Prop where
 le : p.1 <= ps.length + 1
 at_ : -1 <= p.2 /\ p.2 <= ps.length - 1
 up : upI ps (ps.length + 1) i = upI ps (ps.length + 1 - p.1) p.2
theorem ve {ps : List Int} {m : Nat} {a : Int} (ha : 0 <= a) : upI ps (m + 1) a = if inR (nxP ps a) (-1) (ps.length - 1) then upI ps m (nxP ps a) else none:=by rw [upI,if_neg (by omega)]
theorem UpT.step {ps : List Int} {i k : Nat} {a q : Int} (h : UpT ps i (k,a)) (hk : k <= ps.length) (ha : 0 <= a) (e : nxP ps a = q) (hq : inR q (-1) (ps.length - 1) = true) : UpT ps i (k + 1,q):=by
 have h1:=h.up
 simp only at h1
 rw [show ps.length + 1 - k = (ps.length - k) + 1 by omega,ve (m:=ps.length - k) ha,e,if_pos hq] at h1
 simp only [inR,Jq,Xj] at hq
 exact ⟨by simp only; omega,hq,by rw [h1]; simp only; rw [show ps.length + 1 - (k + 1) = ps.length - k by omega]⟩
theorem UpT.bad {ps : List Int} {i k : Nat} {a q : Int} (h : UpT ps i (k,a)) (hk : k <= ps.length) (ha : 0 <= a) (e : nxP ps a = q) (hq : inR q (-1) (ps.length - 1) = false) : cU ps i = false:=by
 have h1:=h.up
 simp only at h1
 rw [show ps.length + 1 - k = (ps.length - k) + 1 by omega,ve (m:=ps.length - k) ha,e,if_neg (by simp [hq])] at h1
 rw [cU,h1]; simp [jj]
theorem UpT.fin {ps : List Int} {i k : Nat} {a : Int} (h : UpT ps i (k,a)) (hk : ¬ (k <= ps.length /\ 0 <= a)) : jj (upI ps (ps.length + 1) i) = decide (a < 0):=by
 have h1:=h.up
 have hle:=h.le
 simp only at h1 hle
 rw [h1]
 by_cases ha : a < 0
 ·rw [mO ha]; rfl
 ·have : ps.length + 1 - k = 0:=by omega
  rw [this]; rfl
structure ie (ps : List Int) (p : Nat × Int) : Prop where
 le : p.1 <= ps.length
 no : p.2 = -1 -> ∀ j (h : j < ps.length),j < p.1 -> ps[j] ≠ -1
 some : p.2 ≠ -1 -> ∃ r : Nat,p.2 = (r : Int) /\ r < p.1 /\ ∃ hr : r < ps.length,ps[r] = -1 /\ ∀ j (h : j < ps.length),j < p.1 -> j ≠ r -> ps[j] ≠ -1
theorem zK {ps : List Int} (h : ∀ j (h : j < ps.length),ps[j] ≠ -1) : oneR ps = 0:=by
 rw [oneR,List.length_eq_zero_iff,List.filter_eq_nil_iff]
 intro x hx
 obtain ⟨i,hi,rfl⟩:=List.mem_iff_getElem.1 hx
 simpa using h i hi
theorem Cl {ps : List Int} {r : Nat} (hr : r < ps.length) (e : ps[r] = -1) (h : ∀ j (h : j < ps.length),j ≠ r -> ps[j] ≠ -1) : oneR ps = 1:=by
 have e0 : ps = ps.take r ++ ps[r] :: ps.drop (r + 1):=by rw [<- List.drop_eq_getElem_cons hr,List.take_append_drop]
 have h1 : ((ps.take r).filter fun p=>p == (-1 : Int)) = []:=by
  rw [List.filter_eq_nil_iff]; intro x hx
  obtain ⟨i,hi,rfl⟩:=List.mem_iff_getElem.1 hx
  rw [Zq] at hi
  rw [List.getElem_take]
  simpa using h i (by omega) (by omega)
 have h2 : ((ps.drop (r + 1)).filter fun p=>p == (-1 : Int)) = []:=by
  rw [List.filter_eq_nil_iff]; intro x hx
  obtain ⟨i,hi,rfl⟩:=List.mem_iff_getElem.1 hx
  rw [List.length_drop] at hi
  rw [List.getElem_drop]
  simpa using h (r + 1 + i) (by omega) (by omega)
 rw [oneR,e0,List.filter_append,List.filter_cons,h1,h2,e]; simp
theorem ie.done {ps : List Int} {i : Nat} {o : Int} (h : ie ps (i,o)) (hi : ps.length <= i) : dM ps = o:=by
 by_cases ho : o = -1
 ·have:=zK fun j hj=>h.no ho j hj (by simp only; omega)
  rw [dM,if_neg (by omega),ho]
 ·obtain ⟨r,e,_,hr,e1,e2⟩:=h.some ho
  have h1:=Cl hr e1 fun j hj hne=>e2 j hj (by simp only; omega) hne
  obtain ⟨r',e',hr',e1'⟩:=oB h1
  rw [e',pK h1 hr' hr e1' e1]; exact e.symm
theorem ie.two {ps : List Int} {i : Nat} {o : Int} (h : ie ps (i,o)) (ho : 0 <= o) (hi : i < ps.length) (e : ps[i] = -1) : dM ps = -1:=by
 obtain ⟨r,_,hlt,hr,e1,_⟩:=h.some (by simp only; omega)
 simp only at hlt
 have:=wP (p:=fun p : Int=>p == -1) hlt hi (by simp [e1]) (by simp [e])
 rw [dM,if_neg (by simp only [oneR]; omega)]
theorem ie.put {ps : List Int} {i : Nat} {o : Int} (h : ie ps (i,o)) (ho : o < 0) (hi : i < ps.length) (e : ps[i] = -1) : ie ps (i + 1,(i : Int)):=by
 have ho' : o = -1:=by
  by_cases hc : o = -1
  ·exact hc
  ·obtain ⟨r,e,_⟩:=h.some hc
   simp only at e; omega
 exact ⟨by simp only; omega,fun hc=>by simp only at hc; omega,fun _=>⟨i,rfl,by simp only; omega,hi,e,fun j hj hji hne=>h.no ho' j hj (by simp only at hji ⊢; omega)⟩⟩
theorem ie.skip {ps : List Int} {i : Nat} {o : Int} (h : ie ps (i,o)) (hi : i < ps.length) (e : ps[i] ≠ -1) : ie ps (i + 1,o):=by
 refine ⟨by simp only; omega,fun hc j hj hji=>?_,fun hc=>?_⟩
 ·by_cases hx : j = i
  ·subst hx; exact e
  ·exact h.no hc j hj (by simp only at hji ⊢; omega)
 ·obtain ⟨r,e1,e2,hr,e3,e4⟩:=h.some hc
  simp only at e2
  exact ⟨r,e1,by simp only; omega,hr,e3,fun j hj hji hne=>by
   by_cases hx : j = i
   ·subst hx; exact e
   ·exact e4 j hj (by simp only at hji ⊢; omega) hne⟩
theorem ie.zero {ps : List Int} : ie ps (0,-1):=⟨by simp,fun _ j _ hj=>by simp at hj,fun h=>absurd rfl h⟩
structure nK (ps : List Int) (k0 : Int) (p : Int × List Int) : Prop where
 le : p.2.length <= ps.length + 1
 eq : bo ps (ps.length + 1) k0 = p.2 ++ bo ps (ps.length + 1 - p.2.length) p.1
theorem nK.zero {ps : List Int} {k0 : Int} : nK ps k0 (k0,[]):=⟨by simp,by simp⟩
theorem nK.step {ps : List Int} {k0 k : Int} {o : List Int} (h : nK ps k0 (k,o)) (hk : inR k 0 (ps.length - 1) = true) (ho : o.length <= ps.length) : nK ps k0 (nxP ps k,o ++ [k]):=by
 have h1:=h.eq
 simp only at h1
 rw [show ps.length + 1 - o.length = (ps.length - o.length) + 1 by omega,cA hk] at h1
 refine ⟨by simp only [Qw,List.length_singleton]; omega,?_⟩
 simp only [Qw,List.length_singleton]
 rw [h1,show ps.length + 1 - (o.length + 1) = ps.length - o.length by omega]; simp
theorem nK.done {ps : List Int} {k0 k : Int} {o : List Int} (h : nK ps k0 (k,o)) (hk : ¬ (inR k 0 (ps.length - 1) = true /\ o.length <= ps.length)) : bo ps (ps.length + 1) k0 = o:=by
 have h1:=h.eq
 have hle:=h.le
 simp only at h1 hle
 by_cases hc : inR k 0 (ps.length - 1) = true
 ·have : ps.length + 1 - o.length = 0:=by
   have : ¬ o.length <= ps.length:=fun hh=>hk ⟨hc,hh⟩
   omega
  rw [h1,this]; simp [bo]
 ·rw [h1,cQ hc,List.append_nil]
def ig {α : Type} (f : α -> Bool) (l : List α) (k : Nat) : Bool:=(l.take k).any f
theorem oM {α : Type} (f : α -> Bool) (l : List α) : ig f l 0 = false:=by simp [ig]
theorem oL {α : Type} {f : α -> Bool} {l : List α} {k : Nat} (h : k < l.length) : ig f l (k + 1) = (ig f l k || f l[k]):=by
 rw [ig,Jz h,List.any_append]; simp [ig]
theorem qH {α : Type} {f : α -> Bool} {l : List α} {k : Nat} (h : l.length <= k) : ig f l k = l.any f:=by rw [ig,Jj h]
theorem u4 {ps : List Int} (h : eW ps = true) (i : Nat) (hi : i < ps.length) : -1 <= ps[i] /\ ps[i] < ps.length:=by
 simp only [eW,Jq,Jk,Zg] at h
 have:=h.1 i hi
 simp only [cU,Jq,eJ hi] at this
 have:=this.1
 simp only [inR,Jq,Xj] at this
 omega
theorem ER {ps : List Int} {i : Nat} (h : i < ps.length) : 0 < (bo ps (ps.length + 1) i).length:=by
 rw [cA (by simp only [inR,Jq,Xj]; omega)]; simp
structure ToI {α : Type} (f : α -> Bool) (l : List α) (i : Nat) : Prop where
 le : i <= l.length
 ok : bP f l i
theorem ToI.zero {α : Type} {f : α -> Bool} {l : List α} : ToI f l 0:=⟨by omega,aQ⟩
theorem ToI.step {α : Type} {f : α -> Bool} {l : List α} {i : Nat} (h : ToI f l i) (hi : i < l.length) (e : f l[i] = true) : ToI f l (i + 1):=⟨hi,aM h.ok hi e⟩
theorem ToI.done {α : Type} {f : α -> Bool} {l : List α} {i : Nat} (h : ToI f l i) (hi : l.length <= i) : l.all f = true:=aP h.ok hi
def topV (d : PDec) (v : Nat) : Bool:=decide (topN d.bags d.par (v : Int) d.bags.length = 1)
structure VarI (d : PDec) (n : Nat) (v : Nat) : Prop where
 le : v <= n
 ok : bP (topV d) (List.range n) v
theorem VarI.zero {d : PDec} {n : Nat} : VarI d n 0:=⟨by omega,aQ⟩
theorem VarI.step {d : PDec} {n v : Nat} (h : VarI d n v) (hv : v < n) (e : topN d.bags d.par (v : Int) d.bags.length = 1) : VarI d n (v + 1):=⟨hv,aM h.ok (by simpa using hv) (by simpa [topV] using e)⟩
theorem VarI.done {d : PDec} {n v : Nat} (h : VarI d n v) (hv : n <= v) : ((List.range n).all fun v=>decide (topN d.bags d.par (v : Int) d.bags.length = 1)) = true:=aP h.ok (by simpa using hv)
structure PlI (q : ab) (d : PDec) (i : Nat) : Prop where
 le : i <= d.bags.length
 ok : bP (eM q d) (List.range d.bags.length) i
theorem PlI.zero {q : ab} {d : PDec} : PlI q d 0:=⟨by omega,aQ⟩
theorem PlI.step {q : ab} {d : PDec} {i : Nat} (h : PlI q d i) (hi : i < d.bags.length) (e : eM q d i = true) : PlI q d (i + 1):=⟨hi,aM h.ok (by simpa using hi) (by simpa using e)⟩
theorem PlI.done {q : ab} {d : PDec} {i : Nat} (h : PlI q d i) (hi : d.bags.length <= i) : (List.range d.bags.length).all (eM q d) = true:=aP h.ok (by simpa using hi)
theorem DZ {q : ab} (hq : aw q = true) {a : aH} (ha : a ∈ q.atoms) (bags : List (List Int)) : (bags.any fun b=>insD a b) = gE bags a:=by
 have h1:=bq hq
 have h2 : b6 q.n a = true:=by
  cases hh : q.atoms.all (b6 q.n)
  ·simp only [aw,hh,Zh,Bool.and_false] at hq; cases hq
  ·exact (Jk.1 hh) a ha
 simp only [gE]
 congr 1
 funext b
 exact (sr h1 h2 b).symm
theorem tw : ∀ {a b c : List UInt8},Op.bytesLess a b = true -> Op.bytesLess b c = true -> Op.bytesLess a c = true
 | _,[],_,h,_=>by cases ‹List UInt8› <;> simp [Op.bytesLess] at h
 | _,_ :: _,[],_,h=>by simp [Op.bytesLess] at h
 | [],_ :: _,_ :: _,_,_=>rfl
 | x :: a, y :: b, z :: c, h1, h2 => by
   simp only [Op.bytesLess,Xx,Jq,Xj,beq_iff_eq] at h1 h2 ⊢
   rcases h1 with h1 | ⟨rfl,h1⟩
   ·rcases h2 with h2 | ⟨rfl,h2⟩
    ·exact .inl (UInt8.lt_trans h1 h2)
    ·exact .inl h1
   ·rcases h2 with h2 | ⟨rfl,h2⟩
    ·exact .inl h2
    ·exact .inr ⟨rfl,tw h1 h2⟩
def SrtT (l : List PTab) : Prop:=l.Pairwise fun a b=>Op.bytesLess a.name b.name = true
theorem AY {l : List PTab} (h : dbOk ⟨l⟩ = true) : SrtT l:=by
 simp only [dbOk,Jq,Jk,Zg] at h
 have key : ∀ n i,i + n + 1 < l.length -> Op.bytesLess (l.getD i default).name (l.getD (i + n + 1) default).name = true:=by
  intro n
  induction n with
  | zero =>
    intro i hi
    have:=h.2 (i + 1) (by omega)
    simp only [dbAt,Jq,Xx,Xj] at this
    simpa using this.1
  | succ n ih =>
    intro i hi
    have h1:=ih i (by omega)
    have:=h.2 (i + n + 1 + 1) (by omega)
    simp only [dbAt,Jq,Xx,Xj] at this
    have h2 : Op.bytesLess (l.getD (i + n + 1) default).name (l.getD (i + n + 1 + 1) default).name = true:=by simpa using this.1
    exact tw h1 h2
 refine List.pairwise_iff_getElem.2 fun i j hi hj hij=>?_
 have:=key (j - i - 1) i (by omega)
 rw [show i + (j - i - 1) + 1 = j by omega,ak _ hi,ak _ hj] at this
 exact this
section
variable {α : Type} {c : α -> List D} {wh : α -> Prop}
end
theorem gw {α : Type} {c : α -> List D} {wh : α -> Prop} (n : Nat) : Good (cS c nilS) (whS wh nilS) n:=
 ⟨by simp [cS,nilS,dSl,idsL,D.ids,idsLL],by simp [cS,nilS,dSl,idsL,D.ids,idsLL],⟨fun _=>rfl,fun h=>absurd rfl h⟩,by simp [nilS]⟩
end Go.Vs
