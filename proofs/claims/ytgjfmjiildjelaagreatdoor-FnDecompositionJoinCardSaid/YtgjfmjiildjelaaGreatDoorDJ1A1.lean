/-
  A part of a proof of this seat: a value-level semantics of Go code without maps, walks, plain lemmas. It holds of all that its hypotheses name.
-/
import Derived.Below
import Derived.Orders
import Derived.OwnWalk
import Derived.RowKit
import Derived.Laws.Strings
import Derived.Laws.BytesString
import Derived.Laws.Concat
import Derived.Laws.StructEq
import Derived.Laws.Tables
set_option linter.unusedSimpArgs false
set_option linter.unusedVariables false
set_option linter.unnecessarySimpa false
namespace Go.Vs
theorem Jj.{u_1}:∀ {α : Type u_1} {i : Nat} {l : List α},List.length l <= i -> List.take i l = l:=@List.take_of_length_le
theorem Jq:∀ (a b : Bool),((a && b) = true) = (a = true /\ b = true):=@Bool.and_eq_true
theorem Jz.{u_1}:∀ {α : Type u_1} {i : Nat} {l : List α} (h : i < List.length l),List.take (i + 1) l = List.take i l ++ [l[i]]:=@List.take_succ_eq_append_getElem
theorem Jx.{u_1}:∀ {α : Type u_1} (val val_1 : α),(some val = some val_1) = (val = val_1):=@Option.some.injEq
theorem Jy.{u_1}:∀ {α : Type u_1} {l : List α} {n : Nat} (h : n < List.length l),l[n] ∈ l:=@List.getElem_mem
theorem Jv:∀ (n : Nat),n <= n:=@Nat.le_refl
theorem Jw.{u_1}:∀ {α : Type u_1} {l : List α} {i : Nat} (h : i < List.length l),l[i]? = some l[i]:=@List.getElem?_eq_getElem
theorem Jk.{u_1}:∀ {α : Type u_1} {p : α -> Bool} {l : List α},List.all l p = true ↔ ∀ (x : α),x ∈ l -> p x = true:=@List.all_eq_true
theorem Jg.{u_1,u_2}:∀ {α : Type u_1} {β : Type u_2} (a : α) (f : α -> β),Option.map f (some a) = some (f a):=@Option.map_some
theorem Jh:∀ {α β : Type} (P : Program) (w : World) (x : Sem α) (f : α -> Sem β),Sem.run P (x >>= f) w = Result.andThen (Sem.run P x w) fun a w' => Sem.run P (f a) w':=@Sem.run_bind
theorem Qj:∀ {α : Type} (P : Program) (w : World) (a : α),Sem.run P (pure a) w = Result.ok a w:=@Sem.run_pure
theorem Qq.{u_1}:∀ {α : Type u_1} {a : α} {s t : List α},a ∈ s ++ t ↔ a ∈ s \/ a ∈ t:=@List.mem_append
theorem Qz.{u_1,u_2}:∀ {α : Type u_1} {β : Type u_2} {f : α -> β} {a : α} {l : List α},List.map f (a :: l) = f a :: List.map f l:=@List.map_cons
theorem Qx.{u_1}:∀ {α : Type u_1} {i : Nat} {a : α} {l : List α},l[i]? = some a ↔ ∃ h,l[i] = a:=@List.getElem?_eq_some_iff
theorem Qy.{u_1}:∀ {α : Type u_1} {xs : Array α} {i : Nat} {d : α},Array.getD xs i d = Option.getD xs[i]? d:=@Array.getD_eq_getD_getElem?
theorem Qv.{u_1}:∀ {α : Type u_1} {a : α} {as : List α},List.length (a :: as) = List.length as + 1:=@List.length_cons
theorem Qw.{u_1}:∀ {α : Type u_1} {as bs : List α},List.length (as ++ bs) = List.length as + List.length bs:=@List.length_append
theorem Qk.{u_1}:∀ {α : Type u_1} {l : List α} {i : Nat} {a : α},l[i]? = some a -> a ∈ l:=@List.mem_of_getElem?
theorem Qg.{u_1}:∀ {α : Type u_1} {a b : α},a ∈ [b] ↔ a = b:=@List.mem_singleton
theorem Qh.{u_1}:∀ {α : Type u_1} {i : Nat} {b : α} {xs : Array α},xs[i]? = some b ↔ ∃ h,xs[i] = b:=@Array.getElem?_eq_some_iff
theorem Zj.{u_1,u_2}:∀ {α : Type u_1} {β : Type u_2} {f : α -> β} {l₁ l₂ : List α},List.map f (l₁ ++ l₂) = List.map f l₁ ++ List.map f l₂:=@List.map_append
theorem Zq.{u_1}:∀ {α : Type u_1} {i : Nat} {l : List α},List.length (List.take i l) = min i (List.length l):=@List.length_take
theorem Zz.{u_1}:∀ {α : Type u_1} {b : α} {l : List α} {a : α},a ∈ b :: l ↔ a = b \/ a ∈ l:=@List.mem_cons
theorem Zx.{u_1}:∀ {α : Type u_1} {x : Option α},Option.isSome x = true ↔ ∃ a,x = some a:=@Option.isSome_iff_exists
theorem Zy:∀ {n m k : Nat},n <= m -> m <= k -> n <= k:=@Nat.le_trans
theorem Zv:(false = true) = False:=@Bool.false_eq_true
theorem Zw.{u_1}:∀ {α : Type u_1} [inst : BEq α] [LawfulBEq α] {a : α} {as : List α},List.contains as a = true ↔ a ∈ as:=@List.contains_iff_mem
theorem Zk:∀ {n m : Nat} (k : Nat),n <= m -> n * k <= m * k:=@Nat.mul_le_mul_right
theorem Zg:∀ {m n : Nat},m ∈ List.range n ↔ m < n:=@List.mem_range
theorem Zh:∀ (b : Bool),(false && b) = false:=@Bool.false_and
theorem Xj:∀ {p : Prop} [inst : Decidable p],(decide p = true) = p:=@decide_eq_true_eq
theorem Xq:∀ {n m k : Nat},n < m -> m <= k -> n < k:=@Nat.lt_of_lt_of_le
theorem Xz.{u_1,u_2}:∀ {α : Type u_1} {β : Type u_2} {b : β} {f : α -> β} {l : List α},b ∈ List.map f l ↔ ∃ a,a ∈ l /\ f a = b:=@List.mem_map
theorem Xx:∀ (a b : Bool),((a || b) = true) = (a = true \/ b = true):=@Bool.or_eq_true
theorem Xy.{u_1}:∀ {α : Type u_1} (p : α -> Bool) (l : List α),List.length (List.filter p l) <= List.length l:=@List.length_filter_le
theorem Xv:∀ {p : Prop},(¬p -> False) -> p:=@Classical.byContradiction
abbrev Xw:=_root_.Rat
end Go.Vs
namespace Go.Vs
inductive D where
 | bool (b : Bool)
 | int (k : IntKind) (n : Int)
 | str (s : List UInt8)
 | sl (id : Option Nat) (wh : Option (TypeId × Nat)) (es : List (List D))
 | pl (es : List (List D))
inductive V where
 | d (x : D)
 | own (k lo n : Nat)
 | ptr (k i off : Nat)
 | fptr (x : D) (i off : Nat)
 | bad
 | agg (cs : List V)
 | tup (vs : List V)
 | fn (f : Nat) (cs : List V)
instance : Inhabited D:=⟨.bool false⟩
instance : Inhabited V:=⟨.bad⟩
inductive Blk where
 | box (cs : List V)
 | row (T sz : Nat) (es : List (List D))
structure Md where
 e : FuncId -> Bool
 p : Bool
 a : Bool
instance : CoeFun Md (fun _=>FuncId -> Bool):=⟨Md.e⟩
instance : Coe Md (FuncId -> Bool):=⟨Md.e⟩
structure St where
 B : Nat
 hs : Nat
 W : List Nat
 t : Nat -> V
 m : Nat -> Option Blk
mutual
def D.ids : D -> List Nat
 | .sl id _ es=>id.toList ++ idsLL es
 | _=>[]
def idsL : List D -> List Nat
 | []=>[]
 | x :: r=>x.ids ++ idsL r
def idsLL : List (List D) -> List Nat
 | []=>[]
 | x :: r=>idsL x ++ idsLL r
end
def D.hp : D -> Bool
 | .pl _=>true
 | _=>false
def hpL (l : List D) : Bool:=l.any D.hp
def hpLL (es : List (List D)) : Bool:=es.any hpL
mutual
def D.er : D -> D
 | .sl _ _ es=>.pl (erLL es)
 | .pl es=>.pl es
 | .bool b=>.bool b
 | .int k n=>.int k n
 | .str s=>.str s
def erL : List D -> List D
 | []=>[]
 | x :: r=>x.er :: erL r
def erLL : List (List D) -> List (List D)
 | []=>[]
 | x :: r=>erL x :: erLL r
end
mutual
def D.ln : D -> Prop
 | .sl _ _ es=>es.length <= maxLen /\ lnLL es
 | .pl es=>es.length <= maxLen /\ lnLL es
 | _=>True
def lnL : List D -> Prop
 | []=>True
 | x :: r=>x.ln /\ lnL r
def lnLL : List (List D) -> Prop
 | []=>True
 | x :: r=>lnL x /\ lnLL r
end
mutual
def V.ln : V -> Prop
 | .d x=>x.ln
 | .agg cs=>lnVL cs
 | .tup vs=>lnVL vs
 | .fn _ vs=>lnVL vs
 | _=>True
def lnVL : List V -> Prop
 | []=>True
 | v :: r=>v.ln /\ lnVL r
end
mutual
def wipe (k : Nat) : V -> V
 | .own j lo n=>if j = k then .bad else .own j lo n
 | .ptr j i o=>if j = k then .bad else .ptr j i o
 | .agg cs=>.agg (wipeL k cs)
 | .tup vs=>.tup (wipeL k vs)
 | .fn f vs=>.fn f (wipeL k vs)
 | v=>v
def wipeL (k : Nat) : List V -> List V
 | []=>[]
 | v :: r=>wipe k v :: wipeL k r
end
mutual
def frz (k : Nat) (g : Option Nat) (T : TypeId × Nat) (es : List (List D)) : V -> V
 | .own j lo n=>if j = k then (if hpLL es then .bad else .d (.sl g (if lo = 0 /\ n = es.length then some T else none) ((es.drop lo).take n))) else .own j lo n
 | .ptr j i o=>if j = k then .bad else .ptr j i o
 | .agg cs=>.agg (frzL k g T es cs)
 | .tup vs=>.tup (frzL k g T es vs)
 | .fn f vs=>.fn f (frzL k g T es vs)
 | v=>v
def frzL (k : Nat) (g : Option Nat) (T : TypeId × Nat) (es : List (List D)) : List V -> List V
 | []=>[]
 | v :: r=>frz k g T es v :: frzL k g T es r
end
mutual
def frp (k : Nat) (es : List (List D)) : V -> V
 | .own j lo n=>if j = k then .d (.pl ((es.drop lo).take n)) else .own j lo n
 | .ptr j i o=>if j = k then .bad else .ptr j i o
 | .agg cs=>.agg (frpL k es cs)
 | .tup vs=>.tup (frpL k es vs)
 | .fn f vs=>.fn f (frpL k es vs)
 | v=>v
def frpL (k : Nat) (es : List (List D)) : List V -> List V
 | []=>[]
 | v :: r=>frp k es v :: frpL k es r
end
def Blk.map (f : V -> V) : Blk -> Blk
 | .box cs=>.box (cs.map f)
 | .row T sz es=>.row T sz es
def upd {α : Type} (f : Nat -> α) (k : Nat) (x : α) : Nat -> α:=fun j=>if j = k then x else f j
theorem Ae {α : Type} (f : Nat -> α) (k : Nat) (x : α) (j : Nat) : upd f k x j = if j = k then x else f j:=rfl
theorem DB {α : Type} (f : Nat -> α) (k : Nat) : upd f k (f k) = f:=by
 funext j; simp only [upd]; split <;> simp_all
def mapV (f : V -> V) (t : Nat -> V) : Nat -> V:=fun i=>f (t i)
def mapM (f : V -> V) (m : Nat -> Option Blk) : Nat -> Option Blk:=fun i=>(m i).map (Blk.map f)
def St.put (σ : St) (d : Option Tmp) (v : V) : St:=
 match d with
 | some d=>{ σ with t:=upd σ.t d v }
 | none=>σ
def oY : Value -> V
 | .bool b=>.d (.bool b)
 | .int k n=>.d (.int k n)
 | .string s=>.d (.str s.data.toList)
 | .slice none 0 0=>.d (.sl none none [])
 | _=>.bad
def St.ev (σ : St) : Operand -> V
 | .tmp t=>σ.t t
 | .const v=>oY v
 | _=>.bad
def St.lay (σ : St) (k : Nat) (b : Blk) : St:=
 { σ with t:=mapV (wipe k) σ.t,m:=upd (mapM (wipe k) σ.m) k (some (b.map (wipe k))) }
def St.frz (σ : St) (k : Nat) (g : Option Nat) (T : TypeId × Nat) (es : List (List D)) : St:=
 { σ with t:=mapV (Vs.frz k g T es) σ.t,m:=upd (mapM (Vs.frz k g T es) σ.m) k none }
def St.frp (σ : St) (k : Nat) (es : List (List D)) : St:=
 { σ with t:=mapV (Vs.frp k es) σ.t,m:=upd (mapM (Vs.frp k es) σ.m) k none }
def V.cells : V -> List V
 | .agg cs=>cs
 | v=>[v]
def V.one : V -> Bool
 | .d _ | .own .. | .ptr .. | .fptr ..=>true
 | _=>false
def tsz (P : Program) (t : TypeId) : Option Nat:=(P.info? t).map (·.size)
def tagg (P : Program) (t : TypeId) : Option Bool:=(P.underlying t).map fun | .struct _ | .array _ _=>true | _=>false
def foff (P : Program) (t : TypeId) (f : Nat) : Option (Nat × Nat):=
 match P.underlying t with
 | some (.struct fs) => match fs[f]? with
   | some fd => match P.info? fd.type with
     | some i=>if i.size = 0 then none else some (fd.offset,i.size)
     | none=>none
   | none=>none
 | _=>none
def fty (P : Program) (t : TypeId) (f : Nat) : Option TypeId:=
 match P.underlying t with
 | some (.struct fs)=>(fs[f]?).map (·.type)
 | _=>none
inductive Kd where
 | int
 | str
 | bool
 deriving DecidableEq
def kdTy (P : Program) (t : TypeId) : Option Kd:=
 match P.underlying t with
 | some (.int _)=>some .int
 | some .string=>some .str
 | some .bool=>some .bool
 | _=>none
def kdFs (P : Program) : Nat -> List Field -> Option (List Kd)
 | _,[]=>some []
 | i, f :: fs => if f.name ≠ "_" ∧ f.offset = i then match kdTy P f.type, kdFs P (i + 1) fs with
   | some k,some l=>some (k :: l)
   | _,_=>none
   else none
def tEqK (P : Program) (t : TypeId) : Option (List Kd):=
 if P.stoodInHeld t || P.eqGuardType P.depth t then none else match P.underlying t with
 | some (.struct fs)=>kdFs P 0 fs.toList
 | _=>none
def ja (P : Program) (t : TypeId) : Option TypeId:=
 match P.underlying t with
 | some (.slice e)=>some e
 | _=>none
def ft : List Value -> Option (List D)
 | []=>some []
 | .bool b :: r=>(ft r).map (D.bool b :: ·)
 | .int k n :: r=>(ft r).map (D.int k n :: ·)
 | .string s :: r=>(ft r).map (D.str s.data.toList :: ·)
 | .slice none 0 0 :: r=>(ft r).map (D.sl none none [] :: ·)
 | _=>none
def tzero (P : Program) (t : TypeId) : Option (List D):=((P.info? t).bind (·.zero)).bind fun z=>ft z.cells.toList
def tslice (P : Program) (t : TypeId) : Option (TypeId × Nat × Nat):=
 (ja P t).bind fun e=>(P.info? e).bind fun i=>(i.zero).bind fun z=>if z.cells.size = i.size /\ 0 < i.size then some (e,i.size,i.bytes) else none
def vite (b : Bool) (x y : V) : V:=if b then x else y
mutual
def rd (γ : Nat -> Option Nat) (m : Nat -> Option Blk) : V -> Option V
 | .d x=>some (.d x)
 | .own k lo n => match m k with
   | some (.row T sz es)=>if hpLL es then none else if lo + n <= es.length then some (.d (.sl (γ k) (if lo = 0 /\ n = es.length then some (T,sz) else none) ((es.drop lo).take n))) else none
   | _=>none
 | .agg cs=>(rdL γ m cs).map .agg
 | .tup vs=>(rdL γ m vs).map .tup
 | _=>none
def rdL (γ : Nat -> Option Nat) (m : Nat -> Option Blk) : List V -> Option (List V)
 | []=>some []
 | v :: r => match rd γ m v, rdL γ m r with
   | some x,some l=>some (x :: l)
   | _,_=>none
end
mutual
def rp (m : Nat -> Option Blk) : V -> Option V
 | .d x=>some (.d x.er)
 | .own k lo n => match m k with
   | some (.row _ _ es)=>if lo + n <= es.length then some (.d (.pl ((es.drop lo).take n))) else none
   | _=>none
 | .agg cs=>(rpL m cs).map .agg
 | .tup vs=>(rpL m vs).map .tup
 | _=>none
def rpL (m : Nat -> Option Blk) : List V -> Option (List V)
 | []=>some []
 | v :: r => match rp m v, rpL m r with
   | some x,some l=>some (x :: l)
   | _,_=>none
end
mutual
def V.hp : V -> Bool
 | .d x=>x.hp
 | .fptr x _ _=>x.hp
 | .agg cs=>hpVL cs
 | .tup vs=>hpVL vs
 | .fn _ vs=>hpVL vs
 | _=>false
def hpVL : List V -> Bool
 | []=>false
 | v :: r=>v.hp || hpVL r
end
mutual
def V.flat : V -> Bool
 | .d (.sl ..) | .d (.pl _)=>false
 | .d _=>true
 | .agg cs=>qW cs
 | .tup vs=>qW vs
 | _=>false
def qW : List V -> Bool
 | []=>true
 | v :: r=>v.flat && qW r
end
mutual
def V.ids : V -> List Nat
 | .d x=>x.ids
 | .fptr x _ _=>x.ids
 | .agg cs=>idsVL cs
 | .tup vs=>idsVL vs
 | .fn _ vs=>idsVL vs
 | _=>[]
def idsVL : List V -> List Nat
 | []=>[]
 | v :: r=>v.ids ++ idsVL r
end
mutual
def V.keys : V -> List Nat
 | .own k _ _=>[k]
 | .agg cs=>keysVL cs
 | .tup vs=>keysVL vs
 | .fn _ vs=>keysVL vs
 | _=>[]
def keysVL : List V -> List Nat
 | []=>[]
 | v :: r=>v.keys ++ keysVL r
end
def badD : D:=.bool false
open Classical in
noncomputable def nowr (φ : Nat -> Option D) : Bool:=decide (∀ g,φ g = none)
mutual
noncomputable def reD (φ : Nat -> Option D) : D -> Option D
 | .sl (some g) T es => match φ g with
   | some (.sl (some g') T' es')=>if g' = g /\ T.isSome = true /\ T' = T /\ es'.map List.length = es.map List.length then some (.sl (some g) T es') else none
   | some _=>none
   | none=>(reLL φ es).map (.sl (some g) T)
 | .sl none T es=>(reLL φ es).map (.sl none T)
 | .pl es=>if nowr φ then some (.pl es) else none
 | .bool b=>some (.bool b)
 | .int k n=>some (.int k n)
 | .str s=>some (.str s)
noncomputable def reL (φ : Nat -> Option D) : List D -> Option (List D)
 | []=>some []
 | x :: r => match reD φ x, reL φ r with
   | some y,some l=>some (y :: l)
   | _,_=>none
noncomputable def reLL (φ : Nat -> Option D) : List (List D) -> Option (List (List D))
 | []=>some []
 | x :: r => match reL φ x, reLL φ r with
   | some y,some l=>some (y :: l)
   | _,_=>none
end
mutual
noncomputable def reV (φ : Nat -> Option D) : V -> V
 | .d x => match reD φ x with
   | some y=>.d y
   | none=>.bad
 | .fptr x i o => match reD φ x with
   | some y=>.fptr y i o
   | none=>.bad
 | .agg cs=>.agg (reVL φ cs)
 | .tup vs=>.tup (reVL φ vs)
 | .fn f vs=>.fn f (reVL φ vs)
 | .own k lo n=>.own k lo n
 | .ptr k i o=>.ptr k i o
 | .bad=>.bad
noncomputable def reVL (φ : Nat -> Option D) : List V -> List V
 | []=>[]
 | v :: r=>reV φ v :: reVL φ r
end
noncomputable def Blk.re (φ : Nat -> Option D) : Blk -> Option Blk
 | .box cs=>some (.box (reVL φ cs))
 | .row T sz es=>(reLL φ es).map (.row T sz)
noncomputable def reM (φ : Nat -> Option D) (m : Nat -> Option Blk) : Nat -> Option Blk:=fun i=>(m i).bind (Blk.re φ)
noncomputable def St.re (σ : St) (φ : Nat -> Option D) : St:={ σ with t:=mapV (reV φ) σ.t,m:=reM φ σ.m }
mutual
def lookD (g : Nat) : D -> Option D
 | .sl (some g') T es=>if g' = g then some (.sl (some g') T es) else jT g es
 | .sl none _ es=>jT g es
 | _=>none
def lookL (g : Nat) : List D -> Option D
 | []=>none
 | x :: r => match lookD g x with
   | some y=>some y
   | none=>lookL g r
def jT (g : Nat) : List (List D) -> Option D
 | []=>none
 | x :: r => match lookL g x with
   | some y=>some y
   | none=>jT g r
end
def phi (W : List Nat) (ws : List D) (g : Nat) : Option D:=if g ∈ W then some ((lookL g ws).getD badD) else none
def one (g : Nat) (d : D) (j : Nat) : Option D:=if j = g then some d else none
def kphi (id : Option Nat) (j : Nat) : Option D:=if id = some j then some badD else none
noncomputable def St.kill (σ : St) : Option Nat -> St
 | none=>σ
 | some g=>σ.re (kphi (some g))
def St.wr (σ : St) (g : Nat) : Prop:=σ.B <= g \/ g ∈ σ.W
section
open Go.RowKit
inductive DR (S : Nat -> Prop) (w : World) : D -> Value -> Prop
 | bool (b : Bool) : DR S w (.bool b) (.bool b)
 | int (k : IntKind) (n : Int) : DR S w (.int k n) (.int k n)
 | str (s : List UInt8) : DR S w (.str s) (.string ⟨s.toArray⟩)
 | nil (T : Option (TypeId × Nat)) : DR S w (.sl none T []) (.slice none 0 0)
 | sl (g : Nat) (T : Option (TypeId × Nat)) (es : List (List D)) (a : Addr) (cap sz : Nat) (vs : Nat -> Value) (hS : S g) (ha : 0 < cap -> a.block = g) (hcap : es.length <= cap) (hm : cap <= maxLen)
  (hsz : ∀ (i : Nat) (e : List D),es[i]? = some e -> e.length = sz)
  (hc : ∀ (i : Nat) (e : List D),es[i]? = some e -> ∀ (j : Nat) (u : D),e[j]? = some u -> w.cell? (a.add (i * sz + j)) = some (vs (i * sz + j)))
  (hd : ∀ (i : Nat) (e : List D),es[i]? = some e -> ∀ (j : Nat) (u : D),e[j]? = some u -> DR S w u (vs (i * sz + j)))
  (hw : ∀ t,T = some t -> a = ⟨g,0,none⟩ /\ (0 < sz /\ sz = t.2) /\ ∃ cur,w.heap[g]? = some (.cells cur t.1 (0,0)) /\ cur.size = cap * sz) (hh : hpLL es = false) :
  DR S w (.sl (some g) T es) (.slice (some a) es.length cap)
 | emp (t : TypeId × Nat) (a : Option Addr) : DR S w (.sl none (some t) []) (.slice a 0 0)
 | pl (es : List (List D)) (a : Option Addr) (cap sz : Nat) (vs : Nat -> Value) (hS : ∀ p,a = some p -> 0 < cap -> S p.block) (hn : 0 < cap -> a ≠ none) (hcap : es.length <= cap) (hm : cap <= maxLen)
  (hsz : ∀ (i : Nat) (e : List D),es[i]? = some e -> e.length = sz)
  (hc : ∀ p,a = some p -> ∀ (i : Nat) (e : List D),es[i]? = some e -> ∀ (j : Nat) (u : D),e[j]? = some u -> w.cell? (p.add (i * sz + j)) = some (vs (i * sz + j)))
  (hd : ∀ (i : Nat) (e : List D),es[i]? = some e -> ∀ (j : Nat) (u : D),e[j]? = some u -> DR S w u (vs (i * sz + j))) :
  DR S w (.pl es) (.slice a es.length cap)
def OwnV (r : Option (Nat × Nat)) (sz lo n : Nat) (v : Value) : Prop:=
 match r with
 | none=>v = .slice none 0 0 /\ n = 0 /\ lo = 0
 | some (g,cap)=>∃ a c,v = .slice (some a) n c /\ a.block = g /\ n <= c /\ c <= maxLen /\ (lo = 0 -> a = ⟨g,0,none⟩ /\ c = cap) /\ (0 < n -> a = ⟨g,lo * sz,none⟩)
def lstD : D -> List (List D)
 | .sl _ _ es=>es
 | .pl es=>es
 | _=>[]
mutual
def VR (ρ : Nat -> Option (Nat × Nat)) (m : Nat -> Option Blk) (S : Nat -> Prop) (w : World) : V -> Value -> Prop
 | .d x,v=>DR S w x v
 | .own k lo n, v => match m k with
   | some (.row _ sz es)=>lo + n <= es.length /\ OwnV (ρ k) sz lo n v
   | some (.box _)=>False
   | none=>True
 | .ptr k i off, v => match m k with
   | some (.row _ sz _)=>∃ g cap,ρ k = some (g,cap) /\ v = .pointer (some ⟨g,i * sz + off,none⟩)
   | some (.box _)=>i = 0 /\ ∃ g cap,ρ k = some (g,cap) /\ v = .pointer (some ⟨g,off,none⟩)
   | none=>True
 | .fptr x i off,v=>∃ (a : Addr) (n c sz : Nat),DR S w x (.slice (some a) n c) /\ (∀ e ∈ lstD x,e.length = sz) /\ i < (lstD x).length /\ v = .pointer (some (a.add (i * sz + off)))
 | .bad,_=>True
 | .agg cs,v=>∃ l : List Value,v = .agg l.toArray /\ LR ρ m S w cs l
 | .tup vs,v=>∃ l : List Value,v = .tuple l.toArray /\ LR ρ m S w vs l
 | .fn f vs,v=>∃ l : List Value,v = .func (.func f) #[] l.toArray /\ LR ρ m S w vs l
def LR (ρ : Nat -> Option (Nat × Nat)) (m : Nat -> Option Blk) (S : Nat -> Prop) (w : World) : List V -> List Value -> Prop
 | [],[]=>True
 | c :: cs,v :: l=>VR ρ m S w c v /\ LR ρ m S w cs l
 | _,_=>False
end
def BlkR (G A : Nat -> Prop) (ρ : Nat -> Option (Nat × Nat)) (m : Nat -> Option Blk) (S : Nat -> Prop) (B : Nat) (w : World) (r : Option (Nat × Nat)) : Blk -> Prop
 | .box cs=>∃ g cap,r = some (g,cap) /\ (B <= g \/ G g) /\ ∃ cur T,w.heap[g]? = some (.cells cur T (0,0)) /\ LR ρ m S w cs cur.toList
 | .row T sz es => 0 < sz ∧ match r with
   | none=>es = []
   | some (g,cap)=>(B <= g \/ (G g /\ A g)) /\ cap <= maxLen /\ es.length <= cap /\ ∃ cur,w.heap[g]? = some (.cells cur T (0,0)) /\ cur.size = cap * sz /\
    ∀ (i : Nat) (e : List D),es[i]? = some e -> e.length = sz /\ ∀ (j : Nat) (u : D),e[j]? = some u -> ∃ v,cur[i * sz + j]? = some v /\ DR S w u v
structure Env where
 A : Nat -> Prop
 G : Nat -> Prop
 R : Nat -> Option (Nat × Nat)
 L : List (Nat × List Int)
def GlobIn (L : List (Nat × List Int)) (G : Nat -> Prop) (w : World) : Prop:=
 ∀ p ∈ L,¬ G p.1 /\ ∃ T f,w.heap[p.1]? = some (.cells (p.2.map (Value.int .i64)).toArray T f)
def gOf (gs : List Global) : Nat -> List (Nat × List Int)
 | n => match gs with
   | []=>[]
   | g :: r=>if g.name == "loop.example/g01917/impl.oneRational" then (n,[1,1]) :: gOf r (n + 1) else gOf r (n + 1)
def gdat (P : Program) : List (Nat × List Int):=gOf P.globals.toList 0
def gcs (P : Program) (g : Nat) : List Int:=((gdat P).lookup g).getD []
class GlobC (A0 : Env) (P : Program) : Prop where
 eq : A0.L = gdat P
structure Bel (G : Nat -> Prop) (B : Nat) (w w' : World) : Prop where
 os : w'.os = w.os
 tape : w'.tape = w.tape
 output : w'.output = w.output
 size : w.heap.size <= w'.heap.size
 block : ∀ k,k < B -> ¬ G k -> w'.heap[k]? = w.heap[k]?
 shape : ∀ k,k < B -> ∀ cur T f,w.heap[k]? = some (.cells cur T f) -> ∃ cur',w'.heap[k]? = some (.cells cur' T f) /\ cur'.size = cur.size
theorem Bel.of {G : Nat -> Prop} {B : Nat} {w w' : World} (h : Below B w w') : Bel G B w w':=
 ⟨h.os,h.tape,h.output,h.size,fun k hk _=>h.block k hk,fun k hk cur T f hc=>⟨cur,(h.block k hk).trans hc,rfl⟩⟩
theorem Bel.refl (G : Nat -> Prop) (B : Nat) (w : World) : Bel G B w w:=.of (Below.refl _ _)
theorem Bel.trans {G : Nat -> Prop} {B : Nat} {a b c : World} (h : Bel G B a b) (k : Bel G B b c) : Bel G B a c:=
 ⟨k.os.trans h.os,k.tape.trans h.tape,k.output.trans h.output,Zy h.size k.size,fun i hi hg=>(k.block i hi hg).trans (h.block i hi hg),fun i hi cur T f hc=>by
  obtain ⟨c1,h1,h2⟩:=h.shape i hi cur T f hc
  obtain ⟨c2,h3,h4⟩:=k.shape i hi c1 T f h1
  exact ⟨c2,h3,h4.trans h2⟩⟩
theorem Bel.below {B : Nat} {w w' : World} (h : Bel (fun _=>False) B w w') : Below B w w':=⟨h.os,h.tape,h.output,h.size,fun k hk=>h.block k hk (fun h=>h)⟩
def Sof (A0 : Env) (B : Nat) (ρ : Nat -> Option (Nat × Nat)) (m : Nat -> Option Blk) (w : World) (g : Nat) : Prop:=
 (A0.A g \/ B <= g) /\ g < w.heap.size /\ ∀ k b,m k = some b -> ∀ p,ρ k = some p -> p.1 ≠ g
def bF (o : Option Blk) : Bool:=match o with | some (.row ..)=>true | _=>false
def Ak (A : Nat -> Prop) (k g : Nat) : Prop:=1000 <= k /\ A g
def Gk (G : Nat -> Prop) (k g : Nat) : Prop:=1000 <= k /\ G g
def Hk (k : Nat) : Prop:=1000 <= k /\ k ≠ 1002
theorem Hk.ne {k j : Nat} (h : Hk j) (hk : ¬ Hk k) : j ≠ k:=fun e=>hk (e ▸ h)
theorem mf {k : Nat} (h : k < 1000) : ¬ Hk k:=fun hk=>by have:=hk.1; omega
structure Rel (A0 : Env) (N : Nat) (w0 : World) (ρ : Nat -> Option (Nat × Nat)) (σ : St) (a : Act) (w : World) : Prop where
 below : Bel A0.G w0.heap.size w0 w
 hN : N <= 1000 /\ GlobIn A0.L A0.G w0
 key : ∀ k,Hk k -> ρ k = A0.R k
 norow : ∀ k,Hk k -> bF (σ.m k) = false
 hG : ∀ g ∈ σ.W,A0.G g
 hB : σ.B = w0.heap.size
 hs : σ.hs <= w.heap.size
 hs0 : σ.B <= σ.hs
 defers : a.defers = []
 size : a.tmps.size = N
 tmps : ∀ i,VR ρ σ.m (Sof A0 σ.B ρ σ.m w) w (σ.t i) (a.eval (.tmp i))
 mem : ∀ k b,σ.m k = some b -> BlkR (Gk A0.G k) (Ak A0.A k) ρ σ.m (Sof A0 σ.B ρ σ.m w) σ.B w (ρ k) b
 inj : ∀ k k' b b' p p',σ.m k = some b -> σ.m k' = some b' -> ρ k = some p -> ρ k' = some p' -> p.1 = p'.1 -> k = k'
def Lead (K : St -> Prop) (σ : St) : Prop:=
 ∀ A0 N w0 ρ a w,Rel A0 N w0 ρ σ a w -> ∃ σ' ρ',Rel A0 N w0 ρ' σ' a w /\ K σ'
theorem Lead.of {K : St -> Prop} {σ : St} (h : K σ) : Lead K σ:=fun _ _ _ ρ _ _ hR=>⟨σ,ρ,hR,h⟩
theorem Lead.mono {K K' : St -> Prop} {σ : St} (h : Lead K σ) (hk : ∀ σ,K σ -> K' σ) : Lead K' σ:=fun A0 N w0 ρ a w hR=>
 let ⟨σ',ρ',hR',hK⟩:=h A0 N w0 ρ a w hR; ⟨σ',ρ',hR',hk _ hK⟩
def VC (P : Program) (f : FuncId) (args : List V) (post : Nat -> V -> Prop) : Prop:=
 (∃ fn,P.funcs[f]? = some fn /\ fn.body.isSome = true /\ (fn.name == "runtime.NumGoroutine") = false) /\
 ∀ (w : World) (vals : List Value) (A : Nat → Prop), GlobIn (gdat P) (fun _ => False) w → LR (fun _ => none) (fun _ => none) (fun g => g < w.heap.size ∧ A g) w args vals →
   Calls P f vals.toArray w fun e w'=>∃ v r,e = .returned v /\ Below w.heap.size w w' /\
    VR (fun _=>none) (fun _=>none) (fun g=>(A g \/ w.heap.size <= g) /\ g < w'.heap.size) w' r v /\ rd (fun _=>none) (fun _=>none) r = some r /\ post w.heap.size r
def VN (P : Program) (f : FuncId) (args : List V) (post : Nat -> List D -> Prop) : Prop:=
 (∃ fn,P.funcs[f]? = some fn /\ fn.body.isSome = true /\ (fn.name == "runtime.NumGoroutine") = false) /\
 ∀ (w : World) (vals : List Value) (A : Nat → Prop), GlobIn (gdat P) (fun _ => False) w → LR (fun _ => none) (fun _ => none) (fun g => g < w.heap.size ∧ A g) w args vals →
   Calls P f vals.toArray w fun e w'=>∃ gb ds,e = .returned (.pointer (some ⟨gb,0,none⟩)) /\ Below w.heap.size w w' /\ w.heap.size <= gb /\ gb < w'.heap.size /\
    (∃ cur T,w'.heap[gb]? = some (.cells cur T (0,0)) /\ LR (fun _=>none) (fun _=>none) (fun g=>(A g \/ w.heap.size <= g) /\ g < w'.heap.size /\ g ≠ gb) w' (ds.map V.d) cur.toList) /\ post w.heap.size ds
def VX (P : Program) (f : FuncId) (W : List Nat) (args : List V) (bx : Option (List V)) (post : Nat -> V -> List V -> List D -> Prop) : Prop:=
 (∃ fn,P.funcs[f]? = some fn /\ fn.body.isSome = true /\ (fn.name == "runtime.NumGoroutine") = false) /\ (∀ g ∈ W,g ∈ idsVL args \/ g ∈ idsVL (bx.getD [])) /\
 ∀ (w : World) (vals : List Value) (gb : Nat) (A : Nat → Prop), GlobIn (gdat P) (fun g => g ∈ W ∨ (bx.isSome = true ∧ g = gb)) w →
   LR (fun k=>if k = 1000 then some (gb,0) else none) (fun k=>if k = 1000 then bx.map .box else none) (fun g=>g < w.heap.size /\ A g /\ ¬ (bx.isSome = true /\ g = gb)) w args vals ->
   (∀ cs,bx = some cs -> ∃ cur T,w.heap[gb]? = some (.cells cur T (0,0)) /\ LR (fun _=>none) (fun _=>none) (fun g=>g < w.heap.size /\ A g /\ ¬ (bx.isSome = true /\ g = gb)) w cs cur.toList) ->
   Calls P f vals.toArray w fun e w'=>∃ v r cs' ws,e = .returned v /\ Bel (fun g=>g ∈ W \/ (bx.isSome = true /\ g = gb)) w.heap.size w w' /\
    VR (fun _=>none) (fun _=>none) (fun g=>(A g \/ w.heap.size <= g) /\ g < w'.heap.size /\ ¬ (bx.isSome = true /\ g = gb)) w' r v /\ rd (fun _=>none) (fun _=>none) r = some r /\
    (bx.isSome = true -> ∃ cur T,w'.heap[gb]? = some (.cells cur T (0,0)) /\ LR (fun _=>none) (fun _=>none) (fun g=>(A g \/ w.heap.size <= g) /\ g < w'.heap.size /\ ¬ (bx.isSome = true /\ g = gb)) w' cs' cur.toList /\
     rdL (fun _=>none) (fun _=>none) cs' = some cs') /\
    (∀ d ∈ ws,∃ v',DR (fun g=>(A g \/ w.heap.size <= g) /\ g < w'.heap.size /\ ¬ (bx.isSome = true /\ g = gb)) w' d v') /\ post w.heap.size r cs' ws
structure FrOf (σ : St) (g : Nat) : Prop where
 lo : σ.B <= g
 row : ∀ k T sz es,σ.m k = some (.row T sz es) -> g ∉ idsLL es
 box : ∀ k cs,σ.m k = some (.box cs) -> g ∉ idsVL cs
 slot : ∀ i,g ∉ (σ.t i).ids
structure Gam (σ : St) (γ : Nat -> Option Nat) (hs' : Nat) : Prop where
 some : ∀ k T sz es,σ.m k = some (.row T sz es) -> es ≠ [] -> (h : k < 1000:=by decide) -> ∃ g,γ k = some g
 fr : ∀ k T sz es g,σ.m k = .some (.row T sz es) -> γ k = .some g -> (h : k < 1000:=by decide) -> FrOf σ g /\ g < hs'
 ne : ∀ k k' b b' g,σ.m k = .some b -> σ.m k' = .some b' -> γ k = .some g -> γ k' = .some g -> k = k'
def St.frzs (γ : Nat -> Option Nat) : List Nat -> St -> St
 | [],σ=>σ
 | k :: r, σ => match σ.m k with
   | some (.row T sz es)=>St.frzs γ r (σ.frz k (γ k) (T,sz) es)
   | _=>St.frzs γ r σ
def iM (sz : Nat) : Nat -> List D -> List (List D)
 | 0,_=>[]
 | n + 1,l=>l.take sz :: iM sz n (l.drop sz)
def splice {α : Type} (l : List α) (off : Nat) (news : List α) : List α:=l.take off ++ news ++ l.drop (off + news.length)
def LenOk (bytes n : Nat) : Prop:=n * bytes <= 140737488355328 /\ n <= maxLen
def isB : List D -> Bool
 | [.int .u8 _]=>true
 | _=>false
def toB : List D -> UInt8
 | [.int .u8 n]=>UInt8.ofNat n.toNat
 | _=>0
end
section
variable (P : Program) (E : Md)
def getB : V -> Bool
 | .d (.bool b)=>b
 | _=>false
def gL : V -> Bool
 | .d (.bool _)=>true
 | _=>false
def getZ : V -> Int
 | .d (.int _ n)=>n
 | _=>0
def iq : V -> Bool
 | .d (.int _ _)=>true
 | _=>false
def getL (o : Option Blk) : List (List D):=
 match o with
 | some (.row _ _ es)=>es
 | _=>[]
def getC (o : Option Blk) : List V:=
 match o with
 | some (.box cs)=>cs
 | _=>[]
def isBox (o : Option Blk) : Bool:=match o with | some (.box _)=>true | _=>false
def szOf (o : Option Blk) : Nat:=match o with | some (.row _ sz _)=>sz | _=>0
def tyOf (o : Option Blk) : Nat:=match o with | some (.row T _ _)=>T | _=>0
def elV (m : Nat -> Option Blk) : V -> List (List D)
 | .d (.sl _ _ es)=>es
 | .d (.pl es)=>es
 | .own k lo n=>((getL (m k)).drop lo).take n
 | _=>[]
def elOk (m : Nat -> Option Blk) : V -> Prop
 | .d (.sl _ _ _)=>True
 | .d (.pl _)=>True
 | .own k lo n=>bF (m k) = true /\ lo + n <= (getL (m k)).length
 | _=>False
def lnV : V -> Nat
 | .d (.sl _ _ es)=>es.length
 | .d (.pl es)=>es.length
 | .d (.str s)=>s.length
 | .own _ _ n=>n
 | _=>0
def lnOk : V -> Bool
 | .d (.sl _ _ _) | .d (.pl _) | .d (.str _) | .own _ _ _=>true
 | _=>false
def tstr (P : Program) (T : TypeId) : Option Bool:=
 match P.underlying T with
 | some (.slice _)=>some false
 | some .string=>some true
 | _=>none
def tfld (P : Program) (T : TypeId) : Bool:=
 match P.underlying T with
 | some (.struct fs)=>fs.all fun f=>(P.info? f.type).isSome
 | _=>false
def agB (P : Program) (T : TypeId) : Bool:=(tagg P T).getD false
def szT (P : Program) (T : TypeId) : Nat:=(tsz P T).getD 0
def foT (P : Program) (T : TypeId) (f : Nat) : Nat:=((foff P T f).getD (0,0)).1
def zfn (P : Program) (T : TypeId) : Bool:=match (P.info? T).bind (·.zero) with
 | some z=>z.cells.size == 1
 | none=>false
def slT (P : Program) (T : TypeId) : TypeId × Nat × Nat:=(tslice P T).getD (0,0,0)
def zrT (P : Program) (T : TypeId) : List D:=(tzero P T).getD []
def zbx (P : Program) (T : TypeId) : List V:=if (tzero P T).isSome then (zrT P T).map .d else [.bad]
def atP (m : Nat -> Option Blk) : V -> List V
 | .ptr k i off => match m k with
   | some (.box cs)=>cs.drop off
   | some (.row _ _ es)=>((es.getD i []).drop off).map .d
   | none=>[]
 | .fptr x i off=>(((lstD x).getD i []).drop off).map .d
 | _=>[]
def eO (m : Nat -> Option Blk) : V -> Prop
 | .ptr k i _ => match m k with
   | some (.box _)=>i = 0
   | some (.row _ _ es)=>i < es.length
   | none=>False
 | .fptr x i _=>i < (lstD x).length
 | _=>False
def hd : List V -> V
 | v :: _=>v
 | []=>.bad
def fldV (P : Program) (T : TypeId) (f : Nat) : V -> V
 | .agg cs=>if agB P ((fty P T f).getD 0) then .agg ((cs.drop (foT P T f)).take ((foff P T f).getD (0,0)).2) else hd (cs.drop (foT P T f))
 | _=>.bad
def tW (P : Program) (T : TypeId) (f : Nat) : V -> Prop
 | .agg cs=>(fty P T f).isSome = true /\ (foff P T f).isSome = true /\ (tagg P ((fty P T f).getD 0)).isSome = true /\ foT P T f < cs.length
 | _=>False
def kdV : V -> Option Kd
 | .d (.int .i64 _)=>some .int
 | .d (.str _)=>some .str
 | .d (.bool _)=>some .bool
 | _=>none
def eqC : V -> V -> Bool
 | .d (.int _ a),.d (.int _ b)=>decide (a = b)
 | .d (.str a),.d (.str b)=>decide (a = b)
 | .d (.bool a),.d (.bool b)=>decide (a = b)
 | _,_=>false
def eqCL : List V -> List V -> Bool
 | x :: r,y :: s=>eqC x y && eqCL r s
 | _,_=>true
def kdL : List V -> Option (List Kd)
 | []=>some []
 | v :: r => match kdV v, kdL r with
   | some k,some l=>some (k :: l)
   | _,_=>none
def binD (op : BinOp) (x y : V) : D:=
 match x,y with
 | .d (.int k a), .d (.int _ b) => match op with
   | .add=>.int k (k.wrap (a + b))
   | .sub=>.int k (k.wrap (a - b))
   | .mul=>.int k (k.wrap (a * b))
   | .quo=>.int k (k.wrap (a.tdiv b))
   | .rem=>.int k (a.tmod b)
   | .eql=>.bool (a == b)
   | .neq=>.bool (a != b)
   | .lss=>.bool (decide (a < b))
   | .leq=>.bool (decide (a <= b))
   | .gtr=>.bool (decide (b < a))
   | .geq=>.bool (decide (b <= a))
   | .and=>.int k (k.wrap (BitVec.ofInt k.bits a &&& BitVec.ofInt k.bits b).toNat)
   | .or=>.int k (k.wrap (BitVec.ofInt k.bits a ||| BitVec.ofInt k.bits b).toNat)
   | .xor=>.int k (k.wrap (BitVec.ofInt k.bits a ^^^ BitVec.ofInt k.bits b).toNat)
   | .shr=>.int k (a.fdiv (2 ^ (min b.toNat k.bits)))
   | .shl=>.int k (k.wrap (a * 2 ^ (min b.toNat k.bits)))
   | _=>.bool false
 | .d (.str a), .d (.str b) => match op with
   | .add=>.str (a ++ b)
   | .eql=>.bool (a == b)
   | .neq=>.bool (!(a == b))
   | .lss=>.bool (Op.bytesLess a b)
   | .leq=>.bool (Op.bytesLess a b || a == b)
   | .gtr=>.bool (!(Op.bytesLess a b || a == b))
   | .geq=>.bool (!(Op.bytesLess a b))
   | _=>.bool false
 | .d (.bool a), .d (.bool b) => match op with
   | .eql=>.bool (a == b)
   | .neq=>.bool (!(a == b))
   | _=>.bool false
 | .agg a, .agg b => match op with
   | .eql=>.bool (eqCL a b)
   | .neq=>.bool (!(eqCL a b))
   | _=>.bool false
 | _,_=>.bool false
def kOf : V -> Option IntKind
 | .d (.int k _)=>some k
 | _=>none
def nP (op : BinOp) (x y : V) : Prop:=
 match x,y with
 | .d (.int k _), .d (.int k' b) => match op with
   | .quo | .rem=>k = k' /\ b ≠ 0
   | .add | .sub | .mul | .eql | .neq | .lss | .leq | .gtr | .geq | .and | .or | .xor=>k = k'
   | .shr | .shl=>0 <= b
   | _=>False
 | .d (.str a), .d (.str b) => match op with
   | .add=>a.length + b.length <= 9223372036854775807
   | .eql | .neq | .lss | .leq | .gtr | .geq=>True
   | _=>False
 | .d (.bool _), .d (.bool _) => match op with
   | .eql | .neq=>True
   | _=>False
 | .agg a, .agg b => match op with
   | .eql | .neq=>(kdL a).isSome = true /\ kdL a = kdL b
   | _=>False
 | _,_=>False
def jH (P : Program) (T : TypeId) : V -> Prop
 | .d (.bool _)=>P.underlying T = some .bool
 | .agg a=>(kdL a).isSome = true /\ tEqK P T = kdL a
 | _=>True
def unD (op : UnOp) (x : V) : D:=
 match x with
 | .d (.bool b)=>.bool (!b)
 | .d (.int k n) => match op with
   | .neg=>.int k (k.wrap (0 - n))
   | _=>.bool false
 | _=>.bool false
def unOk (op : UnOp) (x : V) : Prop:=
 match x,op with
 | .d (.bool _),.not=>True
 | .d (.int _ _),.neg=>True
 | _,_=>False
def addP (o' : Nat) : V -> V
 | .ptr k i off=>.ptr k i (off + o')
 | .fptr x i off=>.fptr x i (off + o')
 | _=>.bad
def idxV (x : V) (z : Int) : V:=
 match x with
 | .d x=>.fptr x z.toNat 0
 | .own k lo _=>.ptr k (lo + z.toNat) 0
 | _=>.bad
def mh (m : Nat -> Option Blk) (sz : Nat) (x : V) (z : Int) : Prop:=
 match x with
 | .d (.sl _ _ es)=>0 <= z /\ z.toNat < es.length /\ (es.getD z.toNat []).length = sz
 | .d (.pl es)=>0 <= z /\ z.toNat < es.length /\ (es.getD z.toNat []).length = sz
 | .own k lo n=>0 <= z /\ z.toNat < n /\ bF (m k) = true /\ szOf (m k) = sz /\ lo + n <= (getL (m k)).length
 | _=>False
def iY : V -> List UInt8
 | .d (.str s)=>s
 | _=>[]
def isStr : V -> Bool
 | .d (.str _)=>true
 | _=>false
def cutV (x : V) (l h : Nat) : V:=
 match x with
 | .d (.str s)=>.d (.str ((s.drop l).take (h - l)))
 | .d (.sl g T es)=>.d (.sl g (if g.isSome then none else T) ((es.drop l).take (h - l)))
 | .d (.pl es)=>.d (.pl ((es.drop l).take (h - l)))
 | .own k lo _=>.own k (lo + l) (h - l)
 | _=>.bad
def cutOk (T : TypeId) (m : Nat -> Option Blk) : V -> Prop
 | .d (.str _)=>True
 | .d (.sl _ _ es)=>(tslice P T).isSome = true /\ ∀ e ∈ es,e.length = (slT P T).2.1
 | .d (.pl es)=>(tslice P T).isSome = true /\ ∀ e ∈ es,e.length = (slT P T).2.1
 | .own k lo n=>(tslice P T).isSome = true /\ szOf (m k) = (slT P T).2.1 /\ bF (m k) = true /\ lo + n <= (getL (m k)).length
 | _=>False
def live (m : Nat -> Option Blk) : V -> Bool
 | .d _ | .fptr ..=>true
 | .own k _ _=>bF (m k)
 | .ptr k _ _=>(m k).isSome
 | .fn _ _=>true
 | _=>false
def dZ (m : Nat -> Option Blk) : V -> Prop
 | .agg _=>True
 | .d _=>True
 | v=>live m v = true
def lC (T : TypeId) : List (Nat × V) -> List V -> List V
 | [],z=>z
 | (i,v) :: r,z=>lC T r (splice z (foT P T i) v.cells)
def kv (T : TypeId) (m : Nat -> Option Blk) : List (Nat × V) -> List V -> Prop
 | [],_=>True
 | (i,v) :: r,z=>(foff P T i).isSome = true /\ dZ m v /\ v.cells.length = ((foff P T i).getD (0,0)).2 /\ foT P T i + v.cells.length <= z.length /\ kv T m r (splice z (foT P T i) v.cells)
def allC : List V -> List V
 | []=>[]
 | v :: r=>v.cells ++ allC r
def fu (σ : St) (sz : Nat) : Nat -> List (Nat × Operand) -> Prop
 | _,[]=>True
 | n,(i,x) :: r=>i = n /\ (σ.ev x).cells.length = sz /\ fu σ sz (n + 1) r
def dD : V -> D
 | .d x=>x
 | _=>.bool false
def isD : V -> Bool
 | .d _=>true
 | _=>false
def Ax (t : TypeId) (σ : St) (s x : V) : Prop:=
 (tslice P t).isSome = true /\ elOk σ.m x /\ (∀ l ∈ elV σ.m x,l.length = (slT P t).2.1) /\
  match s with
  | .d (.sl none none [])=>LenOk (slT P t).2.2 (elV σ.m x).length
  | .d (.sl none (some _) [])=>0 < (elV σ.m x).length /\ LenOk (slT P t).2.2 (elV σ.m x).length
  | .d (.sl (some g) T es)=>T = some ((slT P t).1,(slT P t).2.1) /\ σ.B <= g /\ g ∉ x.ids /\ g ∉ idsLL (elV σ.m x) /\ g ∉ idsLL es /\ (∀ e ∈ es,e.length = (slT P t).2.1) /\ LenOk (slT P t).2.2 (es.length + (elV σ.m x).length) /\ hpLL (elV σ.m x) = false
  | .own k lo n=>lo = 0 /\ bF (σ.m k) = true /\ n = (getL (σ.m k)).length /\ tyOf (σ.m k) = (slT P t).1 /\ szOf (σ.m k) = (slT P t).2.1 /\
   LenOk (slT P t).2.2 (n + (elV σ.m x).length)
  | _=>False
noncomputable def qI (t : TypeId) (σ : St) (dst : Option Tmp) (s x : V) : St:=
 match s,dst with
  | .d (.sl (some g) _ es),some dk=>((σ.kill (some g)).lay dk (.row (slT P t).1 (slT P t).2.1 (es ++ elV σ.m x))).put (some dk) (.own dk 0 (es.length + (elV σ.m x).length))
  | .own k _ n,some dk=>(σ.lay k (.row (slT P t).1 (slT P t).2.1 (getL (σ.m k) ++ elV σ.m x))).put (some dk) (.own k 0 (n + (elV σ.m x).length))
  | _,some dk=>(σ.lay dk (.row (slT P t).1 (slT P t).2.1 (elV σ.m x))).put (some dk) (.own dk 0 (elV σ.m x).length)
  | _,_=>σ
def stOk (T : TypeId) (σ : St) (a x : V) : Prop:=
 (tsz P T).isSome = true /\ match a with
  | .ptr k i off => x.cells.length = szT P T ∧ match σ.m k with
    | some (.box cs)=>i = 0 /\ off + x.cells.length <= cs.length /\ dZ σ.m x /\ x.cells.all (live σ.m) = true
    | some (.row _ _ es)=>i < es.length /\ off + x.cells.length <= (es.getD i []).length /\ x.cells.all isD = true
    | none=>False
  | .fptr (.sl (some g) (some _) es) i off=>x.cells.length = szT P T /\ i < es.length /\ off + x.cells.length <= (es.getD i []).length /\ x.cells.all isD = true /\ σ.wr g /\ g ∉ idsVL x.cells /\ g ∉ idsLL es /\ hpVL x.cells = false
  | _=>False
noncomputable def stSt (σ : St) (dst : Option Tmp) (a x : V) : St:=
 match a with
  | .ptr k i off => match σ.m k with
    | some (.box cs)=>{ σ with m:=upd σ.m k (some (.box (splice cs off x.cells))) }.put dst (.tup [])
    | some (.row Te esz es)=>{ σ with m:=upd σ.m k (some (.row Te esz (es.set i (splice (es.getD i []) off (x.cells.map dD))))) }.put dst (.tup [])
    | none=>σ
  | .fptr (.sl (some g) T es) i off=>(σ.re (one g (.sl (some g) T (es.set i (splice (es.getD i []) off (x.cells.map dD)))))).put dst (.tup [])
  | _=>σ
def sd (s t : TypeId) (σ : St) (x : V) : Prop:=
 match P.underlying t with
  | some (.int _)=>iq x = true /\ (P.underlying s).isSome = true
  | some .string=>elOk σ.m x /\ (elV σ.m x).all isB = true /\ (tslice P s).isSome = true /\ P.underlying (slT P s).1 = some (.int .u8)
  | _=>False
def xm (t : TypeId) (σ : St) (x : V) : V:=
 match P.underlying t with
  | some (.int k)=>.d (.int k (k.wrap (getZ x)))
  | _=>.d (.str ((elV σ.m x).map toB))
def yG (v : V) (i : Nat) : V:=match v with | .tup vs=>vs.getD i .bad | _=>.bad
def yH (v : V) (i : Nat) : Prop:=match v with | .tup vs=>i < vs.length | _=>False
def loB (σ : St) : Option Operand -> Nat
 | none=>0
 | some l=>(getZ (σ.ev l)).toNat
def hiB (σ : St) (x : V) : Option Operand -> Nat
 | none=>lnV x
 | some h=>(getZ (σ.ev h)).toNat
def bdOk (σ : St) : Option Operand -> Prop
 | none=>True
 | some l=>iq (σ.ev l) = true /\ 0 <= getZ (σ.ev l)
def x6 (σ : St) : V -> Prop
 | .own k lo n=>bF (σ.m k) = true /\ lo + n <= (getL (σ.m k)).length
 | _=>True
def vval (o : Oper) (σ : St) : V:=
 match o.op with
 | .move x | .assign x | .nilCheck x=>σ.ev x
 | .pick c a b=>vite (getB (σ.ev c)) (σ.ev a) (σ.ev b)
 | .build T parts=>.agg (lC P T (parts.toList.map fun p=>(p.1,σ.ev p.2)) ((zrT P T).map .d))
 | .load _ (.global g)=>.agg ((gcs P g).map fun n=>.d (.int .i64 n))
 | .load T a=>if agB P T then .agg ((atP σ.m (σ.ev a)).take (szT P T)) else hd (atP σ.m (σ.ev a))
 | .binOp op _ x y _=>.d (binD op (σ.ev x) (σ.ev y))
 | .unOp op _ x=>.d (unD op (σ.ev x))
 | .convert _ t x=>xm P t σ (σ.ev x)
 | .slice _ x lo hi _=>cutV (σ.ev x) (loB σ lo) (hiB σ (σ.ev x) hi)
 | .fieldAddr s x f=>addP (foT P s f) (σ.ev x)
 | .indexAddr _ x i=>idxV (σ.ev x) (getZ (σ.ev i))
 | .index _ x i=>.d (.int .u8 ((iY (σ.ev x)).getD (getZ (σ.ev i)).toNat 0).toNat)
 | .extract x i=>yG (σ.ev x) i
 | .field T x f=>fldV P T f (σ.ev x)
 | .makeFunc (.func f) _ caps=>.fn f (caps.toList.map σ.ev)
 | .call ⟨.builtin .len,args,_⟩=>.d (.int .i64 (lnV (σ.ev (args.getD 0 default))))
 | .call ⟨.builtin .max,args,_⟩=>.d (.int .i64 (if getZ (σ.ev (args.getD 1 default)) > getZ (σ.ev (args.getD 0 default)) then getZ (σ.ev (args.getD 1 default)) else getZ (σ.ev (args.getD 0 default))))
 | .call ⟨.builtin .min,args,_⟩=>.d (.int .i64 (if getZ (σ.ev (args.getD 1 default)) < getZ (σ.ev (args.getD 0 default)) then getZ (σ.ev (args.getD 1 default)) else getZ (σ.ev (args.getD 0 default))))
 | _=>.bad
def aJ (o : Oper) : Bool:=
 match o.op with
 | .move _ | .assign _ | .pick .. | .nilCheck _ | .binOp .. | .unOp .. | .convert .. | .fieldAddr .. | .indexAddr .. | .extract .. | .field .. | .slice .. | .build .. | .load .. | .index .. | .makeFunc ..=>true
 | .call ⟨.builtin .len,_,_⟩ | .call ⟨.builtin .max,_,_⟩ | .call ⟨.builtin .min,_,_⟩=>true
 | _=>false
noncomputable def veff (o : Oper) (σ : St) : St:=
 match o.op with
 | .alloc T => match o.dst with
   | some k=>(σ.lay k (.box (zbx P T))).put (some k) (.ptr k 0 0)
   | none=>σ
 | .box _ x => match o.dst with
   | some k=>(σ.lay k (.box (σ.ev x).cells)).put (some k) (.ptr k 0 0)
   | none=>σ
 | .buildSlice T n parts => match o.dst with
   | some k=>(σ.lay k (.row (slT P T).1 (slT P T).2.1 (iM (slT P T).2.1 n ((allC (parts.toList.map fun p=>σ.ev p.2)).map dD)))).put (some k) (.own k 0 n)
   | none=>σ
 | .store _ a x=>stSt σ o.dst (σ.ev a) (σ.ev x)
 | .makeSlice T l _ => match o.dst with
   | some k=>(σ.lay k (.row (slT P T).1 (slT P T).2.1 (List.replicate (getZ (σ.ev l)).toNat (zrT P (slT P T).1)))).put (some k) (.own k 0 (getZ (σ.ev l)).toNat)
   | none=>σ
 | .call ⟨.builtin .append,args,tys⟩=>qI P (tys.getD 0 0) σ o.dst (σ.ev (args.getD 0 default)) (σ.ev (args.getD 1 default))
 | _=>σ
noncomputable def vnext (o : Oper) (σ : St) : St:=if aJ o then σ.put o.dst (vval P o σ) else veff P o σ
def vpre (o : Oper) (σ : St) : Prop:=
 match o.op with
 | .move _ | .assign _=>True
 | .pick c _ _=>gL (σ.ev c) = true
 | .alloc T=>(tzero P T).isSome = true \/ zfn P T = true
 | .box _ x=>dZ σ.m (σ.ev x)
 | .build T parts=>(tzero P T).isSome = true /\ tfld P T = true /\ kv P T σ.m (parts.toList.map fun p=>(p.1,σ.ev p.2)) ((zrT P T).map .d)
 | .buildSlice T n parts=>(tslice P T).isSome = true /\ n * (slT P T).2.1 <= 16777216 /\ parts.size = n /\ fu σ (slT P T).2.1 0 parts.toList /\ (allC (parts.toList.map fun p=>σ.ev p.2)).all isD = true
 | .load T (.global g)=>(tsz P T).isSome = true /\ tagg P T = some true /\ ((gdat P).lookup g).isSome = true /\ (gcs P g).length = szT P T
 | .load T a=>(tsz P T).isSome = true /\ (tagg P T).isSome = true /\ eO σ.m (σ.ev a) /\ (if agB P T then szT P T else 1) <= (atP σ.m (σ.ev a)).length
 | .store T a x=>stOk P T σ (σ.ev a) (σ.ev x)
 | .nilCheck x=>eO σ.m (σ.ev x)
 | .binOp op T x y _=>nP op (σ.ev x) (σ.ev y) /\ jH P T (σ.ev x)
 | .unOp op _ x=>unOk op (σ.ev x)
 | .convert s t x=>sd P s t σ (σ.ev x)
 | .makeSlice T l c=>(tslice P T).isSome = true /\ (tzero P (slT P T).1).isSome = true /\ kOf (σ.ev l) = some .i64 /\ kOf (σ.ev c) = some .i64 /\ getZ (σ.ev c) = getZ (σ.ev l) /\ 0 <= getZ (σ.ev l) /\ LenOk (slT P T).2.2 (getZ (σ.ev l)).toNat
 | .slice T x lo hi mx=>mx.isNone = true /\ tstr P T = some (isStr (σ.ev x)) /\ lnOk (σ.ev x) = true /\ bdOk σ lo /\ bdOk σ hi /\
  loB σ lo <= hiB σ (σ.ev x) hi /\ hiB σ (σ.ev x) hi <= lnV (σ.ev x) /\ cutOk P T σ.m (σ.ev x)
 | .fieldAddr s x f=>(foff P s f).isSome = true /\ eO σ.m (σ.ev x)
 | .indexAddr T x i=>(tslice P T).isSome = true /\ iq (σ.ev i) = true /\ mh σ.m (slT P T).2.1 (σ.ev x) (getZ (σ.ev i))
 | .index T x i=>tstr P T = some true /\ isStr (σ.ev x) = true /\ iq (σ.ev i) = true /\ 0 <= getZ (σ.ev i) /\ (getZ (σ.ev i)).toNat < (iY (σ.ev x)).length
 | .extract x i=>yH (σ.ev x) i
 | .field T x f=>tW P T f (σ.ev x)
 | .makeFunc fn first _=>(match fn with | .func _=>True | _=>False) /\ first.size = 0
 | .call ⟨.builtin .len,args,tys⟩=>args.size = 1 /\ tys.size = 1 /\ lnOk (σ.ev (args.getD 0 default)) = true /\ x6 σ (σ.ev (args.getD 0 default)) /\
  tstr P (tys.getD 0 0) = some (isStr (σ.ev (args.getD 0 default)))
 | .call ⟨.builtin .max,args,_⟩ | .call ⟨.builtin .min,args,_⟩=>args.size = 2 /\ kOf (σ.ev (args.getD 0 default)) = some .i64 /\ kOf (σ.ev (args.getD 1 default)) = some .i64
 | .call ⟨.builtin .append,args,tys⟩=>args.size = 2 /\ tys.size = 2 /\ tys.getD 1 0 = tys.getD 0 0 /\ Ax P (tys.getD 0 0) σ (σ.ev (args.getD 0 default)) (σ.ev (args.getD 1 default))
 | _=>False
def mP (f : FuncId) (vs : List V) (dst : Option Tmp) (K : St -> Prop) (σ : St) : Prop:=
 match keysVL vs with
 | []=>rdL (fun _=>none) σ.m vs = some vs /\ ∃ post,VC P f vs post /\ ∀ r n hs',σ.hs <= n -> n <= hs' -> post n r -> (∀ i ∈ r.ids,i < hs') -> K ({ σ with hs:=hs' }.put dst r)
 | _ :: _ => ∀ γ n, σ.hs ≤ n → Gam σ γ n → ∃ As post, rdL γ σ.m vs = some As ∧ VC P f As post ∧
   ∀ r hs',n <= hs' -> post n r -> (∀ i ∈ r.ids,i < hs') -> (∀ i ∈ r.ids,n <= i) /\ r.hp = false /\ K ({ σ with hs:=hs' }.put dst r)
def St.frps : List Nat -> St -> St
 | [],σ=>σ
 | k :: r, σ => match σ.m k with
   | some (.row _ _ es)=>St.frps r (σ.frp k es)
   | _=>St.frps r σ
def sY (f : FuncId) (vs : List V) (dst : Option Tmp) (K : St -> Prop) (σ : St) : Prop:=
 ∃ As post, rpL σ.m vs = some As ∧ VC P f As post ∧
   ((∀ r n hs',σ.hs <= n -> n <= hs' -> post n r -> r.ln -> r.flat = true /\ K ({ σ with hs:=hs' }.put dst r)) \/
    (∀ r n hs',σ.hs <= n -> n <= hs' -> post n r -> r.ln -> K ({ (σ.frps (keysVL vs)) with hs:=hs' }.put dst r)))
def oP (m : Nat -> Option Blk) : List V -> List V
 | .ptr k 0 0 :: _=>getC (m k)
 | _=>[]
def oZ (f : FuncId) (W : List Nat) (post : Nat -> V -> List V -> List D -> Prop) (n : Nat) (vs : List V) (dst : Option Tmp) (K : St -> Prop) (σ : St) : Prop:=
 match vs with
 | .ptr k 0 0 :: rest=>keysVL rest = [] /\ rdL (fun _=>none) σ.m rest = some rest /\ isBox (σ.m k) = true /\ keysVL (getC (σ.m k)) = [] /\ rdL (fun _=>none) σ.m (getC (σ.m k)) = some (getC (σ.m k)) /\
  VX P f W (.ptr 1000 0 0 :: rest) (some (getC (σ.m k))) post /\
  ∀ r cs' ws hs', n ≤ hs' → post n r cs' ws → (∀ i ∈ r.ids, i < hs') → (∀ i ∈ idsVL cs', i < hs') → (∀ d ∈ ws, ∀ i ∈ d.ids, i < hs') →
    K ({ (σ.re (phi W ws)) with hs:=hs',m:=upd (σ.re (phi W ws)).m k (some (.box cs')) }.put dst r)
 | vs=>keysVL vs = [] /\ rdL (fun _=>none) σ.m vs = some vs /\ VX P f W vs none post /\
  ∀ r cs' ws hs',n <= hs' -> post n r cs' ws -> (∀ i ∈ r.ids,i < hs') -> (∀ d ∈ ws,∀ i ∈ d.ids,i < hs') -> K ({ (σ.re (phi W ws)) with hs:=hs' }.put dst r)
def DH (f : FuncId) (args : List Operand) (dst : Option Tmp) (K : St -> Prop) (σ : St) : Prop:=
 E f = true ∧ ∀ γ n, σ.hs ≤ n → Gam σ γ n → ∃ W post, (∀ g ∈ W, σ.wr g) ∧
   oZ P f W post n (args.map ({ σ with hs:=n }.frzs γ (keysVL (args.map σ.ev ++ oP σ.m (args.map σ.ev)))).ev) dst K ({ σ with hs:=n }.frzs γ (keysVL (args.map σ.ev ++ oP σ.m (args.map σ.ev))))
def oF (f : FuncId) (args : List Operand) (dst : Option Tmp) (K : St -> Prop) (σ : St) : Prop:=
 E f = true ∧ ∃ k rest As Cs post, args.map σ.ev = .ptr k 0 0 :: rest ∧ isBox (σ.m k) = true ∧ rpL σ.m rest = some As ∧ (rpL σ.m (getC (σ.m k)) = some Cs ∨ (Cs = getC (σ.m k) ∧ rdL (fun _ => none) σ.m (getC (σ.m k)) = some (getC (σ.m k)))) ∧ VX P f [] (.ptr 1000 0 0 :: As) (some Cs) post ∧
   ∀ r cs' ws n hs', σ.hs ≤ n → n ≤ hs' → post n r cs' ws → r.ln → lnVL cs' → (∀ i ∈ r.ids, i < hs') →
     K ({ (σ.frps (keysVL rest ++ keysVL (getC (σ.m k)))) with hs:=hs',m:=upd (σ.frps (keysVL rest ++ keysVL (getC (σ.m k)))).m k (some (.box cs')) }.put dst r)
def DF (f : FuncId) (vs : List V) (dst : Option Tmp) (K : St -> Prop) (σ : St) : Prop:=
 ∃ d As post, dst = some d ∧ keysVL vs = [] ∧ (rpL σ.m vs = some As ∨ (As = vs ∧ rdL (fun _ => none) σ.m vs = some vs)) ∧ VN P f As post ∧
   ∀ ds n hs',σ.hs <= n -> n <= hs' -> post n ds -> lnL ds -> (∀ i ∈ idsVL (ds.map V.d),i < hs') -> K ({ (σ.lay d (.box (ds.map V.d))) with hs:=hs' }.put (some d) (.ptr d 0 0))
def DG (f : FuncId) (vs : List V) (dst : Option Tmp) (K : St -> Prop) (σ : St) : Prop:=
 ∃ d As post, dst = some d ∧ rpL σ.m vs = some As ∧ VC P f As post ∧
   ∀ r n hs', σ.hs ≤ n → n ≤ hs' → post n r → (r = .d (.sl none none []) ∧ ∃ T sz, 0 < sz ∧ K ({ ((σ.frps (keysVL vs)).lay d (.row T sz [])) with hs := hs' }.put (some d) (.own d 0 0))) ∨
     (∃ g T sz es,r = .d (.sl (some g) (some (T,sz)) es) /\ n <= g /\ g ∉ idsLL es /\ K ({ ((σ.frps (keysVL vs)).lay d (.row T sz es)) with hs:=hs' }.put (some d) (.own d 0 es.length))) \/
     K ({ (σ.frps (keysVL vs)) with hs:=hs' }.put (some d) r) \/
     (∃ g T sz es b,r = .tup [.d (.sl (some g) (some (T,sz)) es),.d (.bool b)] /\ n <= g /\ g ∉ idsLL es /\ K ({ ((σ.frps (keysVL vs)).lay d (.row T sz es)) with hs:=hs' }.put (some d) (.tup [.own d 0 es.length,.d (.bool b)])))
def b9 (f : FuncId) (args : List Operand) (vs : List V) (dst : Option Tmp) (K : St -> Prop) (σ : St) : Prop:=mP P f vs dst K σ \/ DH P E f args dst K σ \/ sY P f vs dst K σ \/ oF P E f args dst K σ \/ DF P f vs dst K σ \/ DG P f vs dst K σ
def vdyn (o : Oper) (K : St -> Prop) (σ : St) : Prop:=
 ∀ (A0 : Env) [GlobC A0 P] (N : Nat) (w0 : World) (ρ : Nat → Option (Nat × Nat)) (a : Act) (w : World), Rel A0 N w0 ρ σ a w → (∀ t, o.dst = some t → t < N) →
   ∀ (next : Act -> World -> Prop) (Q : Exit -> Act -> World -> Prop),(∀ σ' ρ' a' w',Rel A0 N w0 ρ' σ' a' w' -> K σ' -> next a' w') -> o.wp P a w next Q
def KG (args : Array Operand) (tys : Array TypeId) (dst : Option Tmp) (K : St -> Prop) (σ : St) : Prop:=
 ∃ s x t dk g es, args = #[s, x] ∧ tys = #[t, t] ∧ dst = some dk ∧ (tslice P t).isSome = true ∧ elOk σ.m (σ.ev x) ∧ (∀ l ∈ elV σ.m (σ.ev x), l.length = (slT P t).2.1) ∧
   σ.ev s = .d (.sl (some g) (some ((slT P t).1,(slT P t).2.1)) es) /\ σ.B <= g /\ g ∉ idsLL (elV σ.m (σ.ev x)) /\ g ∉ idsLL es /\
   LenOk (slT P t).2.2 (es.length + (elV σ.m (σ.ev x)).length) /\ hpLL (elV σ.m (σ.ev x)) = false /\ 0 < (elV σ.m (σ.ev x)).length /\
   ∀ g' hs', σ.hs ≤ hs' → (g' = g ∨ σ.hs ≤ g') → g' < hs' →
     K ({ σ.re (one g (.sl (some g) (some ((slT P t).1,(slT P t).2.1)) es)) with hs:=hs' }.put (some dk) (.d (.sl (some g') (some ((slT P t).1,(slT P t).2.1)) (es ++ elV σ.m (σ.ev x)))))
def vop (o : Oper) (K : St -> Prop) (σ : St) : Prop:=
 match o.op with
 | .call ⟨.builtin .append,args,tys⟩=>if E.a = true then KG P args tys o.dst K σ else vpre P o σ /\ K (vnext P o σ)
 | .call ⟨.value (.func f),args,_⟩=>b9 P E f args.toList (args.toList.map σ.ev) o.dst K σ
 | .call ⟨.value (.tmp _),_,_⟩=>vdyn P o K σ
 | .buildSlice _ _ parts => match keysVL (allC (parts.toList.map fun p => σ.ev p.2)) with
   | []=>vpre P o σ /\ K (vnext P o σ)
   | k :: ks => if E.p = true then vpre P o (σ.frps (k :: ks)) ∧ K (vnext P o (σ.frps (k :: ks)))
     else ∀ γ hs',σ.hs <= hs' -> Gam σ γ hs' -> vpre P o ({ σ with hs:=hs' }.frzs γ (k :: ks)) /\ K (vnext P o ({ σ with hs:=hs' }.frzs γ (k :: ks)))
 | _=>vpre P o σ /\ K (vnext P o σ)
def vops (ops : Array Oper) (K : St -> Prop) : List Oper -> St -> Prop
 | [],σ=>K σ
 | o :: r, σ => match o.guard with
   | none=>vop P E o (vops ops K r) σ
   | some (j, want) => match (ops[j]?).bind (·.dst) with
     | some d => match σ.t d with
       | .d (.bool b)=>(b = want -> vop P E o (vops ops K r) σ) /\ ((!(b == want)) = true -> vops ops K r (σ.put o.dst (.tup [])))
       | .tup []=>vops ops K r (σ.put o.dst (.tup []))
       | _=>False
     | none=>False
def pick (ops : Array Oper) : List Nat -> List Oper
 | []=>[]
 | i :: r=>(ops.getD i default) :: pick ops r
def rI (K : St -> Prop) (Q : Exit -> St -> Prop) : Exit -> St -> Prop
 | .normal,σ=>K σ
 | e,σ=>Q e σ
def fC (id : Nat) (Q : Exit -> St -> Prop) : Exit -> St -> Prop
 | .exit id',σ=>if id' = id then Q .normal σ else Q (.exit id') σ
 | e,σ=>Q e σ
def B8 (I : Nat -> St -> Prop) (n : Nat) (Q : Exit -> St -> Prop) : Exit -> St -> Prop
 | .normal,σ=>Lead (fun s=>∃ k,k < n /\ I k s) σ
 | e,σ=>Q e σ
inductive Tr where
 | nil
 | seq (l : List Nat) (t : Tr)
 | app (i : Nat) (ts : List Nat) (t : Tr)
 | both (t u : Tr)
def fh (σ : St) (o : Oper) : Option Nat:=
 match o.op with
 | .call ⟨.builtin .append, args, _⟩ => match σ.ev (args.getD 0 default) with
   | .own k _ _=>some k
   | .d (.sl none none [])=>o.dst
   | .d (.sl none (some _) [])=>o.dst
   | _=>none
 | _=>none
def sepV (σ : St) (key : Nat) : V -> Prop
 | .ptr k _ _=>k ≠ key /\ (σ.m k).isSome = true
 | .fptr _ _ _=>True
 | .tup _=>True
 | _=>False
def sepD (σ : St) : V -> Prop
 | .ptr k _ _=>(σ.m k).isSome = true
 | .tup _=>True
 | _=>False
def vsep (σ : St) (o : Oper) (ts : List Nat) : Prop:=match fh σ o with
 | some key=>∀ t ∈ ts,sepV σ key (σ.t t)
 | none=>∀ t ∈ ts,sepD σ (σ.t t)
def vtr (ops : Array Oper) (K : St -> Prop) : Tr -> St -> Prop
 | .nil,σ=>K σ
 | .seq l t,σ=>vops P E ops (vtr ops K t) (pick ops l) σ
 | .app i ts t,σ=>vsep σ (ops.getD i default) ts /\ vops P E ops (vtr ops K t) [ops.getD i default] σ
 | .both t u,σ=>vtr ops K t σ /\ vtr ops K u σ
def vwp (sch : Nat -> Tr) : Code -> (Exit -> St -> Prop) -> St -> Prop
 | .skip,Q,σ=>Q .normal σ
 | .region id ops true,Q,σ=>vtr P E ops (Q .normal) (sch id) σ
 | .region _ ops false,Q,σ=>vops P E ops (Q .normal) ops.toList σ
 | .seq a b,Q,σ=>vwp sch a (rI (vwp sch b Q) Q) σ
 | .cond c x y,Q,σ=>gL (σ.ev c) = true /\ (getB (σ.ev c) = true -> vwp sch x Q σ) /\ (getB (σ.ev c) = false -> vwp sch y Q σ)
 | .block id c,Q,σ=>vwp sch c (fC id Q) σ
 | .loop c,Q,σ=>∃ I : Nat -> St -> Prop,Lead (fun s=>∃ n,I n s) σ /\ ∀ n σ',I n σ' -> vwp sch c (B8 I n Q) σ'
 | .exit id,Q,σ=>Q (.exit id) σ
 | .ret,Q,σ=>Q .ret σ
 | _,_,_=>False
def yK (sch : Nat -> Tr) (c : Code) (Q : Exit -> St -> Prop) (σ : St) : Prop:=
 ∃ I : Nat -> St -> Prop,Lead (fun s=>∃ n,I n s) σ /\ ∀ n σ',I n σ' -> vwp P E sch c (B8 I n Q) σ'
def resV (σ : St) : ResultVar -> V
 | .tmp t=>σ.t t
 | .cell a T=>if agB P T then .agg ((atP σ.m (σ.t a)).take (szT P T)) else hd (atP σ.m (σ.t a))
def nX (σ : St) : ResultVar -> Prop
 | .tmp _=>True
 | .cell a T=>(tsz P T).isSome = true /\ (tagg P T).isSome = true /\ eO σ.m (σ.t a) /\ (if agB P T then szT P T else 1) <= (atP σ.m (σ.t a)).length
def oneV : List V -> V
 | [v]=>v
 | l=>.tup l
def dsV : V -> List D
 | .d x=>[x]
 | .agg cs=>(cs.filter isD).map dD
 | _=>[]
def vend (rs : List ResultVar) (post : Nat -> V -> Prop) (σ : St) : Prop:=
 (∀ r ∈ rs,nX P σ r) /\ if E.p = true then (∃ r,rp σ.m (oneV (rs.map (resV P σ))) = some r /\ post σ.B r) else match (oneV (rs.map (resV P σ))).keys with
  | []=>rd (fun _=>none) σ.m (oneV (rs.map (resV P σ))) = some (oneV (rs.map (resV P σ))) /\ post σ.B (oneV (rs.map (resV P σ)))
  | _ :: _=>∀ γ hs',σ.hs <= hs' -> Gam σ γ hs' -> ∃ r,rd γ σ.m (oneV (rs.map (resV P σ))) = some r /\ post σ.B r
def vret (rs : List ResultVar) (post : Nat -> V -> Prop) : Exit -> St -> Prop
 | .normal,σ | .ret,σ=>vend P E rs post σ
 | _,_=>False
def bt (rs : List ResultVar) (post : Nat -> V -> List V -> List D -> Prop) (W : List Nat) (bx : Bool) (σ : St) : Prop:=
 (∀ r ∈ rs,nX P σ r) /\ (bx = true -> isBox (σ.m 1000) = true) /\ if E.p = true then (∃ r cs',rp σ.m (oneV (rs.map (resV P σ))) = some r /\ (rpL σ.m (if bx then getC (σ.m 1000) else []) = some cs' \/ (cs' = (if bx then getC (σ.m 1000) else []) /\ rdL (fun _=>none) σ.m (if bx then getC (σ.m 1000) else []) = some (if bx then getC (σ.m 1000) else []))) /\ post σ.B r cs' []) else ∃ is : List Nat,∀ γ hs',σ.hs <= hs' -> Gam σ γ hs' -> ∃ r cs',rd γ σ.m (oneV (rs.map (resV P σ))) = some r /\
  rdL γ σ.m (if bx then getC (σ.m 1000) else []) = some cs' /\ post σ.B r cs' (is.flatMap fun i=>dsV (σ.t i))
def vo (rs : List ResultVar) (post : Nat -> V -> List V -> List D -> Prop) (W : List Nat) (bx : Bool) : Exit -> St -> Prop
 | .normal,σ | .ret,σ=>bt P E rs post W bx σ
 | _,_=>False
def DJ (rs : List ResultVar) (post : Nat -> List D -> Prop) (σ : St) : Prop:=
 (∀ r ∈ rs,nX P σ r) /\ ∃ k cs ds,oneV (rs.map (resV P σ)) = .ptr k 0 0 /\ k ≠ 1000 /\ σ.m k = some (.box cs) /\ (rpL σ.m cs = some (ds.map V.d) \/ cs = ds.map V.d) /\ post σ.B ds
def GP (rs : List ResultVar) (post : Nat -> List D -> Prop) : Exit -> St -> Prop
 | .normal,σ | .ret,σ=>DJ P rs post σ
 | _,_=>False
def St.startX (args : List V) (W : List Nat) (bx : Option (List V)) (h : Nat) : St:={ B:=h,hs:=h,W:=W,t:=fun i=>args.getD i (.tup []),m:=fun k=>if k = 1000 then bx.map .box else none }
def St.start (args : List V) (h : Nat) : St:={ B:=h,hs:=h,W:=[],t:=fun i=>args.getD i (.tup []),m:=fun _=>none }
end
section
variable {P : Program} {E : Md} {sch : Nat -> Tr} {Q : Exit -> St -> Prop} {σ : St} {ops : Array Oper} {K : St -> Prop} {r : List Oper}
theorem KO (a b : Code) : vwp P E sch (.seq a b) Q σ = vwp P E sch a (rI (vwp P E sch b Q) Q) σ:=rfl
theorem IT : vwp P E sch .skip Q σ = Q .normal σ:=rfl
theorem vw (id : Nat) : vwp P E sch (.region id ops false) Q σ = vops P E ops (Q .normal) ops.toList σ:=rfl
theorem IM (id : Nat) : vwp P E sch (.region id ops true) Q σ = vtr P E ops (Q .normal) (sch id) σ:=rfl
theorem DN (c : Operand) (x y : Code) : vwp P E sch (.cond c x y) Q σ = (gL (σ.ev c) = true /\ (getB (σ.ev c) = true -> vwp P E sch x Q σ) /\ (getB (σ.ev c) = false -> vwp P E sch y Q σ)):=rfl
theorem FU (id : Nat) (c : Code) : vwp P E sch (.block id c) Q σ = vwp P E sch c (fC id Q) σ:=rfl
theorem IQ (c : Code) : vwp P E sch (.loop c) Q σ = yK P E sch c Q σ:=rfl
theorem IN (id : Nat) : vwp P E sch (.exit id) Q σ = Q (.exit id) σ:=rfl
theorem KN : vwp P E sch .ret Q σ = Q .ret σ:=rfl
theorem JQ : vops P E ops K [] σ = K σ:=rfl
theorem Fx (Kn : St -> Prop) : rI Kn Q .normal σ = Kn σ:=rfl
theorem Fw (Kn : St -> Prop) (id : Nat) : rI Kn Q (.exit id) σ = Q (.exit id) σ:=rfl
theorem Fy (Kn : St -> Prop) : rI Kn Q .ret σ = Q .ret σ:=rfl
theorem JL (id : Nat) : fC id Q .normal σ = Q .normal σ:=rfl
theorem JK (id id' : Nat) : fC id Q (.exit id') σ = if id' = id then Q .normal σ else Q (.exit id') σ:=rfl
theorem JM (id : Nat) : fC id Q .ret σ = Q .ret σ:=rfl
end
section
variable {P : Program} {E : Md} {ops : Array Oper} {K : St -> Prop} {r : List Oper} {σ : St} {dst : Option Tmp} {k d : Tmp} {ty : TypeId} {pos : String} {af : Array Edge}
theorem IR (x : Operand) : vops P E ops K (⟨dst,.move x,ty,pos,af,none⟩ :: r) σ = vops P E ops K r (σ.put dst (σ.ev x)):=by simp [vops,vop,vpre,vnext,vval,veff,aJ]
theorem DM (x : Operand) : vops P E ops K (⟨dst,.assign x,ty,pos,af,none⟩ :: r) σ = vops P E ops K r (σ.put dst (σ.ev x)):=by simp [vops,vop,vpre,vnext,vval,veff,aJ]
theorem IS (c a b : Operand) : vops P E ops K (⟨dst,.pick c a b,ty,pos,af,none⟩ :: r) σ = (gL (σ.ev c) = true /\ vops P E ops K r (σ.put dst (vite (getB (σ.ev c)) (σ.ev a) (σ.ev b)))):=by simp [vops,vop,vpre,vnext,vval,veff,aJ]
theorem FS (T : TypeId) : vops P E ops K (⟨some k,.alloc T,ty,pos,af,none⟩ :: r) σ = (((tzero P T).isSome = true \/ zfn P T = true) /\ vops P E ops K r ((σ.lay k (.box (zbx P T))).put (some k) (.ptr k 0 0))):=by simp [vops,vop,vpre,vnext,vval,veff,aJ]
theorem KH (T : TypeId) (x : Operand) : vops P E ops K (⟨some k,.box T x,ty,pos,af,none⟩ :: r) σ = (dZ σ.m (σ.ev x) /\ vops P E ops K r ((σ.lay k (.box (σ.ev x).cells)).put (some k) (.ptr k 0 0))):=by simp [vops,vop,vpre,vnext,vval,veff,aJ]
theorem FV (T : TypeId) (parts : Array (Nat × Operand)) : vops P E ops K (⟨dst,.build T parts,ty,pos,af,none⟩ :: r) σ = (((tzero P T).isSome = true /\ tfld P T = true /\ kv P T σ.m (parts.toList.map fun p=>(p.1,σ.ev p.2)) ((zrT P T).map .d)) /\
 vops P E ops K r (σ.put dst (.agg (lC P T (parts.toList.map fun p=>(p.1,σ.ev p.2)) ((zrT P T).map .d))))):=by simp [vops,vop,vpre,vnext,vval,veff,aJ]
theorem IP (T : TypeId) (t : Tmp) : vops P E ops K (⟨dst,.load T (.tmp t),ty,pos,af,none⟩ :: r) σ = (((tsz P T).isSome = true /\ (tagg P T).isSome = true /\ eO σ.m (σ.ev (.tmp t)) /\ (if agB P T then szT P T else 1) <= (atP σ.m (σ.ev (.tmp t))).length) /\
 vops P E ops K r (σ.put dst (if agB P T then .agg ((atP σ.m (σ.ev (.tmp t))).take (szT P T)) else hd (atP σ.m (σ.ev (.tmp t)))))):=by simp [vops,vop,vpre,vnext,vval,veff,aJ]
theorem FY (T : TypeId) (g : Nat) : vops P E ops K (⟨dst,.load T (.global g),ty,pos,af,none⟩ :: r) σ = (((tsz P T).isSome = true /\ tagg P T = some true /\ ((gdat P).lookup g).isSome = true /\ (gcs P g).length = szT P T) /\
 vops P E ops K r (σ.put dst (.agg ((gcs P g).map fun n=>.d (.int .i64 n))))):=by simp [vops,vop,vpre,vnext,vval,veff,aJ]
theorem wY (x : Operand) : vops P E ops K (⟨dst,.nilCheck x,ty,pos,af,none⟩ :: r) σ = (eO σ.m (σ.ev x) /\ vops P E ops K r (σ.put dst (σ.ev x))):=by simp [vops,vop,vpre,vnext,vval,veff,aJ]
theorem FT (op : BinOp) (T T' : TypeId) (x y : Operand) : vops P E ops K (⟨dst,.binOp op T x y T',ty,pos,af,none⟩ :: r) σ = ((nP op (σ.ev x) (σ.ev y) /\ jH P T (σ.ev x)) /\ vops P E ops K r (σ.put dst (.d (binD op (σ.ev x) (σ.ev y))))):=by simp [vops,vop,vpre,vnext,vval,veff,aJ]
theorem IU (op : UnOp) (T : TypeId) (x : Operand) : vops P E ops K (⟨dst,.unOp op T x,ty,pos,af,none⟩ :: r) σ = (unOk op (σ.ev x) /\ vops P E ops K r (σ.put dst (.d (unD op (σ.ev x))))):=by simp [vops,vop,vpre,vnext,vval,veff,aJ]
theorem vq (s f : Nat) (x : Operand) : vops P E ops K (⟨dst,.fieldAddr s x f,ty,pos,af,none⟩ :: r) σ = (((foff P s f).isSome = true /\ eO σ.m (σ.ev x)) /\ vops P E ops K r (σ.put dst (addP (foT P s f) (σ.ev x)))):=by simp [vops,vop,vpre,vnext,vval,veff,aJ]
theorem FX (s f : Nat) (x : Operand) : vops P E ops K (⟨dst,.field s x f,ty,pos,af,none⟩ :: r) σ = (tW P s f (σ.ev x) /\ vops P E ops K r (σ.put dst (fldV P s f (σ.ev x)))):=by simp [vops,vop,vpre,vnext,vval,veff,aJ]
theorem vt (T : Nat) (x i : Operand) : vops P E ops K (⟨dst,.indexAddr T x i,ty,pos,af,none⟩ :: r) σ = (((tslice P T).isSome = true /\ iq (σ.ev i) = true /\ mh σ.m (slT P T).2.1 (σ.ev x) (getZ (σ.ev i))) /\ vops P E ops K r (σ.put dst (idxV (σ.ev x) (getZ (σ.ev i))))):=by simp [vops,vop,vpre,vnext,vval,veff,aJ]
theorem F3 (T : Nat) (x i : Operand) : vops P E ops K (⟨dst,.index T x i,ty,pos,af,none⟩ :: r) σ = ((tstr P T = some true /\ isStr (σ.ev x) = true /\ iq (σ.ev i) = true /\ 0 <= getZ (σ.ev i) /\ (getZ (σ.ev i)).toNat < (iY (σ.ev x)).length) /\ vops P E ops K r (σ.put dst (.d (.int .u8 ((iY (σ.ev x)).getD (getZ (σ.ev i)).toNat 0).toNat)))):=by simp [vops,vop,vpre,vnext,vval,veff,aJ]
theorem KJ (x : Operand) (t : TypeId) : vops P E ops K (⟨dst,.call ⟨.builtin .len,#[x],#[t]⟩,ty,pos,af,none⟩ :: r) σ = ((lnOk (σ.ev x) = true /\ x6 σ (σ.ev x) /\ tstr P t = some (isStr (σ.ev x))) /\
 vops P E ops K r (σ.put dst (.d (.int .i64 (lnV (σ.ev x)))))):=by simp [vops,vop,vpre,vnext,vval,veff,aJ]
theorem IL (f : FuncId) (args : Array Operand) (tys : Array TypeId) : vops P E ops K (⟨dst,.call ⟨.value (.func f),args,tys⟩,ty,pos,af,none⟩ :: r) σ = b9 P E f args.toList (args.toList.map σ.ev) dst (vops P E ops K r) σ:=by simp [vops,vop,vpre,vnext,vval,veff,aJ]
theorem wX (f : Nat) (caps : Array Operand) : vops P E ops K (⟨dst,.makeFunc (.func f) #[] caps,ty,pos,af,none⟩ :: r) σ = vops P E ops K r (σ.put dst (.fn f (caps.toList.map σ.ev))):=by simp [vops,vop,vpre,vnext,vval,veff,aJ]
theorem Kg : vtr P E ops K .nil σ = K σ:=rfl
theorem Kh (l : List Nat) (t : Tr) : vtr P E ops K (.seq l t) σ = vops P E ops (vtr P E ops K t) (pick ops l) σ:=rfl
theorem H6 (t u : Tr) : vtr P E ops K (.both t u) σ = (vtr P E ops K t σ /\ vtr P E ops K u σ):=rfl
theorem Cp : pick ops [] = []:=rfl
theorem zN (i : Nat) (l : List Nat) : pick ops (i :: l) = ops.getD i default :: pick ops l:=rfl
theorem CB (v : V) : σ.put none v = σ:=rfl
theorem Hu (B hs : Nat) (W : List Nat) (t : Nat -> V) (m : Nat -> Option Blk) (i : Nat) : (St.mk B hs W t m).ev (.tmp i) = t i:=rfl
theorem Bg (v : Value) : σ.ev (.const v) = oY v:=rfl
end
section
open Go.RowKit
theorem fE {x : D} {l : List D} (h : x ∈ l) {i : Nat} (hi : i ∈ x.ids) : i ∈ idsL l:=by
 induction l with
 | nil=>cases h
 | cons y r ih =>
   simp only [idsL,Qq]
   rcases Zz.1 h with rfl | h
   ·exact .inl hi
   ·exact .inr (ih h)
theorem dE {e : List D} {l : List (List D)} (h : e ∈ l) {i : Nat} (hi : i ∈ idsL e) : i ∈ idsLL l:=by
 induction l with
 | nil=>cases h
 | cons y r ih =>
   simp only [idsLL,Qq]
   rcases Zz.1 h with rfl | h
   ·exact .inl hi
   ·exact .inr (ih h)
theorem ow {l : List D} {i : Nat} (hi : i ∈ idsL l) : ∃ x,x ∈ l /\ i ∈ x.ids:=by
 induction l with
 | nil=>simp [idsL] at hi
 | cons y r ih =>
   simp only [idsL,Qq] at hi
   rcases hi with h | h
   ·exact ⟨y,by simp,h⟩
   ·obtain ⟨x,hx,h⟩:=ih h; exact ⟨x,by simp [hx],h⟩
theorem jV {l : List (List D)} {i : Nat} (hi : i ∈ idsLL l) : ∃ e,e ∈ l /\ i ∈ idsL e:=by
 induction l with
 | nil=>simp [idsLL] at hi
 | cons y r ih =>
   simp only [idsLL,Qq] at hi
   rcases hi with h | h
   ·exact ⟨y,by simp,h⟩
   ·obtain ⟨x,hx,h⟩:=ih h; exact ⟨x,by simp [hx],h⟩
theorem ou : ∀ l : List D,(erL l).length = l.length
 | []=>rfl
 | x :: r=>by simp [erL,ou r]
theorem jQ : ∀ l : List (List D),(erLL l).length = l.length
 | []=>rfl
 | x :: r=>by simp [erLL,jQ r]
theorem ot : ∀ (l : List D) (i : Nat) (y : D),(erL l)[i]? = some y -> ∃ x,l[i]? = some x /\ y = x.er
 | [],i,y,h=>by simp [erL] at h
 | x :: r, i, y, h => by
   cases i with
   | zero=>simp only [erL,List.getElem?_cons_zero,Jx] at h; exact ⟨x,rfl,h.symm⟩
   | succ i=>simp only [erL,List.getElem?_cons_succ] at h; simpa using ot r i y h
theorem pt : ∀ (l : List (List D)) (i : Nat) (y : List D),(erLL l)[i]? = some y -> ∃ x,l[i]? = some x /\ y = erL x
 | [],i,y,h=>by simp [erLL] at h
 | x :: r, i, y, h => by
   cases i with
   | zero=>simp only [erLL,List.getElem?_cons_zero,Jx] at h; exact ⟨x,rfl,h.symm⟩
   | succ i=>simp only [erLL,List.getElem?_cons_succ] at h; simpa using pt r i y h
section
variable {S S' : Nat -> Prop} {w w' : World}
theorem DR.mono (hS : ∀ g,S g -> S' g) (hw : ∀ g,S g -> w'.heap[g]? = w.heap[g]?) {x : D} {v : Value} (h : DR S w x v) : DR S' w' x v:=by
 induction h with
 | bool b=>exact .bool b
 | int k n=>exact .int k n
 | str s=>exact .str s
 | nil T=>exact .nil T
 | sl g T es a cap sz vs hg ha hcap hm hsz hc hd hwh hh ih =>
   refine .sl g T es a cap sz vs (hS g hg) ha hcap hm hsz (fun i e he j u hu=>?_) ih (fun t ht=>?_) hh
   ·rw [World.cell?_of_block (w:=w)]
    ·exact hc i e he j u hu
    ·have hpos : 0 < cap:=Xq (by have:=(Qx.1 he).1; omega) hcap
     have : (a.add (i * sz + j)).block = g:=by unfold Addr.add; split <;> exact ha hpos
     rw [this]; exact hw g hg
   ·obtain ⟨h1,h2,cur,h3,h4⟩:=hwh t ht
    exact ⟨h1,h2,cur,(hw g hg).trans h3,h4⟩
 | emp t a=>exact .emp t a
 | pl es a cap sz vs hg hn hcap hm hsz hc hd ih =>
   refine .pl es a cap sz vs (fun p hp h0=>hS _ (hg p hp h0)) hn hcap hm hsz (fun p hp i e he j u hu=>?_) ih
   rw [World.cell?_of_block (w:=w)]
   ·exact hc p hp i e he j u hu
   ·have hpos : 0 < cap:=Xq (by have:=(Qx.1 he).1; omega) hcap
    have : (p.add (i * sz + j)).block = p.block:=by unfold Addr.add; split <;> rfl
    rw [this]; exact hw _ (hg p hp hpos)
theorem DR.ids {x : D} {v : Value} (h : DR S w x v) : ∀ i ∈ x.ids,S i:=by
 induction h with
 | bool b=>intro i hi; simp [D.ids] at hi
 | int k n=>intro i hi; simp [D.ids] at hi
 | str s=>intro i hi; simp [D.ids] at hi
 | nil T=>intro i hi; simp [D.ids,idsLL] at hi
 | sl g T es a cap sz vs hg ha hcap hm hsz hc hd hwh hh ih =>
   intro i hi
   simp only [D.ids,Qq] at hi
   rcases hi with hi | hi
   ·simp at hi; subst hi; exact hg
   ·obtain ⟨e,he,hi⟩:=jV hi
    obtain ⟨u,hu,hi⟩:=ow hi
    obtain ⟨m,hm⟩:=List.mem_iff_getElem?.1 he
    obtain ⟨n,hn⟩:=List.mem_iff_getElem?.1 hu
    exact ih m e hm n u hn i hi
 | emp t a=>intro i hi; simp [D.ids,idsLL] at hi
 | pl es a cap sz vs hg hn hcap hm hsz hc hd ih=>intro i hi; simp [D.ids] at hi
theorem il {es : List (List D)} (h : hpLL es = false) {i : Nat} {e : List D} (he : es[i]? = some e) {j : Nat} {u : D} (hu : e[j]? = some u) : u.hp = false:=by
 simp only [hpLL,hpL,List.any_eq_false,List.mem_iff_getElem?] at h
 have h1:=h e ⟨i,he⟩
 simp only [Bool.not_eq_true,List.any_eq_false,List.mem_iff_getElem?] at h1
 simpa using h1 u ⟨j,hu⟩
theorem DR.strong' {x : D} {v : Value} (h : DR S w x v) : DR (fun g=>S g /\ (g ∈ x.ids \/ x.hp = true)) w x v:=by
 induction h with
 | bool b=>exact .bool b
 | int k n=>exact .int k n
 | str s=>exact .str s
 | nil T=>exact .nil T
 | sl g T es a cap sz vs hg ha hcap hm hsz hc hd hwh hh ih =>
   refine .sl g T es a cap sz vs ⟨hg,by simp [D.ids]⟩ ha hcap hm hsz hc (fun i e he j u hu=>?_) hwh hh
   refine (ih i e he j u hu).mono (fun g' hg'=>⟨hg'.1,?_⟩) (fun _ _=>rfl)
   rcases hg'.2 with h | h
   ·simp only [D.ids,Qq]
    exact .inl (.inr (dE (Qk he) (fE (Qk hu) h)))
   ·rw [il hh he hu] at h; cases h
 | emp t a=>exact .emp t a
 | pl es a cap sz vs hg hn hcap hm hsz hc hd ih =>
   exact .pl es a cap sz vs (fun p hp h0=>⟨hg p hp h0,.inr rfl⟩) hn hcap hm hsz hc (fun i e he j u hu=>(hd i e he j u hu).mono (fun g' hg'=>⟨hg',.inr rfl⟩) (fun _ _=>rfl))
theorem DR.strong {x : D} {v : Value} (h : DR S w x v) (hh : x.hp = false) : DR (fun g=>S g /\ g ∈ x.ids) w x v:=
 h.strong'.mono (fun g hg=>⟨hg.1,by rcases hg.2 with h | h; exact h; rw [hh] at h; cases h⟩) (fun _ _=>rfl)
mutual
theorem DR.er : ∀ {x : D} {v : Value},DR S w x v -> DR S w x.er v
 | .bool _,_,h=>h
 | .int _ _,_,h=>h
 | .str _,_,h=>h
 | .pl _,_,h=>h
 | .sl id T es, v, h => by
   simp only [D.er]
   cases h with
   | nil T=>exact .pl [] none 0 0 (fun _=>.bool false) (fun p hp=>by cases hp) (fun h=>absurd h (Nat.lt_irrefl 0)) (Jv _) (Nat.zero_le _) (by simp) (by simp) (by simp)
   | emp t a=>exact .pl [] a 0 0 (fun _=>.bool false) (fun p hp h=>absurd h (Nat.lt_irrefl 0)) (fun h=>absurd h (Nat.lt_irrefl 0)) (Jv _) (Nat.zero_le _) (by simp) (by simp) (by simp)
   | sl g _ _ a cap sz vs hg ha hcap hm hsz hc hd hwh hh =>
     have hel : ∀ (i : Nat) (e : List D),(erLL es)[i]? = some e -> ∃ e0,es[i]? = some e0 /\ e = erL e0:=pt es
     have hlen : (erLL es).length = es.length:=jQ es
     rw [<- hlen]
     refine .pl (erLL es) (some a) cap sz vs (fun p hp h0=>by cases hp; rw [ha h0]; exact hg) (fun _=>by simp) (by omega) hm (fun i e he=>?_) (fun p hp i e he j u hu=>?_) (fun i e he j u hu=>?_)
     ·obtain ⟨e0,h0,rfl⟩:=hel i e he
      rw [ou]; exact hsz i e0 h0
     ·cases hp
      obtain ⟨e0,h0,rfl⟩:=hel i e he
      obtain ⟨u0,h1,rfl⟩:=ot e0 j u hu
      exact hc i e0 h0 j u0 h1
     ·obtain ⟨e0,h0,rfl⟩:=hel i e he
      obtain ⟨u0,h1,rfl⟩:=ot e0 j u hu
      exact xC es i e0 h0 j u0 h1 (hd i e0 h0 j u0 h1)
theorem Ba : ∀ (l : List D) (j : Nat) (u : D),l[j]? = some u -> ∀ {v : Value},DR S w u v -> DR S w u.er v
 | [],_,_,h=>by simp at h
 | x :: r, j, u, h => fun hd => by
   cases j with
   | zero=>simp only [List.getElem?_cons_zero,Jx] at h; rw [<- h] at hd ⊢; exact DR.er hd
   | succ j=>exact Ba r j u (by simpa using h) hd
theorem xC : ∀ (l : List (List D)) (i : Nat) (e : List D),l[i]? = some e -> ∀ (j : Nat) (u : D),e[j]? = some u -> ∀ {v : Value},DR S w u v -> DR S w u.er v
 | [],_,_,h=>by simp at h
 | x :: r, i, e, h => fun j u hu _ hd => by
   cases i with
   | zero=>simp only [List.getElem?_cons_zero,Jx] at h; rw [<- h] at hu; exact Ba x j u hu hd
   | succ i=>exact xC r i e (by simpa using h) j u hu hd
end
theorem xR : ∀ {l : List D},(∀ u ∈ l,u.ln) -> lnL l
 | [],_=>trivial
 | x :: r,h=>⟨h x (by simp),xR fun u hu=>h u (by simp [hu])⟩
theorem mn : ∀ {l : List (List D)},(∀ e ∈ l,∀ u ∈ e,u.ln) -> lnLL l
 | [],_=>trivial
 | x :: r,h=>⟨xR (h x (by simp)),mn fun e he=>h e (by simp [he])⟩
theorem DR.ln {x : D} {v : Value} (h : DR S w x v) : x.ln:=by
 induction h with
 | bool b=>trivial
 | int k n=>trivial
 | str s=>trivial
 | nil T=>exact ⟨Nat.zero_le _,trivial⟩
 | emp t a=>exact ⟨Nat.zero_le _,trivial⟩
 | sl g T es a cap sz vs hg ha hcap hm hsz hc hd hwh hh ih =>
   refine ⟨Zy hcap hm,mn fun e he u hu=>?_⟩
   obtain ⟨i,hi⟩:=List.mem_iff_getElem?.1 he
   obtain ⟨j,hj⟩:=List.mem_iff_getElem?.1 hu
   exact ih i e hi j u hj
 | pl es a cap sz vs hg hn hcap hm hsz hc hd ih =>
   refine ⟨Zy hcap hm,mn fun e he u hu=>?_⟩
   obtain ⟨i,hi⟩:=List.mem_iff_getElem?.1 he
   obtain ⟨j,hj⟩:=List.mem_iff_getElem?.1 hu
   exact ih i e hi j u hj
theorem DR.oneCell {x : D} {v : Value} (h : DR S w x v) : v.oneCell' = true:=by
 cases h <;> rfl
theorem DR.cells {x : D} {v : Value} (h : DR S w x v) : v.cells = #[v]:=by
 cases h <;> rfl
end
theorem ct (a : Addr) (n : Nat) : (a.add n).block = a.block:=by unfold Addr.add; split <;> rfl
def KC (ρ : Nat -> Option (Nat × Nat)) (m : Nat -> Option Blk) (ρ' : Nat -> Option (Nat × Nat)) (m' : Nat -> Option Blk) (k : Nat) : Prop:=
 match m' k with
 | none=>True
 | some (.row _ sz' es')=>ρ' k = ρ k /\ ∃ T es,m k = some (.row T sz' es) /\ es.length <= es'.length
 | some (.box _)=>ρ' k = ρ k /\ ∃ cs,m k = some (.box cs)
section
variable {ρ ρ' : Nat -> Option (Nat × Nat)} {m m' : Nat -> Option Blk} {S S' : Nat -> Prop} {w w' : World}
theorem KC.refl (k : Nat) : KC ρ m ρ m k:=by
 unfold KC
 cases h : m k with
 | none=>trivial
 | some b => cases b with
   | box cs=>exact ⟨rfl,cs,rfl⟩
   | row T sz es=>exact ⟨rfl,T,es,rfl,Jv _⟩
theorem ly {k lo n : Nat} {val : Value} (hk : KC ρ m ρ' m' k) (h : VR ρ m S w (.own k lo n) val) : VR ρ' m' S' w' (.own k lo n) val:=by
 simp only [VR] at h ⊢
 unfold KC at hk
 cases h' : m' k with
 | none=>trivial
 | some b =>
   cases b with
   | box cs =>
     simp only [h'] at hk
     obtain ⟨_,cs,hm⟩:=hk
     simp [hm] at h
   | row T sz es =>
     simp only [h'] at hk
     obtain ⟨hr,T0,es0,hm,hl⟩:=hk
     simp only [hm] at h
     exact ⟨by omega,by rw [hr]; exact h.2⟩
theorem lz {k i off : Nat} {val : Value} (hk : KC ρ m ρ' m' k) (h : VR ρ m S w (.ptr k i off) val) : VR ρ' m' S' w' (.ptr k i off) val:=by
 simp only [VR] at h ⊢
 unfold KC at hk
 cases h' : m' k with
 | none=>trivial
 | some b =>
   cases b with
   | box cs =>
     simp only [h'] at hk
     obtain ⟨hr,cs,hm⟩:=hk
     simp only [hm] at h
     exact ⟨h.1,by rw [hr]; exact h.2⟩
   | row T sz es =>
     simp only [h'] at hk
     obtain ⟨hr,T0,es0,hm,hl⟩:=hk
     simp only [hm] at h
     show ∃ g cap,ρ' k = some (g,cap) /\ _
     rw [hr]; exact h
mutual
theorem VR.mono (hS : ∀ g,S g -> S' g) (hw : ∀ g,S g -> w'.heap[g]? = w.heap[g]?) (hk : ∀ k,KC ρ m ρ' m' k) : ∀ (v : V) (val : Value),VR ρ m S w v val -> VR ρ' m' S' w' v val
 | .d x,val,h=>by simp only [VR] at h ⊢; exact h.mono hS hw
 | .own k lo n,val,h=>ly (hk k) h
 | .ptr k i off,val,h=>lz (hk k) h
 | .fptr x i off, val, h => by
   simp only [VR] at h ⊢
   obtain ⟨a,n,c,sz,h1,h2⟩:=h
   exact ⟨a,n,c,sz,h1.mono hS hw,h2⟩
 | .bad,val,h=>by simp [VR]
 | .agg cs, val, h => by
   simp only [VR] at h ⊢
   obtain ⟨l,h1,h2⟩:=h
   exact ⟨l,h1,LR.mono hS hw hk cs l h2⟩
 | .tup vs, val, h => by
   simp only [VR] at h ⊢
   obtain ⟨l,h1,h2⟩:=h
   exact ⟨l,h1,LR.mono hS hw hk vs l h2⟩
 | .fn ff vs, val, h => by
   simp only [VR] at h ⊢
   obtain ⟨l,h1,h2⟩:=h
   exact ⟨l,h1,LR.mono hS hw hk vs l h2⟩
theorem LR.mono (hS : ∀ g,S g -> S' g) (hw : ∀ g,S g -> w'.heap[g]? = w.heap[g]?) (hk : ∀ k,KC ρ m ρ' m' k) : ∀ (l : List V) (vals : List Value),LR ρ m S w l vals -> LR ρ' m' S' w' l vals
 | [],[],_=>by simp [LR]
 | [],_ :: _,h=>by simp [LR] at h
 | _ :: _,[],h=>by simp [LR] at h
 | c :: cs, v :: l, h => by
   simp only [LR] at h ⊢
   exact ⟨VR.mono hS hw hk c v h.1,LR.mono hS hw hk cs l h.2⟩
end
mutual
theorem VR.wipe (k : Nat) (hS : ∀ g,S g -> S' g) (hw : ∀ g,S g -> w'.heap[g]? = w.heap[g]?) (hk : ∀ j,j ≠ k -> KC ρ m ρ' m' j) : ∀ (v : V) (val : Value),VR ρ m S w v val -> VR ρ' m' S' w' (wipe k v) val
 | .d x,val,h=>by simp only [VR,Vs.wipe] at h ⊢; exact h.mono hS hw
 | .own j lo n, val, h => by
   simp only [Vs.wipe]
   split
   ·simp [VR]
   ·rename_i hj; exact ly (hk j hj) h
 | .ptr j i off, val, h => by
   simp only [Vs.wipe]
   split
   ·simp [VR]
   ·rename_i hj; exact lz (hk j hj) h
 | .fptr x i off, val, h => by
   simp only [VR,Vs.wipe] at h ⊢
   obtain ⟨a,n,c,sz,h1,h2⟩:=h
   exact ⟨a,n,c,sz,h1.mono hS hw,h2⟩
 | .bad,val,h=>by simp [VR,Vs.wipe]
 | .agg cs, val, h => by
   simp only [VR,Vs.wipe] at h ⊢
   obtain ⟨l,h1,h2⟩:=h
   exact ⟨l,h1,LR.wipe k hS hw hk cs l h2⟩
 | .tup vs, val, h => by
   simp only [VR,Vs.wipe] at h ⊢
   obtain ⟨l,h1,h2⟩:=h
   exact ⟨l,h1,LR.wipe k hS hw hk vs l h2⟩
 | .fn ff vs, val, h => by
   simp only [VR,Vs.wipe] at h ⊢
   obtain ⟨l,h1,h2⟩:=h
   exact ⟨l,h1,LR.wipe k hS hw hk vs l h2⟩
theorem LR.wipe (k : Nat) (hS : ∀ g,S g -> S' g) (hw : ∀ g,S g -> w'.heap[g]? = w.heap[g]?) (hk : ∀ j,j ≠ k -> KC ρ m ρ' m' j) : ∀ (l : List V) (vals : List Value),LR ρ m S w l vals -> LR ρ' m' S' w' (wipeL k l) vals
 | [],[],_=>by simp [LR,Vs.wipeL]
 | [],_ :: _,h=>by simp [LR] at h
 | _ :: _,[],h=>by simp [LR] at h
 | c :: cs, v :: l, h => by
   simp only [LR,Vs.wipeL] at h ⊢
   exact ⟨VR.wipe k hS hw hk c v h.1,LR.wipe k hS hw hk cs l h.2⟩
end
mutual
theorem VR.ln : ∀ (v : V) (val : Value),VR ρ m S w v val -> v.ln
 | .d x,val,h=>by simp only [VR,V.ln] at h ⊢; exact h.ln
 | .own _ _ _,_,_=>trivial
 | .ptr _ _ _,_,_=>trivial
 | .fptr _ _ _,_,_=>trivial
 | .bad,_,_=>trivial
 | .agg cs, val, h => by
   simp only [VR,V.ln] at h ⊢
   obtain ⟨l,_,h2⟩:=h
   exact LR.ln cs l h2
 | .tup vs, val, h => by
   simp only [VR,V.ln] at h ⊢
   obtain ⟨l,_,h2⟩:=h
   exact LR.ln vs l h2
 | .fn ff vs, val, h => by
   simp only [VR,V.ln] at h ⊢
   obtain ⟨l,_,h2⟩:=h
   exact LR.ln vs l h2
theorem LR.ln : ∀ (l : List V) (vals : List Value),LR ρ m S w l vals -> lnVL l
 | [],[],_=>trivial
 | [],_ :: _,h=>by simp [LR] at h
 | _ :: _,[],h=>by simp [LR] at h
 | c :: cs, v :: l, h => by
   simp only [LR] at h
   exact ⟨VR.ln c v h.1,LR.ln cs l h.2⟩
end
theorem gD (k : Nat) : ∀ l : List V,wipeL k l = l.map (wipe k)
 | []=>rfl
 | v :: r=>by simp [wipeL,gD k r]
theorem tZ (k : Nat) (g : Option Nat) (T : TypeId × Nat) (es : List (List D)) : ∀ l : List V,frzL k g T es l = l.map (frz k g T es)
 | []=>rfl
 | v :: r=>by simp [frzL,tZ k g T es r]
theorem LR.length : ∀ {l : List V} {vals : List Value},LR ρ m S w l vals -> l.length = vals.length
 | [],[],_=>rfl
 | [],_ :: _,h=>by simp [LR] at h
 | _ :: _,[],h=>by simp [LR] at h
 | c :: cs,v :: l,h=>by simp only [LR] at h; simp [LR.length h.2]
theorem LR.get : ∀ {l : List V} {vals : List Value},LR ρ m S w l vals -> ∀ (i : Nat) (c : V),l[i]? = some c -> ∃ v,vals[i]? = some v /\ VR ρ m S w c v
 | [],[],_,i,c,h=>by simp at h
 | [],_ :: _,h,_,_,_=>by simp [LR] at h
 | _ :: _,[],h,_,_,_=>by simp [LR] at h
 | c :: cs, v :: l, h, i, c', hc => by
   simp only [LR] at h
   cases i with
   | zero=>simp at hc; subst hc; exact ⟨v,rfl,h.1⟩
   | succ i=>simp at hc; simpa using LR.get h.2 i c' hc
theorem LR.of_get : ∀ {l : List V} {vals : List Value},l.length = vals.length -> (∀ (i : Nat) (c : V) (v : Value),l[i]? = some c -> vals[i]? = some v -> VR ρ m S w c v) -> LR ρ m S w l vals
 | [],[],_,_=>by simp [LR]
 | [],_ :: _,h,_=>by simp at h
 | _ :: _,[],h,_=>by simp at h
 | c :: cs, v :: l, h, hg => by
   simp only [LR]
   exact ⟨hg 0 c v rfl rfl,LR.of_get (by simpa using h) fun i c' v' h1 h2=>hg (i + 1) c' v' (by simpa using h1) (by simpa using h2)⟩
theorem LR.append : ∀ {l l' : List V} {vals vals' : List Value},LR ρ m S w l vals -> LR ρ m S w l' vals' -> LR ρ m S w (l ++ l') (vals ++ vals')
 | [],_,[],_,_,h'=>h'
 | [],_,_ :: _,_,h,_=>by simp [LR] at h
 | _ :: _,_,[],_,h,_=>by simp [LR] at h
 | c :: cs, l', v :: l, vals', h, h' => by
   simp only [LR,List.cons_append] at h ⊢
   exact ⟨h.1,LR.append h.2 h'⟩
theorem LR.take {l : List V} {vals : List Value} (h : LR ρ m S w l vals) (n : Nat) : LR ρ m S w (l.take n) (vals.take n):=by
 refine LR.of_get (by simp [h.length]) fun i c v hc hv=>?_
 rw [List.getElem?_take] at hc hv
 split at hc
 ·rename_i hi
  rw [if_pos hi] at hv
  obtain ⟨v',h1,h2⟩:=h.get i c hc
  rw [hv] at h1; cases h1; exact h2
 ·cases hc
theorem LR.drop {l : List V} {vals : List Value} (h : LR ρ m S w l vals) (n : Nat) : LR ρ m S w (l.drop n) (vals.drop n):=by
 refine LR.of_get (by simp [h.length]) fun i c v hc hv=>?_
 rw [List.getElem?_drop] at hc hv
 obtain ⟨v',h1,h2⟩:=h.get _ c hc
 rw [hv] at h1; cases h1; exact h2
end
end
section
open Go.RowKit
section
variable {ρ : Nat -> Option (Nat × Nat)} {m : Nat -> Option Blk} {S : Nat -> Prop} {w : World}
mutual
theorem VR.ids_ : ∀ (v : V) (val : Value),VR ρ m S w v val -> ∀ i ∈ v.ids,S i
 | .d x,val,h=>by simp only [VR,V.ids] at h ⊢; exact h.ids
 | .own k lo n,val,h=>by simp [V.ids]
 | .ptr k i off,val,h=>by simp [V.ids]
 | .fptr x i off, val, h => by
   simp only [VR,V.ids] at h ⊢
   obtain ⟨a,n,c,sz,h1,h2⟩:=h
   exact h1.ids
 | .bad,val,h=>by simp [V.ids]
 | .agg cs, val, h => by
   simp only [VR,V.ids] at h ⊢
   obtain ⟨l,_,h2⟩:=h
   exact LR.ids_ cs l h2
 | .tup cs, val, h => by
   simp only [VR,V.ids] at h ⊢
   obtain ⟨l,_,h2⟩:=h
   exact LR.ids_ cs l h2
 | .fn ff cs, val, h => by
   simp only [VR,V.ids] at h ⊢
   obtain ⟨l,_,h2⟩:=h
   exact LR.ids_ cs l h2
theorem LR.ids_ : ∀ (l : List V) (vals : List Value),LR ρ m S w l vals -> ∀ i ∈ idsVL l,S i
 | [],[],_=>by simp [idsVL]
 | [],_ :: _,h=>by simp [LR] at h
 | _ :: _,[],h=>by simp [LR] at h
 | c :: cs, v :: l, h => by
   simp only [LR,idsVL,Qq] at h ⊢
   intro i hi
   rcases hi with hi | hi
   ·exact VR.ids_ c v h.1 i hi
   ·exact LR.ids_ cs l h.2 i hi
end
end
section
variable {A0 : Env} {N : Nat} {w0 : World} {ρ : Nat -> Option (Nat × Nat)} {σ : St} {a : Act} {w : World}
theorem eval_put (a : Act) (d : Option Tmp) (v : Value) (hd : ∀ t,d = some t -> t < a.tmps.size) (i : Nat) :
  (a.put d v).eval (.tmp i) = if d = some i then v else a.eval (.tmp i):=by
 cases d with
 | none=>simp [Act.put]
 | some d =>
   have:=hd d rfl
   by_cases h : d = i
   ·subst h; simp [Act.put,Act.eval,this]
   ·have h' : ¬ (some d = some i):=by simpa using h
    rw [if_neg h']
    simp [Act.put,Act.eval,Qy,Array.getElem?_setIfInBounds_ne h]
theorem J1 (σ : St) (d : Option Tmp) (v : V) (i : Nat) : (σ.put d v).t i = if d = some i then v else σ.t i:=by
 cases d with
 | none=>simp [St.put]
 | some d=>simp [St.put,upd,eq_comm]
@[simp] theorem J0 (σ : St) (d : Option Tmp) (v : V) : (σ.put d v).m = σ.m:=by cases d <;> rfl
@[simp] theorem JZ (σ : St) (d : Option Tmp) (v : V) : (σ.put d v).B = σ.B:=by cases d <;> rfl
@[simp] theorem put_W (σ : St) (d : Option Tmp) (v : V) : (σ.put d v).W = σ.W:=by cases d <;> rfl
@[simp] theorem put_hs (σ : St) (d : Option Tmp) (v : V) : (σ.put d v).hs = σ.hs:=by cases d <;> rfl
@[simp] theorem Gi (a : Act) (d : Option Tmp) (v : Value) : (a.put d v).defers = a.defers:=by cases d <;> rfl
@[simp] theorem I2 (a : Act) (d : Option Tmp) (v : Value) : (a.put d v).tmps.size = a.tmps.size:=by cases d <;> simp [Act.put]
theorem Rel.put (h : Rel A0 N w0 ρ σ a w) (d : Option Tmp) (hd : ∀ t,d = some t -> t < N) {v : V} {val : Value}
  (hv : VR ρ σ.m (Sof A0 σ.B ρ σ.m w) w v val) : Rel A0 N w0 ρ (σ.put d v) (a.put d val) w:=by
 refine ⟨h.below,h.hN,h.key,by simpa using h.norow,by simpa using h.hG,by simpa using h.hB,by simpa using h.hs,by simpa using h.hs0,by simpa using h.defers,by simpa using h.size,fun i=>?_,by simpa using h.mem,by simpa using h.inj⟩
 rw [J0,JZ,J1,eval_put _ _ _ (by rw [h.size]; exact hd)]
 split
 ·exact hv
 ·exact h.tmps i
theorem Rel.world (h : Rel A0 N w0 ρ σ a w) {w' : World} (hb : Bel A0.G w0.heap.size w0 w') (hsame : ∀ g,g < w.heap.size -> w'.heap[g]? = w.heap[g]?) (hsz : w.heap.size <= w'.heap.size)
  {hs' : Nat} (h1 : hs' <= w'.heap.size) (h2 : σ.hs <= hs') : Rel A0 N w0 ρ { σ with hs:=hs' } a w':=by
 have hS : ∀ g,Sof A0 σ.B ρ σ.m w g -> Sof A0 σ.B ρ σ.m w' g:=fun g hg=>⟨hg.1,by have:=hg.2.1; omega,hg.2.2⟩
 have hw : ∀ g,Sof A0 σ.B ρ σ.m w g -> w'.heap[g]? = w.heap[g]?:=fun g hg=>hsame g hg.2.1
 have lt_of : ∀ (g : Nat) (o : Obj),w.heap[g]? = some o -> g < w.heap.size:=fun g o hg=>(Qh.1 hg).1
 refine ⟨hb,h.hN,h.key,h.norow,h.hG,h.hB,h1,by have:=h.hs0; show σ.B <= hs'; omega,h.defers,h.size,fun i=>VR.mono hS hw (fun k=>KC.refl k) _ _ (h.tmps i),fun k b hk=>?_,h.inj⟩
 have:=h.mem k b hk
 cases b with
 | box cs =>
   obtain ⟨g,cap,hr,hB,cur,T,hc,hl⟩:=this
   exact ⟨g,cap,hr,hB,cur,T,(hsame g (lt_of g _ hc)).trans hc,LR.mono hS hw (fun k=>KC.refl k) _ _ hl⟩
 | row T sz es =>
   refine ⟨this.1,?_⟩
   have h3:=this.2
   cases hr : ρ k with
   | none=>rw [hr] at h3; exact h3
   | some p =>
     obtain ⟨g,cap⟩:=p
     rw [hr] at h3
     obtain ⟨hB,hc1,hc2,cur,hc,hcs,hall⟩:=h3
     refine ⟨hB,hc1,hc2,cur,(hsame g (lt_of g _ hc)).trans hc,hcs,fun i e he=>⟨(hall i e he).1,fun j u hu=>?_⟩⟩
     obtain ⟨v,hv,hd⟩:=(hall i e he).2 j u hu
     exact ⟨v,hv,hd.mono hS hw⟩
theorem BlkR.lt {G1 A1 : Nat -> Prop} {B : Nat} {S : Nat -> Prop} {m : Nat -> Option Blk} {r : Option (Nat × Nat)} {b : Blk} (h : BlkR G1 A1 ρ m S B w r b) : ∀ p,r = some p -> (B <= p.1 \/ G1 p.1) /\ p.1 < w.heap.size:=by
 rintro ⟨g,cap⟩ rfl
 cases b with
 | box cs =>
   obtain ⟨g',cap',hr,hB,cur,T,hc,hl⟩:=h
   cases hr
   exact ⟨hB,(Qh.1 hc).1⟩
 | row T sz es =>
   obtain ⟨_,hB,hc1,hc2,cur,hc,_⟩:=h
   exact ⟨hB.imp id And.left,(Qh.1 hc).1⟩
theorem BlkR.lo {G1 A1 : Nat -> Prop} {B : Nat} {S : Nat -> Prop} {m : Nat -> Option Blk} {r : Option (Nat × Nat)} {T sz : Nat} {es : List (List D)} (h : BlkR G1 A1 ρ m S B w r (.row T sz es)) : ∀ p,r = some p -> B <= p.1 \/ (G1 p.1 /\ A1 p.1):=by
 rintro ⟨g,cap⟩ rfl
 exact h.2.1
@[simp] theorem lay_B (k : Nat) (b : Blk) : (σ.lay k b).B = σ.B:=rfl
@[simp] theorem wk (k : Nat) (b : Blk) : (σ.lay k b).hs = σ.hs:=rfl
theorem cy (σ : St) (k j : Nat) (b : Blk) (h : j ≠ k) : (σ.lay k b).m j = (σ.m j).map (Blk.map (wipe k)):=by simp [St.lay,upd,h,mapM]
theorem bC (σ : St) (k : Nat) (b : Blk) : (σ.lay k b).m k = some (b.map (wipe k)):=by simp [St.lay,upd]
theorem rR (r : Option (Nat × Nat)) (k j : Nat) (b : Blk) (h : j ≠ k) : KC ρ σ.m (upd ρ k r) (σ.lay k b).m j:=by
 unfold KC
 rw [cy _ _ _ _ h]
 have hr : upd ρ k r j = ρ j:=by simp [upd,h]
 cases hm : σ.m j with
 | none=>trivial
 | some b0 =>
   cases b0 with
   | box cs=>exact ⟨hr,cs,rfl⟩
   | row T sz es=>exact ⟨hr,T,es,rfl,Jv _⟩
theorem Rel.lay (h : Rel A0 N w0 ρ σ a w) (k : Nat) (hk0 : ¬ Hk k) (b : Blk) (r : Option (Nat × Nat)) {w' : World} (hbel : Bel A0.G w0.heap.size w0 w') (hsz : w.heap.size <= w'.heap.size)
  (hsame : ∀ g,g < w.heap.size -> (∀ b0 p,σ.m k = some b0 -> ρ k = some p -> p.1 ≠ g) -> w'.heap[g]? = w.heap[g]?)
  (hr : ∀ p,r = some p -> w.heap.size <= p.1 \/ ∃ b0 p0,σ.m k = some b0 /\ ρ k = some p0 /\ p0.1 = p.1)
  (hb : (∀ g,Sof A0 σ.B ρ σ.m w g -> Sof A0 σ.B (upd ρ k r) (σ.lay k b).m w' g) -> (∀ g,Sof A0 σ.B ρ σ.m w g -> w'.heap[g]? = w.heap[g]?) ->
   BlkR (Gk A0.G k) (Ak A0.A k) (upd ρ k r) (σ.lay k b).m (Sof A0 σ.B (upd ρ k r) (σ.lay k b).m w') σ.B w' r (b.map (wipe k))) :
  Rel A0 N w0 (upd ρ k r) (σ.lay k b) a w':=by
 have hS : ∀ g,Sof A0 σ.B ρ σ.m w g -> Sof A0 σ.B (upd ρ k r) (σ.lay k b).m w' g:=by
  intro g hg
  refine ⟨hg.1,by have:=hg.2.1; omega,fun j b1 hj p hp=>?_⟩
  by_cases hjk : j = k
  ·subst hjk
   have hp' : r = some p:=by simpa [upd] using hp
   rcases hr p hp' with hr | ⟨b0,p0,h1,h2,h3⟩
   ·have:=hg.2.1; omega
   ·rw [<- h3]; exact hg.2.2 j b0 h1 p0 h2
  ·rw [cy _ _ _ _ hjk] at hj
   have hp' : ρ j = some p:=by simpa [upd,hjk] using hp
   cases hm : σ.m j with
   | none=>simp [hm] at hj
   | some b0=>exact hg.2.2 j b0 hm p hp'
 have hw : ∀ g,Sof A0 σ.B ρ σ.m w g -> w'.heap[g]? = w.heap[g]?:=fun g hg=>hsame g hg.2.1 (fun b0 p h1 h2=>hg.2.2 k b0 h1 p h2)
 have hold : ∀ j b0 p,j ≠ k -> σ.m j = some b0 -> ρ j = some p -> w'.heap[p.1]? = w.heap[p.1]?:=by
  intro j b0 p hjk hj hp
  refine hsame p.1 ((h.mem j b0 hj).lt p hp).2 (fun b1 p1 h1 h2 heq=>hjk ?_)
  exact h.inj j k b0 b1 p p1 hj h1 hp h2 heq.symm
 refine ⟨hbel,h.hN,fun j hj=>by simpa [upd,hj.ne hk0] using h.key j hj,fun j hj=>by rw [cy _ _ _ _ (hj.ne hk0)]; have:=h.norow j hj; cases hm : σ.m j with | none=>rfl | some b=>rw [hm] at this; cases b <;> simp_all [bF,Blk.map],h.hG,h.hB,Zy h.hs hsz,h.hs0,h.defers,h.size,fun i=>VR.wipe k hS hw (fun j hj=>rR r k j b hj) _ _ (h.tmps i),fun j b1 hj=>?_,?_⟩
 ·by_cases hjk : j = k
  ·subst hjk
   rw [bC] at hj
   cases hj
   have : upd ρ j r j = r:=by simp [upd]
   rw [this]
   exact hb hS hw
  ·rw [cy _ _ _ _ hjk] at hj
   have hρ : upd ρ k r j = ρ j:=by simp [upd,hjk]
   rw [hρ]
   cases hm : σ.m j with
   | none=>simp [hm] at hj
   | some b0 =>
     simp only [hm,Jg,Jx] at hj
     subst hj
     have:=h.mem j b0 hm
     cases b0 with
     | box cs =>
       obtain ⟨g,cap,hr',hB,cur,T,hc,hl⟩:=this
       refine ⟨g,cap,hr',hB,cur,T,(hold j _ (g,cap) hjk hm hr').trans hc,?_⟩
       rw [<- gD]
       exact LR.wipe k hS hw (fun j hj=>rR r k j b hj) _ _ hl
     | row T sz es =>
       refine ⟨this.1,?_⟩
       have h3:=this.2
       cases hr' : ρ j with
       | none=>rw [hr'] at h3; exact h3
       | some p =>
         obtain ⟨g,cap⟩:=p
         rw [hr'] at h3
         obtain ⟨hB,hc1,hc2,cur,hc,hcs,hall⟩:=h3
         refine ⟨hB,hc1,hc2,cur,(hold j _ (g,cap) hjk hm hr').trans hc,hcs,fun i e he=>⟨(hall i e he).1,fun j u hu=>?_⟩⟩
         obtain ⟨v,hv,hd⟩:=(hall i e he).2 j u hu
         exact ⟨v,hv,hd.mono hS hw⟩
 ·intro j j' b1 b1' p p' hj hj' hp hp' heq
  have key : ∀ j b1 p,(σ.lay k b).m j = some b1 -> upd ρ k r j = some p -> j ≠ k -> ∃ b0,σ.m j = some b0 /\ ρ j = some p:=by
   intro j b1 p hj hp hjk
   rw [cy _ _ _ _ hjk] at hj
   cases hm : σ.m j with
   | none=>simp [hm] at hj
   | some b0=>exact ⟨b0,rfl,by simpa [upd,hjk] using hp⟩
  have cross : ∀ j b1 p pk,(σ.lay k b).m j = some b1 -> upd ρ k r j = some p -> j ≠ k -> r = some pk -> p.1 = pk.1 -> False:=by
   intro j b1 p pk hj hp hjk hrk heq
   obtain ⟨b0,hm,hρ⟩:=key j b1 p hj hp hjk
   have hlt:=((h.mem j b0 hm).lt p hρ).2
   rcases hr pk hrk with hr | ⟨b2,p2,h1,h2,h3⟩
   ·omega
   ·exact hjk (h.inj j k b0 b2 p p2 hm h1 hρ h2 (heq.trans h3.symm))
  by_cases hjk : j = k
  ·by_cases hjk' : j' = k
   ·rw [hjk,hjk']
   ·subst hjk
    have : r = some p:=by simpa [upd] using hp
    exact (cross j' b1' p' p hj' hp' hjk' this heq.symm).elim
  ·by_cases hjk' : j' = k
   ·subst hjk'
    have : r = some p':=by simpa [upd] using hp'
    exact (cross j b1 p p' hj hp hjk this heq).elim
   ·obtain ⟨b0,hm,hρ⟩:=key j b1 p hj hp hjk
    obtain ⟨b0',hm',hρ'⟩:=key j' b1' p' hj' hp' hjk'
    exact h.inj j j' b0 b0' p p' hm hm' hρ hρ' heq
end
end
section
open Go.RowKit
section
variable {A0 : Env} {N : Nat} {w0 : World} {ρ : Nat -> Option (Nat × Nat)} {σ : St} {a : Act} {w : World}
theorem bS (g o n : Nat) : (⟨g,o,none⟩ : Addr).add n = ⟨g,o + n,none⟩:=by
 unfold Addr.add
 split
 ·rename_i h; subst h; rfl
 ·rfl
theorem iK (p : Addr) (i j : Nat) : (p.add i).add j = p.add (i + j):=by
 unfold Addr.add
 by_cases hi : i = 0 <;> by_cases hj : j = 0 <;> simp [hi,hj,Nat.add_assoc]
theorem db {g : Nat} {cur : Array Value} {T : TypeId} {f : Nat × Nat} (h : w.heap[g]? = some (.cells cur T f)) (o : Nat) : w.cell? ⟨g,o,none⟩ = cur[o]?:=by
 simp [World.cell?,h]
theorem ud {es : List (List D)} (h : hpLL es = false) (lo n : Nat) : hpLL ((es.drop lo).take n) = false:=by
 simp only [hpLL,List.any_eq_false] at *
 exact fun e he=>h e (List.mem_of_mem_drop (List.mem_of_mem_take he))
theorem Cm {G1 A1 : Nat -> Prop} {S S' : Nat -> Prop} {T sz : Nat} {es : List (List D)} {B : Nat} {k lo n : Nat} {m : Nat -> Option Blk} {val : Value}
  (hb : BlkR G1 A1 ρ m S B w (ρ k) (.row T sz es)) (hl : lo + n <= es.length) (hv : OwnV (ρ k) sz lo n val) (hS : ∀ g,S g -> S' g) (hg : ∀ p,ρ k = some p -> S' p.1) (hh : hpLL es = false) :
  DR S' w (.sl ((ρ k).map (·.1)) (if lo = 0 /\ n = es.length then some (T,sz) else none) ((es.drop lo).take n)) val:=by
 obtain ⟨hsz,hrow⟩:=hb
 have hlen : ((es.drop lo).take n).length = n:=by simp; omega
 cases hr : ρ k with
 | none =>
   rw [hr] at hrow hv
   subst hrow
   obtain ⟨h1,h2,h3⟩:=hv
   subst h1 h2 h3
   simpa using DR.nil _
 | some p =>
   obtain ⟨g,cap⟩:=p
   rw [hr] at hrow hv
   obtain ⟨ad,c,rfl,hab,hnc,hcm,hz,hp⟩:=hv
   obtain ⟨hB,hc1,hc2,cur,hc,hcs,hall⟩:=hrow
   have hat : ∀ (i : Nat) (e : List D),((es.drop lo).take n)[i]? = some e -> i < n /\ es[lo + i]? = some e:=by
    intro i e he
    rw [List.getElem?_take] at he
    split at he
    ·rename_i hi; exact ⟨hi,by rwa [List.getElem?_drop] at he⟩
    ·cases he
   have:=DR.sl (S:=S') (w:=w) g (if lo = 0 /\ n = es.length then some (T,sz) else none) ((es.drop lo).take n) ad c sz (fun x=>cur.getD (lo * sz + x) undef) (hg _ hr) (fun _=>hab) (by omega) hcm
    (fun i e he=>(hall _ e (hat i e he).2).1)
    (fun i e he j u hu=>by
     obtain ⟨hi,he⟩:=hat i e he
     obtain ⟨h1,h2⟩:=hall _ e he
     obtain ⟨v,hv,hd⟩:=h2 j u hu
     rw [hp (by omega),bS,db hc]
     have : (lo + i) * sz + j = lo * sz + (i * sz + j):=by rw [Nat.add_mul]; omega
     rw [this] at hv
     rw [hv]; simp [hv])
    (fun i e he j u hu=>by
     obtain ⟨hi,he⟩:=hat i e he
     obtain ⟨h1,h2⟩:=hall _ e he
     obtain ⟨v,hv,hd⟩:=h2 j u hu
     have : (lo + i) * sz + j = lo * sz + (i * sz + j):=by rw [Nat.add_mul]; omega
     rw [this] at hv
     simp only [Qy,hv,Option.getD_some]
     exact hd.mono hS (fun _ _=>rfl))
    (fun t ht=>by
     split at ht
     ·rename_i hcond
      cases ht
      obtain ⟨ha,hcc⟩:=hz hcond.1
      exact ⟨ha,⟨hsz,rfl⟩,cur,hc,by rw [hcc]; exact hcs⟩
     ·cases ht)
    (ud hh lo n)
   rw [hlen] at this
   exact this
theorem Cn {G1 A1 : Nat -> Prop} {S S' : Nat -> Prop} {T sz : Nat} {es : List (List D)} {B : Nat} {k lo n : Nat} {m : Nat -> Option Blk} {val : Value}
  (hb : BlkR G1 A1 ρ m S B w (ρ k) (.row T sz es)) (hl : lo + n <= es.length) (hv : OwnV (ρ k) sz lo n val) (hS : ∀ g,S g -> S' g) (hg : ∀ p,ρ k = some p -> S' p.1) :
  DR S' w (.pl ((es.drop lo).take n)) val:=by
 obtain ⟨hsz,hrow⟩:=hb
 have hlen : ((es.drop lo).take n).length = n:=by simp; omega
 cases hr : ρ k with
 | none =>
   rw [hr] at hrow hv
   subst hrow
   obtain ⟨h1,h2,h3⟩:=hv
   subst h1 h2 h3
   exact .pl [] none 0 0 (fun _=>.bool false) (fun p hp=>by cases hp) (fun h=>absurd h (Nat.lt_irrefl 0)) (Jv _) (Nat.zero_le _) (by simp) (by simp) (by simp)
 | some p =>
   obtain ⟨g,cap⟩:=p
   rw [hr] at hrow hv
   obtain ⟨ad,c,rfl,hab,hnc,hcm,hz,hp⟩:=hv
   obtain ⟨hB,hc1,hc2,cur,hc,hcs,hall⟩:=hrow
   have hat : ∀ (i : Nat) (e : List D),((es.drop lo).take n)[i]? = some e -> i < n /\ es[lo + i]? = some e:=by
    intro i e he
    rw [List.getElem?_take] at he
    split at he
    ·rename_i hi; exact ⟨hi,by rwa [List.getElem?_drop] at he⟩
    ·cases he
   have:=DR.pl (S:=S') (w:=w) ((es.drop lo).take n) (some ad) c sz (fun x=>cur.getD (lo * sz + x) undef) (fun p hp _=>by cases hp; rw [hab]; exact hg _ hr) (fun _=>by simp) (by omega) hcm
    (fun i e he=>(hall _ e (hat i e he).2).1)
    (fun q hq i e he j u hu=>by
     cases hq
     obtain ⟨hi,he⟩:=hat i e he
     obtain ⟨h1,h2⟩:=hall _ e he
     obtain ⟨v,hv,hd⟩:=h2 j u hu
     rw [hp (by omega),bS,db hc]
     have : (lo + i) * sz + j = lo * sz + (i * sz + j):=by rw [Nat.add_mul]; omega
     rw [this] at hv
     rw [hv]; simp [hv])
    (fun i e he j u hu=>by
     obtain ⟨hi,he⟩:=hat i e he
     obtain ⟨h1,h2⟩:=hall _ e he
     obtain ⟨v,hv,hd⟩:=h2 j u hu
     have : (lo + i) * sz + j = lo * sz + (i * sz + j):=by rw [Nat.add_mul]; omega
     rw [this] at hv
     simp only [Qy,hv,Option.getD_some]
     exact hd.mono hS (fun _ _=>rfl))
   rw [hlen] at this
   exact this
theorem GV (k j : Nat) (g : Option Nat) (T : TypeId × Nat) (es : List (List D)) (h : j ≠ k) : KC ρ σ.m ρ (σ.frz k g T es).m j:=by
 unfold KC
 have : (σ.frz k g T es).m j = (σ.m j).map (Blk.map (frz k g T es)):=by simp [St.frz,upd,h,mapM]
 rw [this]
 cases hm : σ.m j with
 | none=>trivial
 | some b0 =>
   cases b0 with
   | box cs=>exact ⟨rfl,cs,rfl⟩
   | row T sz es=>exact ⟨rfl,T,es,rfl,Jv _⟩
mutual
theorem VR.frz {G1 A1 : Nat -> Prop} {m m' : Nat -> Option Blk} {S S' : Nat -> Prop} {B : Nat} {k T sz : Nat} {es : List (List D)} (hm : m k = some (.row T sz es)) (hb : BlkR G1 A1 ρ m S B w (ρ k) (.row T sz es))
  (hS : ∀ g,S g -> S' g) (hg : ∀ p,ρ k = some p -> S' p.1) (hk : ∀ j,j ≠ k -> KC ρ m ρ m' j) :
  ∀ (v : V) (val : Value),VR ρ m S w v val -> VR ρ m' S' w (frz k ((ρ k).map (·.1)) (T,sz) es v) val
 | .d x,val,h=>by simp only [VR,Vs.frz] at h ⊢; exact h.mono hS (fun _ _=>rfl)
 | .own j lo n, val, h => by
   simp only [Vs.frz]
   split
   ·rename_i hj
    subst hj
    split
    ·simp [VR]
    ·rename_i hh
     simp only [VR,hm] at h ⊢
     exact Cm hb h.1 h.2 hS hg (by simpa using hh)
   ·rename_i hj; exact ly (hk j hj) h
 | .ptr j i off, val, h => by
   simp only [Vs.frz]
   split
   ·simp [VR]
   ·rename_i hj; exact lz (hk j hj) h
 | .fptr x i off, val, h => by
   simp only [VR,Vs.frz] at h ⊢
   obtain ⟨a,n,c,sz,h1,h2⟩:=h
   exact ⟨a,n,c,sz,h1.mono hS (fun _ _=>rfl),h2⟩
 | .bad,val,h=>by simp [VR,Vs.frz]
 | .agg cs, val, h => by
   simp only [VR,Vs.frz] at h ⊢
   obtain ⟨l,h1,h2⟩:=h
   exact ⟨l,h1,LR.frz hm hb hS hg hk cs l h2⟩
 | .tup vs, val, h => by
   simp only [VR,Vs.frz] at h ⊢
   obtain ⟨l,h1,h2⟩:=h
   exact ⟨l,h1,LR.frz hm hb hS hg hk vs l h2⟩
 | .fn ff vs, val, h => by
   simp only [VR,Vs.frz] at h ⊢
   obtain ⟨l,h1,h2⟩:=h
   exact ⟨l,h1,LR.frz hm hb hS hg hk vs l h2⟩
theorem LR.frz {G1 A1 : Nat -> Prop} {m m' : Nat -> Option Blk} {S S' : Nat -> Prop} {B : Nat} {k T sz : Nat} {es : List (List D)} (hm : m k = some (.row T sz es)) (hb : BlkR G1 A1 ρ m S B w (ρ k) (.row T sz es))
  (hS : ∀ g,S g -> S' g) (hg : ∀ p,ρ k = some p -> S' p.1) (hk : ∀ j,j ≠ k -> KC ρ m ρ m' j) :
  ∀ (l : List V) (vals : List Value),LR ρ m S w l vals -> LR ρ m' S' w (frzL k ((ρ k).map (·.1)) (T,sz) es l) vals
 | [],[],_=>by simp [LR,Vs.frzL]
 | [],_ :: _,h=>by simp [LR] at h
 | _ :: _,[],h=>by simp [LR] at h
 | c :: cs, v :: l, h => by
   simp only [LR,Vs.frzL] at h ⊢
   exact ⟨VR.frz hm hb hS hg hk c v h.1,LR.frz hm hb hS hg hk cs l h.2⟩
end
theorem Rel.frz (h : Rel A0 N w0 ρ σ a w) {k T sz : Nat} {es : List (List D)} (hm : σ.m k = some (.row T sz es)) : Rel A0 N w0 ρ (σ.frz k ((ρ k).map (·.1)) (T,sz) es) a w:=by
 have hmk : (σ.frz k ((ρ k).map (·.1)) (T,sz) es).m k = none:=by simp [St.frz,upd]
 have hmne : ∀ j,j ≠ k -> (σ.frz k ((ρ k).map (·.1)) (T,sz) es).m j = (σ.m j).map (Blk.map (Vs.frz k ((ρ k).map (·.1)) (T,sz) es)):=fun j hj=>by simp [St.frz,upd,hj,mapM]
 have hback : ∀ j b,(σ.frz k ((ρ k).map (·.1)) (T,sz) es).m j = some b -> j ≠ k /\ ∃ b0,σ.m j = some b0 /\ b = b0.map (Vs.frz k ((ρ k).map (·.1)) (T,sz) es):=by
  intro j b hj
  by_cases hjk : j = k
  ·subst hjk; rw [hmk] at hj; cases hj
  ·rw [hmne j hjk] at hj
   cases hm : σ.m j with
   | none=>simp [hm] at hj
   | some b0=>simp [hm] at hj; exact ⟨hjk,b0,rfl,hj.symm⟩
 have hS : ∀ g,Sof A0 σ.B ρ σ.m w g -> Sof A0 σ.B ρ (σ.frz k ((ρ k).map (·.1)) (T,sz) es).m w g:=by
  intro g hg
  refine ⟨hg.1,hg.2.1,fun j b hj p hp=>?_⟩
  obtain ⟨_,b0,hb0,_⟩:=hback j b hj
  exact hg.2.2 j b0 hb0 p hp
 have hb:=h.mem k _ hm
 have hg : ∀ p,ρ k = some p -> Sof A0 σ.B ρ (σ.frz k ((ρ k).map (·.1)) (T,sz) es).m w p.1:=by
  intro p hp
  refine ⟨(hb.lo p hp).elim .inr (fun h=>.inl h.2.2),(hb.lt p hp).2,fun j b hj q hq heq=>?_⟩
  obtain ⟨hjk,b0,hb0,_⟩:=hback j b hj
  exact hjk (h.inj j k b0 _ q p hb0 hm hq hp heq)
 have hk : ∀ j,j ≠ k -> KC ρ σ.m ρ (σ.frz k ((ρ k).map (·.1)) (T,sz) es).m j:=fun j hj=>GV k j _ (T,sz) es hj
 have hk0 : ¬ Hk k:=fun hk=>by have:=h.norow k hk; rw [hm] at this; cases this
 refine ⟨h.below,h.hN,h.key,fun j hj=>by rw [hmne _ (hj.ne hk0)]; have:=h.norow j hj; cases hm : σ.m j with | none=>rfl | some b=>rw [hm] at this; cases b <;> simp_all [bF,Blk.map],h.hG,h.hB,h.hs,h.hs0,h.defers,h.size,fun i=>VR.frz hm hb hS hg hk _ _ (h.tmps i),fun j b hj=>?_,fun j j' b b' p p' hj hj' hp hp' heq=>?_⟩
 ·obtain ⟨hjk,b0,hb0,rfl⟩:=hback j b hj
  have:=h.mem j b0 hb0
  cases b0 with
  | box cs =>
    obtain ⟨g,cap,hr',hB,cur,T',hc,hl⟩:=this
    refine ⟨g,cap,hr',hB,cur,T',hc,?_⟩
    rw [<- tZ]
    exact LR.frz hm hb hS hg hk _ _ hl
  | row T' sz' es' =>
    refine ⟨this.1,?_⟩
    have h3:=this.2
    cases hr' : ρ j with
    | none=>rw [hr'] at h3; exact h3
    | some p =>
      obtain ⟨g,cap⟩:=p
      rw [hr'] at h3
      obtain ⟨hB,hc1,hc2,cur,hc,hcs,hall⟩:=h3
      refine ⟨hB,hc1,hc2,cur,hc,hcs,fun i e he=>⟨(hall i e he).1,fun j u hu=>?_⟩⟩
      obtain ⟨v,hv,hd⟩:=(hall i e he).2 j u hu
      exact ⟨v,hv,hd.mono hS (fun _ _=>rfl)⟩
 ·obtain ⟨_,b0,hb0,_⟩:=hback j b hj
  obtain ⟨_,b0',hb0',_⟩:=hback j' b' hj'
  exact h.inj j j' b0 b0' p p' hb0 hb0' hp hp' heq
theorem tY (k : Nat) (es : List (List D)) : ∀ l : List V,frpL k es l = l.map (Vs.frp k es)
 | []=>rfl
 | v :: r=>by simp [frpL,tY k es r]
theorem GU (k j : Nat) (es : List (List D)) (h : j ≠ k) : KC ρ σ.m ρ (σ.frp k es).m j:=by
 unfold KC
 have : (σ.frp k es).m j = (σ.m j).map (Blk.map (Vs.frp k es)):=by simp [St.frp,upd,h,mapM]
 rw [this]
 cases hm : σ.m j with
 | none=>trivial
 | some b0 =>
   cases b0 with
   | box cs=>exact ⟨rfl,cs,rfl⟩
   | row T sz es=>exact ⟨rfl,T,es,rfl,Jv _⟩
mutual
theorem VR.frp {G1 A1 : Nat -> Prop} {m m' : Nat -> Option Blk} {S S' : Nat -> Prop} {B : Nat} {k T sz : Nat} {es : List (List D)} (hm : m k = some (.row T sz es)) (hb : BlkR G1 A1 ρ m S B w (ρ k) (.row T sz es))
  (hS : ∀ g,S g -> S' g) (hg : ∀ p,ρ k = some p -> S' p.1) (hk : ∀ j,j ≠ k -> KC ρ m ρ m' j) :
  ∀ (v : V) (val : Value),VR ρ m S w v val -> VR ρ m' S' w (frp k es v) val
 | .d x,val,h=>by simp only [VR,Vs.frp] at h ⊢; exact h.mono hS (fun _ _=>rfl)
 | .own j lo n, val, h => by
   simp only [Vs.frp]
   split
   ·rename_i hj
    subst hj
    simp only [VR,hm] at h ⊢
    exact Cn hb h.1 h.2 hS hg
   ·rename_i hj; exact ly (hk j hj) h
 | .ptr j i off, val, h => by
   simp only [Vs.frp]
   split
   ·simp [VR]
   ·rename_i hj; exact lz (hk j hj) h
 | .fptr x i off, val, h => by
   simp only [VR,Vs.frp] at h ⊢
   obtain ⟨a,n,c,sz,h1,h2⟩:=h
   exact ⟨a,n,c,sz,h1.mono hS (fun _ _=>rfl),h2⟩
 | .bad,val,h=>by simp [VR,Vs.frp]
 | .agg cs, val, h => by
   simp only [VR,Vs.frp] at h ⊢
   obtain ⟨l,h1,h2⟩:=h
   exact ⟨l,h1,LR.frp hm hb hS hg hk cs l h2⟩
 | .tup vs, val, h => by
   simp only [VR,Vs.frp] at h ⊢
   obtain ⟨l,h1,h2⟩:=h
   exact ⟨l,h1,LR.frp hm hb hS hg hk vs l h2⟩
 | .fn ff vs, val, h => by
   simp only [VR,Vs.frp] at h ⊢
   obtain ⟨l,h1,h2⟩:=h
   exact ⟨l,h1,LR.frp hm hb hS hg hk vs l h2⟩
theorem LR.frp {G1 A1 : Nat -> Prop} {m m' : Nat -> Option Blk} {S S' : Nat -> Prop} {B : Nat} {k T sz : Nat} {es : List (List D)} (hm : m k = some (.row T sz es)) (hb : BlkR G1 A1 ρ m S B w (ρ k) (.row T sz es))
  (hS : ∀ g,S g -> S' g) (hg : ∀ p,ρ k = some p -> S' p.1) (hk : ∀ j,j ≠ k -> KC ρ m ρ m' j) :
  ∀ (l : List V) (vals : List Value),LR ρ m S w l vals -> LR ρ m' S' w (frpL k es l) vals
 | [],[],_=>by simp [LR,Vs.frpL]
 | [],_ :: _,h=>by simp [LR] at h
 | _ :: _,[],h=>by simp [LR] at h
 | c :: cs, v :: l, h => by
   simp only [LR,Vs.frpL] at h ⊢
   exact ⟨VR.frp hm hb hS hg hk c v h.1,LR.frp hm hb hS hg hk cs l h.2⟩
end
theorem Rel.frp (h : Rel A0 N w0 ρ σ a w) {k T sz : Nat} {es : List (List D)} (hm : σ.m k = some (.row T sz es)) : Rel A0 N w0 ρ (σ.frp k es) a w:=by
 have hmk : (σ.frp k es).m k = none:=by simp [St.frp,upd]
 have hmne : ∀ j,j ≠ k -> (σ.frp k es).m j = (σ.m j).map (Blk.map (Vs.frp k es)):=fun j hj=>by simp [St.frp,upd,hj,mapM]
 have hback : ∀ j b,(σ.frp k es).m j = some b -> j ≠ k /\ ∃ b0,σ.m j = some b0 /\ b = b0.map (Vs.frp k es):=by
  intro j b hj
  by_cases hjk : j = k
  ·subst hjk; rw [hmk] at hj; cases hj
  ·rw [hmne j hjk] at hj
   cases hm : σ.m j with
   | none=>simp [hm] at hj
   | some b0=>simp [hm] at hj; exact ⟨hjk,b0,rfl,hj.symm⟩
 have hS : ∀ g,Sof A0 σ.B ρ σ.m w g -> Sof A0 σ.B ρ (σ.frp k es).m w g:=by
  intro g hg
  refine ⟨hg.1,hg.2.1,fun j b hj p hp=>?_⟩
  obtain ⟨_,b0,hb0,_⟩:=hback j b hj
  exact hg.2.2 j b0 hb0 p hp
 have hb:=h.mem k _ hm
 have hg : ∀ p,ρ k = some p -> Sof A0 σ.B ρ (σ.frp k es).m w p.1:=by
  intro p hp
  refine ⟨(hb.lo p hp).elim .inr (fun h=>.inl h.2.2),(hb.lt p hp).2,fun j b hj q hq heq=>?_⟩
  obtain ⟨hjk,b0,hb0,_⟩:=hback j b hj
  exact hjk (h.inj j k b0 _ q p hb0 hm hq hp heq)
 have hk : ∀ j,j ≠ k -> KC ρ σ.m ρ (σ.frp k es).m j:=fun j hj=>GU k j es hj
 have hk0 : ¬ Hk k:=fun hk=>by have:=h.norow k hk; rw [hm] at this; cases this
 refine ⟨h.below,h.hN,h.key,fun j hj=>by rw [hmne _ (hj.ne hk0)]; have:=h.norow j hj; cases hm : σ.m j with | none=>rfl | some b=>rw [hm] at this; cases b <;> simp_all [bF,Blk.map],h.hG,h.hB,h.hs,h.hs0,h.defers,h.size,fun i=>VR.frp hm hb hS hg hk _ _ (h.tmps i),fun j b hj=>?_,fun j j' b b' p p' hj hj' hp hp' heq=>?_⟩
 ·obtain ⟨hjk,b0,hb0,rfl⟩:=hback j b hj
  have:=h.mem j b0 hb0
  cases b0 with
  | box cs =>
    obtain ⟨g,cap,hr',hB,cur,T',hc,hl⟩:=this
    refine ⟨g,cap,hr',hB,cur,T',hc,?_⟩
    rw [<- tY]
    exact LR.frp hm hb hS hg hk _ _ hl
  | row T' sz' es' =>
    refine ⟨this.1,?_⟩
    have h3:=this.2
    cases hr' : ρ j with
    | none=>rw [hr'] at h3; exact h3
    | some p =>
      obtain ⟨g,cap⟩:=p
      rw [hr'] at h3
      obtain ⟨hB,hc1,hc2,cur,hc,hcs,hall⟩:=h3
      refine ⟨hB,hc1,hc2,cur,hc,hcs,fun i e he=>⟨(hall i e he).1,fun j u hu=>?_⟩⟩
      obtain ⟨v,hv,hd⟩:=(hall i e he).2 j u hu
      exact ⟨v,hv,hd.mono hS (fun _ _=>rfl)⟩
 ·obtain ⟨_,b0,hb0,_⟩:=hback j b hj
  obtain ⟨_,b0',hb0',_⟩:=hback j' b' hj'
  exact h.inj j j' b0 b0' p p' hb0 hb0' hp hp' heq
theorem Rel.gam (h : Rel A0 N w0 ρ σ a w) : Gam σ (fun k=>(ρ k).map (·.1)) w.heap.size:=by
 have own : ∀ k b g,σ.m k = some b -> (ρ k).map (·.1) = some g -> ¬ Sof A0 σ.B ρ σ.m w g:=by
  intro k b g hk hg hS
  cases hr : ρ k with
  | none=>simp [hr] at hg
  | some p=>simp [hr] at hg; exact hS.2.2 k b hk p hr hg
 refine ⟨fun k T sz es hk hne _=>?_,fun k T sz es g hk hg hlk=>⟨⟨?_,fun k' T' sz' es' hk' hin=>?_,fun k' cs hk' hin=>?_,fun i hin=>?_⟩,?_⟩,fun k k' b b' g hk hk' hg hg'=>?_⟩
 ·have:=h.mem k _ hk
  cases hr : ρ k with
  | none=>rw [hr] at this; exact absurd this.2 hne
  | some p=>exact ⟨p.1,rfl⟩
 ·cases hr : ρ k with
  | none=>simp [hr] at hg
  | some p=>simp [hr] at hg; subst hg; exact ((h.mem k _ hk).lo p hr).elim id fun h'=>absurd h'.2.1 (by omega)
 ·refine own k _ g hk hg ?_
  have:=h.mem k' _ hk'
  obtain ⟨e,he,hin⟩:=jV hin
  obtain ⟨u,hu,hin⟩:=ow hin
  obtain ⟨i,hi⟩:=List.mem_iff_getElem?.1 he
  obtain ⟨j,hj⟩:=List.mem_iff_getElem?.1 hu
  have h3:=this.2
  cases hr : ρ k' with
  | none=>rw [hr] at h3; subst h3; simp at hi
  | some p =>
    obtain ⟨g',cap⟩:=p
    rw [hr] at h3
    obtain ⟨_,_,_,cur,_,_,hall⟩:=h3
    obtain ⟨v,_,hd⟩:=(hall i e hi).2 j u hj
    exact hd.ids g hin
 ·refine own k _ g hk hg ?_
  obtain ⟨g',cap,hr',hB,cur,T',hc,hl⟩:=h.mem k' _ hk'
  exact LR.ids_ _ _ hl g hin
 ·exact own k _ g hk hg (VR.ids_ _ _ (h.tmps i) g hin)
 ·cases hr : ρ k with
  | none=>simp [hr] at hg
  | some p=>simp [hr] at hg; subst hg; exact ((h.mem k _ hk).lt p hr).2
 ·cases hr : ρ k with
  | none=>simp [hr] at hg
  | some p =>
    cases hr' : ρ k' with
    | none=>simp [hr'] at hg'
    | some p'=>simp [hr,hr'] at hg hg'; exact h.inj k k' b b' p p' hk hk' hr hr' (hg.trans hg'.symm)
theorem Rel.frzs (h : Rel A0 N w0 ρ σ a w) (ks : List Nat) : Rel A0 N w0 ρ (σ.frzs (fun k=>(ρ k).map (·.1)) ks) a w:=by
 induction ks generalizing σ with
 | nil=>exact h
 | cons k r ih =>
   simp only [St.frzs]
   cases hm : σ.m k with
   | none=>exact ih h
   | some b =>
     cases b with
     | box cs=>exact ih h
     | row T sz es=>exact ih (h.frz hm)
theorem Rel.frps (h : Rel A0 N w0 ρ σ a w) (ks : List Nat) : Rel A0 N w0 ρ (σ.frps ks) a w:=by
 induction ks generalizing σ with
 | nil=>exact h
 | cons k r ih =>
   simp only [St.frps]
   cases hm : σ.m k with
   | none=>exact ih h
   | some b =>
     cases b with
     | box cs=>exact ih h
     | row T sz es=>exact ih (h.frp hm)
theorem Rel.hs_ (h : Rel A0 N w0 ρ σ a w) : Rel A0 N w0 ρ { σ with hs:=w.heap.size } a w:=
 h.world h.below (fun _ _=>rfl) (Jv _) (Jv _) h.hs
end
end
section
open Go.RowKit
def Ext (w w' : World) : Prop:=w.heap.size <= w'.heap.size /\ ∀ g,g < w.heap.size -> w'.heap[g]? = w.heap[g]?
section
variable {P : Program} {E : Md} {A0 : Env} {N : Nat} {w0 : World} {ρ : Nat -> Option (Nat × Nat)} {σ : St} {a : Act} {w w' : World}
theorem Ext.refl : Ext w w:=⟨Jv _,fun _ _=>rfl⟩
theorem Ext.cell (h : Ext w w') {p : Addr} (hp : p.block < w.heap.size) : w'.cell? p = w.cell? p:=World.cell?_of_block (h.2 _ hp)
theorem y6 {m : Nat -> Option Blk} {S : Nat -> Prop} (v : Value) : VR ρ m S w (oY v) v:=by
 unfold oY
 split
 ·exact DR.bool _
 ·exact DR.int _ _
 ·rename_i s
  have : s = ⟨s.data.toList.toArray⟩:=by cases s; simp
  simp only [VR]
  rw (occs:=.pos [2]) [this]
  exact DR.str _
 ·exact DR.nil _
 ·simp [VR]
theorem Rel.ev (h : Rel A0 N w0 ρ σ a w) (x : Operand) : VR ρ σ.m (Sof A0 σ.B ρ σ.m w) w (σ.ev x) (a.eval x):=by
 cases x with
 | tmp t=>exact h.tmps t
 | const v=>exact y6 v
 | global g=>simp [St.ev,VR]
 | func f=>simp [St.ev,VR]
theorem xg {m : Nat -> Option Blk} {S : Nat -> Prop} {x : V} {v : Value} (h : VR ρ m S w x v) (hb : gL x = true) : v = .bool (getB x):=by
 unfold gL at hb
 split at hb
 ·simp only [VR] at h; cases h; rfl
 ·cases hb
theorem oG {m : Nat -> Option Blk} {S : Nat -> Prop} {x : V} {v : Value} (h : VR ρ m S w x v) (hb : iq x = true) : ∃ k,kOf x = some k /\ v = .int k (getZ x):=by
 unfold iq at hb
 split at hb
 ·simp only [VR] at h; cases h; exact ⟨_,rfl,rfl⟩
 ·cases hb
theorem GX {m : Nat -> Option Blk} {S : Nat -> Prop} {x : V} {v : Value} (h : VR ρ m S w x v) (hb : isStr x = true) : v = .string ⟨(iY x).toArray⟩:=by
 unfold isStr at hb
 split at hb
 ·simp only [VR] at h; cases h; rfl
 ·cases hb
theorem Sof.lt {B : Nat} {m : Nat -> Option Blk} {g : Nat} (h : Sof A0 B ρ m w g) : g < w.heap.size:=h.2.1
theorem sE (h : Rel A0 N w0 ρ σ a w) {x : V} {v : Value} (hv : VR ρ σ.m (Sof A0 σ.B ρ σ.m w) w x v) (hp : eO σ.m x) :
  ∃ ad,v = .pointer (some ad) /\ ad.block < w.heap.size /\ ∀ (j : Nat) (c : V),(atP σ.m x)[j]? = some c -> ∃ u,w.cell? (ad.add j) = some u /\ VR ρ σ.m (Sof A0 σ.B ρ σ.m w) w c u:=by
 cases x with
 | ptr k i off =>
   simp only [eO] at hp
   simp only [VR] at hv
   cases hm : σ.m k with
   | none=>simp [hm] at hp
   | some b =>
     have hb:=h.mem k b hm
     cases b with
     | box cs =>
       simp only [hm] at hp hv
       obtain ⟨_,g,cap,hr,rfl⟩:=hv
       obtain ⟨g',cap',hr',hB,cur,T,hc,hl⟩:=hb
       rw [hr] at hr'; cases hr'
       refine ⟨_,rfl,(Qh.1 hc).1,fun j c hj=>?_⟩
       simp only [atP,hm,List.getElem?_drop] at hj
       obtain ⟨u,hu,hd⟩:=hl.get _ _ hj
       refine ⟨u,?_,hd⟩
       rw [bS,db hc]
       simpa using hu
     | row T sz es =>
       simp only [hm] at hp
       simp only [hm] at hv
       obtain ⟨g,cap,hr,rfl⟩:=hv
       obtain ⟨hsz,hrow⟩:=hb
       rw [hr] at hrow
       obtain ⟨hB,hc1,hc2,cur,hc,hcs,hall⟩:=hrow
       refine ⟨_,rfl,(Qh.1 hc).1,fun j c hj=>?_⟩
       have he : es[i]? = some (es.getD i []):=by simp [List.getD,Jw hp]
       simp only [atP,hm] at hj
       rw [List.getElem?_map,List.getElem?_drop] at hj
       cases hu : (es.getD i [])[off + j]? with
       | none=>rw [hu] at hj; cases hj
       | some u =>
         rw [hu] at hj
         simp only [Jg,Jx] at hj
         subst hj
         obtain ⟨v,hv,hd⟩:=(hall i _ he).2 _ u hu
         refine ⟨v,?_,by simpa only [VR] using hd⟩
         rw [bS,db hc,<- hv,Nat.add_assoc]
 | fptr x i off =>
   simp only [VR] at hv
   simp only [eO] at hp
   obtain ⟨ad,n,c,sz,hD,hsz,hi,rfl⟩:=hv
   cases x with
   | sl id T es =>
     simp only [lstD] at hsz hi hp
     cases hD with
     | emp _ _=>simp at hi
     | sl g _ _ _ _ sz' vs hS ha hcap hm hsz' hc hd hw hh =>
       have hle : i < c:=by omega
       have he : es[i]? = some (es.getD i []):=by simp [List.getD,Jw hi]
       have hblk:=ha (by omega)
       have hez : sz = sz':=by rw [<- hsz _ (Qk he),hsz' _ _ he]
       refine ⟨_,rfl,by rw [ct,hblk]; exact hS.lt,fun j u hj=>?_⟩
       simp only [atP,lstD,List.getElem?_map,List.getElem?_drop] at hj
       cases hu : (es.getD i [])[off + j]? with
       | none=>rw [hu] at hj; cases hj
       | some y =>
         rw [hu] at hj
         simp only [Jg,Jx] at hj
         subst hj
         refine ⟨_,?_,by simpa only [VR] using hd i _ he _ y hu⟩
         rw [iK,hez,Nat.add_assoc]
         exact hc i _ he _ y hu
   | pl es =>
     simp only [lstD] at hsz hi hp
     generalize hl : Value.slice (some ad) n c = vv at hD
     cases hD with
     | pl _ aa cap sz' vs hS hn hcap hm hsz' hc hd =>
       cases hl
       have he : es[i]? = some (es.getD i []):=by simp [List.getD,Jw hi]
       have hez : sz = sz':=by rw [<- hsz _ (Qk he),hsz' _ _ he]
       refine ⟨_,rfl,by rw [ct]; exact (hS ad rfl (by omega)).lt,fun j u hj=>?_⟩
       simp only [atP,lstD,List.getElem?_map,List.getElem?_drop] at hj
       cases hu : (es.getD i [])[off + j]? with
       | none=>rw [hu] at hj; cases hj
       | some y =>
         rw [hu] at hj
         simp only [Jg,Jx] at hj
         subst hj
         refine ⟨_,?_,by simpa only [VR] using hd i _ he _ y hu⟩
         rw [iK,hez,Nat.add_assoc]
         exact hc ad rfl i _ he _ y hu
   | _=>simp [lstD] at hi
 | _=>simp [eO] at hp
theorem fJ {T : TypeId} {b : Bool} (h : tagg P T = some b) (w : World) : (isAgg T).run P w = .ok b w:=by
 unfold tagg at h
 unfold isAgg
 cases hu : P.underlying T with
 | none=>simp [hu] at h
 | some d =>
   simp only [hu,Jg,Jx] at h
   simp only [Jh,run_underlying hu,Result.andThen]
   subst h
   cases d <;> rfl
theorem mN {T n : Nat} (h : tsz P T = some n) (w : World) : (sizeOf T).run P w = .ok n w:=by
 unfold tsz at h
 cases hi : P.info? T with
 | none=>simp [hi] at h
 | some i =>
   simp only [hi,Jg,Jx] at h
   subst h
   simp [sizeOf,typeInfo,hi,Jh]
theorem lh (p : Addr) (v : Value) (h : w.cell? p = some v) : (load p).run P w = .ok v w:=by simp [load,Sem.run,h]
theorem uo (h : Rel A0 N w0 ρ σ a w) (hx : Ext w w') (T : TypeId) {x : V} {v : Value} (hv : VR ρ σ.m (Sof A0 σ.B ρ σ.m w) w x v)
  (h1 : (tsz P T).isSome = true) (h2 : (tagg P T).isSome = true) (hp : eO σ.m x) (hl : (if agB P T then szT P T else 1) <= (atP σ.m x).length) :
  ∃ val, (∀ w', Ext w w' → ∃ ad, v = .pointer (some ad) ∧ (loadVar T ad).run P w' = .ok val w') ∧
    VR ρ σ.m (Sof A0 σ.B ρ σ.m w) w (if agB P T then .agg ((atP σ.m x).take (szT P T)) else hd (atP σ.m x)) val:=by
 obtain ⟨ad,rfl,hlt,hall⟩:=sE h hv hp
 obtain ⟨n,hn⟩:=Zx.1 h1
 obtain ⟨b,hb⟩:=Zx.1 h2
 have hszT : szT P T = n:=by simp [szT,hn]
 have hagB : agB P T = b:=by simp [agB,hb]
 rw [hszT,hagB] at hl ⊢
 cases b with
 | true =>
   simp only [if_true] at hl ⊢
   have hex : ∀ j,∃ u,j < n -> w.cell? (ad.add j) = some u /\ ∃ c,(atP σ.m x)[j]? = some c /\ VR ρ σ.m (Sof A0 σ.B ρ σ.m w) w c u:=by
    intro j
    by_cases hj : j < n
    ·have hc : (atP σ.m x)[j]? = some (atP σ.m x)[j]:=Jw (by omega)
     obtain ⟨u,hu,hd⟩:=hall j _ hc
     exact ⟨u,fun _=>⟨hu,_,hc,hd⟩⟩
    ·exact ⟨undef,fun h=>absurd h hj⟩
   obtain ⟨f,hf⟩:=Classical.axiomOfChoice hex
   refine ⟨.agg ((List.range n).map f).toArray,fun w'' hx'=>⟨ad,rfl,?_⟩,?_⟩
   ·simp only [loadVar,Jh,fJ hb,mN hn,Result.andThen,if_true]
    rw [run_loadCells w'' ad n f (fun j hj=>by rw [hx'.cell (by rw [ct]; exact hlt)]; exact (hf j hj).1)]
    rfl
   ·simp only [VR]
    refine ⟨_,rfl,LR.of_get (by simp; omega) fun i c u hc hu=>?_⟩
    rw [List.getElem?_take] at hc
    split at hc
    ·rename_i hi
     simp only [List.getElem?_map,List.getElem?_range hi,Jg,Jx] at hu
     subst hu
     obtain ⟨_,c',hc',hd⟩:=hf i hi
     rw [hc] at hc'; cases hc'; exact hd
    ·cases hc
 | false =>
   simp only [Zv,if_false] at hl ⊢
   have hc : (atP σ.m x)[0]? = some (hd (atP σ.m x)):=by
    cases hat : atP σ.m x with
    | nil=>rw [hat] at hl; simp at hl
    | cons c r=>rfl
   obtain ⟨u,hu,hd⟩:=hall 0 _ hc
   refine ⟨u,fun w'' hx'=>⟨ad,rfl,?_⟩,hd⟩
   simp only [loadVar,Jh,fJ hb,Result.andThen,Zv,if_false]
   have : ad.add 0 = ad:=by simp [Addr.add]
   rw [this] at hu
   exact lh _ _ (by rw [hx'.cell hlt]; exact hu)
theorem zE (h : Rel A0 N w0 ρ σ a w) (T : TypeId) {x : V} {v : Value} (hv : VR ρ σ.m (Sof A0 σ.B ρ σ.m w) w x v)
  (h1 : (tsz P T).isSome = true) (h2 : (tagg P T).isSome = true) (hp : eO σ.m x) (hl : (if agB P T then szT P T else 1) <= (atP σ.m x).length) :
  ∃ val ad, v = .pointer (some ad) ∧ ad.block < w.heap.size ∧ (∀ w', w'.heap[ad.block]? = w.heap[ad.block]? → (loadVar T ad).run P w' = .ok val w') ∧
    VR ρ σ.m (Sof A0 σ.B ρ σ.m w) w (if agB P T then .agg ((atP σ.m x).take (szT P T)) else hd (atP σ.m x)) val:=by
 obtain ⟨ad,rfl,hlt,hall⟩:=sE h hv hp
 obtain ⟨n,hn⟩:=Zx.1 h1
 obtain ⟨b,hb⟩:=Zx.1 h2
 have hszT : szT P T = n:=by simp [szT,hn]
 have hagB : agB P T = b:=by simp [agB,hb]
 rw [hszT,hagB] at hl ⊢
 cases b with
 | true =>
   simp only [if_true] at hl ⊢
   have hex : ∀ j,∃ u,j < n -> w.cell? (ad.add j) = some u /\ ∃ c,(atP σ.m x)[j]? = some c /\ VR ρ σ.m (Sof A0 σ.B ρ σ.m w) w c u:=by
    intro j
    by_cases hj : j < n
    ·have hc : (atP σ.m x)[j]? = some (atP σ.m x)[j]:=Jw (by omega)
     obtain ⟨u,hu,hd⟩:=hall j _ hc
     exact ⟨u,fun _=>⟨hu,_,hc,hd⟩⟩
    ·exact ⟨undef,fun h=>absurd h hj⟩
   obtain ⟨f,hf⟩:=Classical.axiomOfChoice hex
   refine ⟨.agg ((List.range n).map f).toArray,ad,rfl,hlt,fun w'' hx'=>?_,?_⟩
   ·simp only [loadVar,Jh,fJ hb,mN hn,Result.andThen,if_true]
    rw [run_loadCells w'' ad n f (fun j hj=>by rw [World.cell?_of_block (w:=w) (by rw [ct]; exact hx')]; exact (hf j hj).1)]
    rfl
   ·simp only [VR]
    refine ⟨_,rfl,LR.of_get (by simp; omega) fun i c u hc hu=>?_⟩
    rw [List.getElem?_take] at hc
    split at hc
    ·rename_i hi
     simp only [List.getElem?_map,List.getElem?_range hi,Jg,Jx] at hu
     subst hu
     obtain ⟨_,c',hc',hd⟩:=hf i hi
     rw [hc] at hc'; cases hc'; exact hd
    ·cases hc
 | false =>
   simp only [Zv,if_false] at hl ⊢
   have hc : (atP σ.m x)[0]? = some (hd (atP σ.m x)):=by
    cases hat : atP σ.m x with
    | nil=>rw [hat] at hl; simp at hl
    | cons c r=>rfl
   obtain ⟨u,hu,hd⟩:=hall 0 _ hc
   refine ⟨u,ad,rfl,hlt,fun w'' hx'=>?_,hd⟩
   simp only [loadVar,Jh,fJ hb,Result.andThen,Zv,if_false]
   have : ad.add 0 = ad:=by simp [Addr.add]
   rw [this] at hu
   exact lh _ _ (by rw [World.cell?_of_block (w:=w) hx']; exact hu)
end
end
section
open Go.RowKit
section
variable {P : Program} {E : Md} {A0 : Env} {N : Nat} {w0 : World} {ρ : Nat -> Option (Nat × Nat)} {σ : St} {a : Act} {w : World}
theorem uX (h : Rel A0 N w0 ρ σ a w) {x : V} {v : Value} (hv : VR ρ σ.m (Sof A0 σ.B ρ σ.m w) w x v) (he : elOk σ.m x) :
  ∃ (ad : Option Addr) (cap sz : Nat), v = .slice ad (elV σ.m x).length cap ∧ (elV σ.m x).length ≤ cap ∧ (∀ p, ad = some p → 0 < cap → p.block < w.heap.size) ∧ (0 < (elV σ.m x).length → ad ≠ none) ∧
    (∀ (i : Nat) (e : List D),(elV σ.m x)[i]? = some e -> e.length = sz /\ ∀ (j : Nat) (u : D),e[j]? = some u -> ∃ p val,ad = some p /\ w.cell? (p.add (i * sz + j)) = some val /\ DR (Sof A0 σ.B ρ σ.m w) w u val):=by
 cases x with
 | d x =>
   cases x with
   | sl id T es =>
     simp only [VR] at hv
     cases hv with
     | nil T=>exact ⟨none,0,0,rfl,by simp [elV],by simp,by simp [elV],by simp [elV]⟩
     | emp t a=>exact ⟨a,0,0,rfl,by simp [elV],by simp,by simp [elV],by simp [elV]⟩
     | sl g T es ad cap sz vs hS ha hcap hm hsz hc hd hw hh =>
       refine ⟨some ad,cap,sz,rfl,hcap,fun p hp h0=>by cases hp; rw [ha h0]; exact hS.lt,fun _=>by simp,fun i e he=>⟨hsz i e he,fun j u hu=>⟨ad,_,rfl,hc i e he j u hu,hd i e he j u hu⟩⟩⟩
   | pl es =>
     simp only [VR] at hv
     cases hv with
     | pl _ ad cap sz vs hS hn hcap hm hsz hc hd =>
       refine ⟨ad,cap,sz,rfl,hcap,fun p hp h0=>(hS p hp h0).lt,fun h0=>hn (Xq h0 hcap),fun i e he=>⟨hsz i e he,fun j u hu=>?_⟩⟩
       have h0 : 0 < cap:=Xq (Nat.lt_of_le_of_lt (Nat.zero_le _) (Qx.1 he).1) hcap
       obtain ⟨p,hp⟩:=Option.ne_none_iff_exists'.1 (hn h0)
       exact ⟨p,_,hp,hc p hp i e he j u hu,hd i e he j u hu⟩
   | _=>simp [elOk] at he
 | own k lo n =>
   simp only [elOk] at he
   obtain ⟨hrow,hl⟩:=he
   cases hm : σ.m k with
   | none=>simp [hm,bF] at hrow
   | some b =>
     cases b with
     | box cs=>simp [hm,bF] at hrow
     | row T sz es =>
       simp only [hm,getL] at hl
       simp only [VR,hm] at hv
       obtain ⟨_,hv⟩:=hv
       have helV : elV σ.m (.own k lo n) = (es.drop lo).take n:=by simp [elV,hm,getL]
       have hlen : ((es.drop lo).take n).length = n:=by simp; omega
       have hb:=h.mem k _ hm
       rw [helV,hlen]
       obtain ⟨hsz,hrow⟩:=hb
       cases hr : ρ k with
       | none =>
         rw [hr] at hv hrow
         obtain ⟨rfl,rfl,rfl⟩:=hv
         exact ⟨none,0,0,rfl,by simp,by simp,by simp,by simp⟩
       | some p =>
         obtain ⟨g,cap⟩:=p
         rw [hr] at hv hrow
         obtain ⟨ad,c,rfl,hab,hnc,hcm,hz,hp⟩:=hv
         obtain ⟨hB,hc1,hc2,cur,hc,hcs,hall⟩:=hrow
         refine ⟨some ad,c,sz,rfl,hnc,fun p hp _=>by cases hp; rw [hab]; exact (Qh.1 hc).1,fun _=>by simp,fun i e he=>?_⟩
         rw [List.getElem?_take] at he
         split at he
         ·rename_i hi
          rw [List.getElem?_drop] at he
          obtain ⟨h1,h2⟩:=hall _ e he
          refine ⟨h1,fun j u hu=>?_⟩
          obtain ⟨val,hval,hd⟩:=h2 j u hu
          refine ⟨ad,val,rfl,?_,hd⟩
          rw [hp (by omega),bS,db hc,<- hval,Nat.add_mul]
          congr 1; omega
         ·cases he
 | _=>simp [elOk] at he
theorem iJ {m : Nat -> Option Blk} {S : Nat -> Prop} {x : V} {v : Value} {k : IntKind} (h : VR ρ m S w x v) (hb : kOf x = some k) : v = .int k (getZ x):=by
 unfold kOf at hb
 split at hb
 ·simp only [VR] at h; cases hb; cases h; rfl
 ·cases hb
theorem qc (s : List UInt8) : (⟨s.toArray⟩ : ByteArray).toList = s:=by
 rw [ByteArray.toList_eq]
def sv : D -> Value
 | .int k n=>.int k n
 | .bool b=>.bool b
 | .str s=>.string ⟨s.toArray⟩
 | _=>undef
def wy : D -> Bool
 | .sl ..=>false
 | .pl _=>false
 | _=>true
theorem Kf {S : Nat -> Prop} {x : D} (h : wy x = true) : DR S w x (sv x):=by
 cases x with
 | int k n=>exact .int k n
 | bool b=>exact .bool b
 | str s=>exact .str s
 | sl=>cases h
 | pl=>cases h
theorem nu (d : Nat) {T : TypeId} (hT : P.underlying T = some .bool) (x y : Bool) (w : World) :
  (Op.equalIn (d + 1) T (.bool x) (.bool y)).run P w = .ok (x == y) w:=by
 simp [Op.equalIn,run_underlying hT,Jh,Qj,Result.andThen]
theorem p6 {T : TypeId} (hT : P.underlying T = some .bool) (x y : Bool) (w : World) :
 (Op.equal T (.bool x) (.bool y)).run P w = .ok (x == y) w:=nu 9999 hT x y w
theorem EE {t : TypeId} {k : Kd} (h : kdTy P t = some k) : tagg P t = some false:=by
 unfold kdTy at h
 unfold tagg
 split at h <;> simp_all
theorem rF {t : TypeId} {k : Kd} (h : kdTy P t = some k) (pre la : List Value) (v : Value) (w : World) : (part t (pre ++ v :: la).toArray pre.length).run P w = .ok v w:=by
 simp [part,Jh,fJ (EE h),Result.andThen,Qj]
theorem Ej {t : TypeId} {k : Kd} (h : kdTy P t = some k) {x y : V} (hx : kdV x = some k) (hy : kdV y = some k) {m : Nat -> Option Blk} {S : Nat -> Prop} {u v : Value} (hu : VR ρ m S w x u) (hv : VR ρ m S w y v) (d : Nat) (w' : World) :
  (Op.equalIn (d + 1) t u v).run P w' = .ok (eqC x y) w':=by
 unfold kdTy at h
 split at h
 ·rename_i k' hu'
  cases h
  unfold kdV at hx hy
  split at hx <;> first | (cases hx; done) | skip
  split at hy <;> first | (cases hy; done) | skip
  simp only [VR] at hu hv
  cases hu; cases hv
  rw [Go.run_equalIn_int w' d t .i64 k' _ _ hu']
  rfl
 ·rename_i hu'
  cases h
  unfold kdV at hx hy
  split at hx <;> first | (cases hx; done) | skip
  split at hy <;> first | (cases hy; done) | skip
  simp only [VR] at hu hv
  cases hu; cases hv
  rw [Go.run_equalIn_string w' d t _ _ hu']
  simp only [qc,eqC]
  exact congrArg (fun b=>Result.ok b w') (Bool.eq_iff_iff.2 (by simp))
 ·rename_i hu'
  cases h
  unfold kdV at hx hy
  split at hx <;> first | (cases hx; done) | skip
  split at hy <;> first | (cases hy; done) | skip
  simp only [VR] at hu hv
  cases hu; cases hv
  rw [Go.run_equalIn_bool' w' d t _ _ hu']
  simp only [eqC]
  exact congrArg (fun b=>Result.ok b w') (Bool.eq_iff_iff.2 (by simp))
 ·cases h
theorem ma {m : Nat -> Option Blk} {S : Nat -> Prop} (d : Nat) (w' : World) : ∀ (fs : List Field) (ks : List Kd) (a b : List V) (la lb pa pb : List Value),pa.length = pb.length -> kdFs P pa.length fs = some ks -> kdL a = some ks -> kdL b = some ks -> LR ρ m S w a la -> LR ρ m S w b lb ->
  (Op.eqFields (d + 1) (pa ++ la).toArray (pb ++ lb).toArray fs).run P w' = .ok (eqCL a b) w'
 | [], ks, a, b, la, lb, pa, pb, hp, hf, ha, hb, hla, hlb => by
   simp only [kdFs,Jx] at hf
   subst hf
   cases a with
   | nil=>simp [Op.eqFields,eqCL,Qj]
   | cons x r=>simp only [kdL] at ha; split at ha <;> simp at ha
 | f :: fs, ks, a, b, la, lb, pa, pb, hp, hf, ha, hb, hla, hlb => by
   simp only [kdFs] at hf
   split at hf
   ·rename_i hn
    split at hf
    ·rename_i k l hk hl
     cases hf
     cases a with
     | nil=>simp [kdL] at ha
     | cons x r =>
       cases b with
       | nil=>simp [kdL] at hb
       | cons y s =>
         simp only [kdL] at ha hb
         split at ha
         ·rename_i k1 l1 hk1 hl1
          cases ha
          split at hb
          ·rename_i k2 l2 hk2 hl2
           cases hb
           cases la with
           | nil=>simp [LR] at hla
           | cons u la =>
             cases lb with
             | nil=>simp [LR] at hlb
             | cons v lb =>
               simp only [LR] at hla hlb
               have ih:=ma (m:=m) (S:=S) d w' fs l r s la lb (pa ++ [u]) (pb ++ [v]) (by simp [hp]) (by simpa using hl) hl1 hl2 hla.2 hlb.2
               rw [List.append_assoc,List.append_assoc] at ih
               simp only [List.cons_append,List.nil_append] at ih
               have h1:=rF hk pa la u w'
               have h2:=rF hk pb lb v w'
               rw [<- hp] at h2
               have h3:=Ej hk hk1 hk2 hla.1 hlb.1 d w'
               simp only [Op.eqFields,hn.1,hn.2,ne_eq,not_false_eq_true,if_true,Jh,h1,h2,h3,Result.andThen_ok,Sem.run_ite]
               cases hc : eqC x y
               ·simp [eqCL,hc,Qj]
               ·simp only [Bool.not_true,Zv,if_false,eqCL,hc,Bool.true_and]
                exact ih
          ·cases hb
         ·cases ha
    ·cases hf
   ·cases hf
theorem DY (op : BinOp) (T : TypeId) {a b : List V} {vx vy : Value} {m : Nat -> Option Blk} {S : Nat -> Prop} {Tx : Operand} {Ty : Operand}
  (hx : VR ρ m S w (.agg a) vx) (hy : VR ρ m S w (.agg b) vy) (h : nP op (.agg a) (.agg b)) (hb : jH P T (.agg a)) :
  (∀ w',(do eqGuard op T Tx Ty vx vy; binOp op T vx vy : Sem Value).run P w' = .ok (sv (binD op (.agg a) (.agg b))) w') /\ wy (binD op (.agg a) (.agg b)) = true:=by
 simp only [VR] at hx hy
 obtain ⟨la,rfl,hla⟩:=hx
 obtain ⟨lb,rfl,hlb⟩:=hy
 simp only [jH] at hb
 obtain ⟨hb1,hb2⟩:=hb
 obtain ⟨ks,hks⟩:=Zx.1 hb1
 rw [hks] at hb2
 unfold tEqK at hb2
 split at hb2
 ·cases hb2
 rename_i hst
 simp only [Xx,not_or,Bool.not_eq_true] at hst
 split at hb2
 ·rename_i fs hu
  have hfo : P.fieldsOf T = fs:=by simp [Program.fieldsOf,hu]
  have key : ∀ w',kdL b = some ks -> (Op.equalIn 10000 T (.agg la.toArray) (.agg lb.toArray)).run P w' = .ok (eqCL a b) w':=fun w' hkb=>by
   rw [show (10000 : Nat) = 9999 + 1 from rfl,run_equalIn_agg w' 9999 T _ _ (by rw [hfo]; exact hu) hst.1,hfo]
   exact ma (m:=m) (S:=S) 9998 w' fs.toList ks a b la lb [] [] rfl hb2 hks hkb hla hlb
  unfold nP at h
  cases op <;> first
   | exact h.elim
   | (refine ⟨fun w' => ?_, rfl⟩
      have hkb : kdL b = some ks:=by rw [<- h.2,hks]
      rw [Jh,run_eqGuard_agg w' _ T Tx Ty _ _ hst.2,Result.andThen_ok,run_eql_struct,key w' hkb]
      rfl)
   | (refine ⟨fun w' => ?_, rfl⟩
      have hkb : kdL b = some ks:=by rw [<- h.2,hks]
      rw [Jh,run_eqGuard_agg w' _ T Tx Ty _ _ hst.2,Result.andThen_ok,run_neq_struct,key w' hkb]
      rfl)
 ·cases hb2
theorem D6 (op : BinOp) (T : TypeId) {x y : V} {vx vy : Value} {m : Nat -> Option Blk} {S : Nat -> Prop} {Tx : Operand} {Ty : Operand}
  (hx : VR ρ m S w x vx) (hy : VR ρ m S w y vy) (h : nP op x y) (hb : jH P T x) :
  (∀ w',(do eqGuard op T Tx Ty vx vy; binOp op T vx vy : Sem Value).run P w' = .ok (sv (binD op x y)) w') /\ wy (binD op x y) = true:=by
 have h0:=h
 unfold nP at h
 split at h
 ·simp only [VR] at hx hy
  cases hx; cases hy
  cases op <;> first
   | exact h.elim
   | (obtain rfl := h
      refine ⟨fun w'=>?_,rfl⟩
      simp [eqGuard,binOp,binD,sv,Op.intArith,Op.intCmp,Op.intBits,Jh,Qj,Result.andThen]; done)
   | (refine ⟨fun w' => ?_, rfl⟩
      have h' : ¬ _ < (0 : Int):=Int.not_lt.2 h
      simp [eqGuard,binOp,binD,sv,Op.shift,h',Jh,Qj,Result.andThen]; done)
   | (obtain ⟨rfl, h⟩ := h
      refine ⟨fun w'=>?_,rfl⟩
      have h':=h
      simp only [ne_eq] at h'
      simp [eqGuard,binOp,binD,sv,Op.intDiv,h',Jh,Qj,Result.andThen]; done)
 ·simp only [VR] at hx hy
  cases hx; cases hy
  cases op <;> first
   | exact h.elim
   | (refine ⟨fun w' => ?_, rfl⟩
      simp [eqGuard,binOp,binD,sv,Op.stringOp,qc,Jh,Qj,Result.andThen]; done)
   | (rename_i s s'
      refine ⟨fun w'=>?_,rfl⟩
      have h1:=run_string_add_sum (P:=P) w' ⟨s.toArray⟩ ⟨s'.toArray⟩ (by simpa [ByteArray.size] using h)
      rw [ByteArray.mk_append_mk] at h1
      simp [eqGuard,binOp,binD,sv,Jh,Qj,Result.andThen,h1])
 ·simp only [VR] at hx hy
  simp only [jH] at hb
  cases hx; cases hy
  cases op <;> first
   | exact h.elim
   | (refine ⟨fun w' => ?_, rfl⟩
      simp [eqGuard,binOp,binD,sv,p6 hb,Jh,Qj,Result.andThen]; done)
 ·exact DY op T hx hy h0 hb
 ·exact h.elim
end
end
section
open Go.RowKit
section
variable {P : Program} {E : Md} {A0 : Env} [GlobC A0 P] {N : Nat} {w0 : World} {ρ : Nat -> Option (Nat × Nat)} {σ : St} {a : Act} {w : World}
theorem Rel.glob (h : Rel A0 N w0 ρ σ a w) : ∀ p ∈ gdat P,p.1 < σ.B /\ ¬ A0.G p.1 /\ ∃ T f,w.heap[p.1]? = some (.cells (p.2.map (Value.int .i64)).toArray T f):=by
 intro p hp
 rw [<- GlobC.eq (A0:=A0) (P:=P)] at hp
 obtain ⟨h1,T,f,h2⟩:=h.hN.2 p hp
 have hlt : p.1 < w0.heap.size:=(Qh.1 h2).1
 exact ⟨by rw [h.hB]; exact hlt,h1,T,f,(h.below.block p.1 hlt h1).trans h2⟩
theorem Rel.globN (h : Rel A0 N w0 ρ σ a w) : GlobIn (gdat P) (fun _=>False) w:=fun p hp=>⟨fun h=>h,(h.glob p hp).2.2⟩
theorem Rel.globW (h : Rel A0 N w0 ρ σ a w) {G : Nat -> Prop} (hG : ∀ g,G g -> σ.B <= g \/ A0.G g) : GlobIn (gdat P) G w:=fun p hp=>⟨fun hg=>by
 obtain ⟨h1,h2,_⟩:=h.glob p hp
 rcases hG _ hg with h3 | h3
 ·omega
 ·exact h2 h3,(h.glob p hp).2.2⟩
def memOp (o : Oper) : Bool:=match o.op with | .load .. | .convert ..=>true | _=>false
def Mw (o : Oper) (w w' : World) : Prop:=memOp o = true -> Ext w w'
def Yld (P : Program) (ρ : Nat -> Option (Nat × Nat)) (σ : St) (S : Nat -> Prop) (a : Act) (w : World) (o : Oper) (v : V) : Prop:=
 ∃ val,(∀ w',Mw o w w' -> (execOp a.eval o).run P w' = .ok (.value val) w') /\ VR ρ σ.m S w v val
variable {S : Nat -> Prop} {dst : Option Tmp} {ty : TypeId} {pos : String} {af : Array Edge} {gd : Option (Nat × Bool)}
omit [GlobC A0 P] in
theorem vE (h : Rel A0 N w0 ρ σ a w) (s f : Nat) (x : Operand) (h1 : (foff P s f).isSome = true) (h2 : eO σ.m (σ.ev x)) :
  Yld P ρ σ (Sof A0 σ.B ρ σ.m w) a w ⟨dst,.fieldAddr s x f,ty,pos,af,gd⟩ (addP (foT P s f) (σ.ev x)):=by
 obtain ⟨⟨o',sz⟩,ho⟩:=Zx.1 h1
 have hfo : foT P s f = o':=by simp [foT,ho]
 have hv:=h.ev x
 obtain ⟨ad,hval,hlt,_⟩:=sE h hv h2
 unfold foff at ho
 split at ho
 ·rename_i fs hs
  split at ho
  ·rename_i fd hfd
   split at ho
   ·rename_i i hi
    split at ho
    ·cases ho
    ·rename_i hz
     cases ho
     refine ⟨.pointer (some (ad.add fd.offset)),fun w' hx=>?_,?_⟩
     ·simp [execOp,Instr.fieldAt,run_underlying hs,hfd,Instr.sureAddr,hval,fieldPlace,sizeOf,typeInfo,hi,hz,Jh,Qj,Result.andThen]
     ·rw [hfo]
      rw [hval] at hv
      cases hx : σ.ev x with
      | ptr k i off =>
        rw [hx] at hv h2
        simp only [addP,VR,eO] at hv h2 ⊢
        cases hm : σ.m k with
        | none=>trivial
        | some b =>
          cases b with
          | box cs =>
            simp only [hm] at hv ⊢
            obtain ⟨hi,g,cap,hr,he⟩:=hv
            simp only [Value.pointer.injEq,Jx] at he
            subst he
            exact ⟨hi,g,cap,hr,by rw [bS]⟩
          | row T sz es =>
            simp only [hm] at hv ⊢
            obtain ⟨g,cap,hr,he⟩:=hv
            simp only [Value.pointer.injEq,Jx] at he
            subst he
            exact ⟨g,cap,hr,by rw [bS]; simp [Nat.add_assoc]⟩
      | fptr y i off =>
        rw [hx] at hv
        simp only [addP,VR] at hv ⊢
        obtain ⟨ad',n,c,sz,hD,h3,h4,he⟩:=hv
        simp only [Value.pointer.injEq,Jx] at he
        subst he
        exact ⟨ad',n,c,sz,hD,h3,h4,by rw [iK,Nat.add_assoc]⟩
      | _=>rw [hx] at h2; simp [eO] at h2
   ·cases ho
  ·cases ho
 ·cases ho
theorem dh {T : TypeId} (h : (tslice P T).isSome = true) : ∃ e i z,P.underlying T = some (.slice e) /\ P.info? e = some i /\ i.zero = some z /\ z.cells.size = i.size /\ 0 < i.size /\ slT P T = (e,i.size,i.bytes):=by
 obtain ⟨p,hp⟩:=Zx.1 h
 have hs : slT P T = p:=by simp [slT,hp]
 unfold tslice at hp
 cases he : ja P T with
 | none=>simp [he] at hp
 | some e =>
   simp only [he,Option.bind_some] at hp
   have hu : P.underlying T = some (.slice e):=by
    unfold ja at he
    split at he
    ·rename_i e' hu; cases he; exact hu
    ·cases he
   cases hi : P.info? e with
   | none=>simp [hi] at hp
   | some i =>
     simp only [hi,Option.bind_some] at hp
     cases hz : i.zero with
     | none=>simp [hz] at hp
     | some z =>
       simp only [hz,Option.bind_some] at hp
       split at hp
       ·rename_i hc
        cases hp
        exact ⟨e,i,z,hu,hi,hz,hc.1,hc.2,hs⟩
       ·cases hp
omit [GlobC A0 P] in
theorem vF (h : Rel A0 N w0 ρ σ a w) (T : Nat) (x i : Operand) (h1 : (tslice P T).isSome = true) (h2 : iq (σ.ev i) = true) (h3 : mh σ.m (slT P T).2.1 (σ.ev x) (getZ (σ.ev i))) :
  Yld P ρ σ (Sof A0 σ.B ρ σ.m w) a w ⟨dst,.indexAddr T x i,ty,pos,af,gd⟩ (idxV (σ.ev x) (getZ (σ.ev i))):=by
 obtain ⟨e,inf,z,hu,hi,hz,hzs,hpos,hsl⟩:=dh h1
 rw [hsl] at h3
 obtain ⟨k,hk,hiv⟩:=oG (h.ev i) h2
 have hv:=h.ev x
 generalize hzz : getZ (σ.ev i) = zz at *
 have hrun : ∀ (p : Addr) (n c : Nat) (w' : World),a.eval x = .slice (some p) n c -> 0 <= zz -> zz.toNat < n ->
   (execOp a.eval ⟨dst,.indexAddr T x i,ty,pos,af,gd⟩).run P w' = .ok (.value (.pointer (some (p.add (zz.toNat * inf.size))))) w':=by
  intro p n c w' hx h0 hn
  have hlt : zz < (n : Int):=by omega
  simp [execOp,Instr.indexAt,hx,hiv,asIntOf,run_underlying hu,h0,hlt,sizeOf,typeInfo,hi,Jh,Qj,Result.andThen]
 cases hx : σ.ev x with
 | d y =>
   rw [hx] at h3 hv
   cases y with
   | sl id Tw es =>
     simp only [mh] at h3
     obtain ⟨h0,hlt,hsz⟩:=h3
     simp only [VR] at hv
     have hes : es[zz.toNat]? = some (es.getD zz.toNat []):=by simp [List.getD,Jw hlt]
     generalize ha : a.eval x = vx at hv
     cases hv with
     | nil T=>simp at hlt
     | emp t aa=>simp at hlt
     | sl g T' es ad cap sz vs hS hab hcap hm hsz' hc hd hw hh =>
       have hsz2 : sz = inf.size:=(hsz' _ _ hes).symm.trans hsz
       subst hsz2
       refine ⟨_,fun w' _=>hrun ad _ _ w' ha h0 hlt,?_⟩
       simp only [idxV,VR]
       refine ⟨ad,_,cap,inf.size,DR.sl g _ es ad cap inf.size vs hS hab hcap hm hsz' hc hd hw hh,fun e he=>?_,hlt,by rw [Nat.add_zero]⟩
       obtain ⟨i,hi⟩:=List.mem_iff_getElem?.1 he
       exact hsz' i e hi
   | pl es =>
     simp only [mh] at h3
     obtain ⟨h0,hlt,hsz⟩:=h3
     simp only [VR] at hv
     have hes : es[zz.toNat]? = some (es.getD zz.toNat []):=by simp [List.getD,Jw hlt]
     generalize ha : a.eval x = vx at hv
     cases hv with
     | pl _ aa cap sz vs hS hn hcap hm hsz' hc hd =>
       have hsz2 : sz = inf.size:=(hsz' _ _ hes).symm.trans hsz
       subst hsz2
       obtain ⟨ad,rfl⟩:=Option.ne_none_iff_exists'.1 (hn (by omega))
       refine ⟨_,fun w' _=>hrun ad _ _ w' ha h0 hlt,?_⟩
       simp only [idxV,VR]
       refine ⟨ad,_,cap,inf.size,DR.pl es (some ad) cap inf.size vs hS hn hcap hm hsz' hc hd,fun e he=>?_,hlt,by rw [Nat.add_zero]⟩
       obtain ⟨i,hi⟩:=List.mem_iff_getElem?.1 he
       exact hsz' i e hi
   | _=>simp [mh] at h3
 | own k' lo n =>
   rw [hx] at h3 hv
   simp only [mh] at h3
   obtain ⟨h0,hlt,hrow,hsz,hl⟩:=h3
   cases hm : σ.m k' with
   | none=>simp [hm,bF] at hrow
   | some b =>
     cases b with
     | box cs=>simp [hm,bF] at hrow
     | row Te sz es =>
       simp only [hm,szOf,getL] at hsz hl
       subst hsz
       simp only [VR,hm] at hv
       obtain ⟨_,hv⟩:=hv
       have hb:=h.mem k' _ hm
       obtain ⟨hsz,hrow⟩:=hb
       cases hr : ρ k' with
       | none=>rw [hr] at hv; obtain ⟨_,rfl,_⟩:=hv; omega
       | some p =>
         obtain ⟨g,cap⟩:=p
         rw [hr] at hv
         obtain ⟨ad,c,hax,hab,hnc,hcm,hz',hp⟩:=hv
         refine ⟨_,fun w' _=>hrun ad _ _ w' hax h0 (by omega),?_⟩
         simp only [idxV,VR,hm]
         refine ⟨g,cap,hr,?_⟩
         rw [hp (by omega),bS,Nat.add_zero,Nat.add_mul]
 | _=>rw [hx] at h3; simp [mh] at h3
omit [GlobC A0 P] in
theorem w8 (h : Rel A0 N w0 ρ σ a w) (T : Nat) (x : Operand) (h1 : (tsz P T).isSome = true) (h2 : (tagg P T).isSome = true) (hp : eO σ.m (σ.ev x)) (hl : (if agB P T then szT P T else 1) <= (atP σ.m (σ.ev x)).length) :
  Yld P ρ σ (Sof A0 σ.B ρ σ.m w) a w ⟨dst,.load T x,ty,pos,af,gd⟩ (if agB P T then .agg ((atP σ.m (σ.ev x)).take (szT P T)) else hd (atP σ.m (σ.ev x))):=by
 obtain ⟨val,hrun,hv⟩:=uo (w':=w) h Ext.refl T (h.ev x) h1 h2 hp hl
 refine ⟨val,fun w' hx=>?_,hv⟩
 obtain ⟨ad,ha,hr⟩:=hrun w' (hx rfl)
 simp [execOp,Instr.loadAt,Instr.sureAddr,ha,hr,Jh,Qj,Result.andThen]
theorem Ap {m : Nat -> Option Blk} {S : Nat -> Prop} : ∀ l : List Int,LR ρ m S w (l.map fun n=>.d (.int .i64 n)) (l.map (Value.int .i64))
 | []=>by simp [LR]
 | x :: r=>by simp only [Qz,LR,VR]; exact ⟨.int _ _,Ap r⟩
theorem Gc (h : Rel A0 N w0 ρ σ a w) (T : Nat) (g : Nat) (h1 : (tsz P T).isSome = true) (h2 : tagg P T = some true) (h3 : ((gdat P).lookup g).isSome = true) (h4 : (gcs P g).length = szT P T) :
  Yld P ρ σ S a w ⟨dst,.load T (.global g),ty,pos,af,gd⟩ (.agg ((gcs P g).map fun n=>.d (.int .i64 n))):=by
 obtain ⟨l,hl⟩:=Zx.1 h3
 have hg : gcs P g = l:=by simp [gcs,hl]
 rw [hg] at h4 ⊢
 have hmem : (g,l) ∈ gdat P:=by
  have:=List.lookup_eq_some_iff.1 hl
  obtain ⟨l1,l2,e,_⟩:=this
  rw [e]; simp
 obtain ⟨_,_,T',f,hblk⟩:=h.glob _ hmem
 obtain ⟨n,hn⟩:=Zx.1 h1
 have hszT : szT P T = n:=by simp [szT,hn]
 rw [hszT] at h4
 have hlt : g < w.heap.size:=(Qh.1 hblk).1
 refine ⟨.agg (l.map (Value.int .i64)).toArray,fun w' hx=>?_,?_⟩
 ·have hb' : w'.heap[g]? = some (.cells (l.map (Value.int .i64)).toArray T' f):=((hx rfl).2 g hlt).trans hblk
  have hrun : (loadVar T ⟨g,0,none⟩).run P w' = .ok (.agg (l.map (Value.int .i64)).toArray) w':=by
   simp only [loadVar,Jh,fJ h2,mN hn,Result.andThen,if_true]
   have hc:=run_loadCells (P:=P) w' ⟨g,0,none⟩ n (fun i=>.int .i64 (l.getD i 0)) (fun j hj=>by
    rw [bS,db hb']
    have : j < l.length:=by omega
    simp [this,List.getD])
   rw [hc]
   have : (List.range n).map (fun i=>Value.int .i64 (l.getD i 0)) = l.map (Value.int .i64):=by
    apply List.ext_getElem?
    intro i
    simp only [List.getElem?_map]
    by_cases hi : i < n
    ·rw [List.getElem?_range hi]
     have : i < l.length:=by omega
     simp [this,List.getD]
    ·rw [List.getElem?_eq_none (by simp; omega),List.getElem?_eq_none (by omega)]; rfl
   rw [this]; rfl
  simp [execOp,Instr.loadAt,Instr.sureAddr,Act.eval,hrun,Jh,Qj,Result.andThen]
 ·simp only [VR]
  exact ⟨_,rfl,Ap l⟩
omit [GlobC A0 P] in
theorem Ge (h : Rel A0 N w0 ρ σ a w) (T : Nat) (x i : Operand) (h1 : tstr P T = some true) (h2 : isStr (σ.ev x) = true) (h3 : iq (σ.ev i) = true) (h4 : 0 <= getZ (σ.ev i)) (h5 : (getZ (σ.ev i)).toNat < (iY (σ.ev x)).length) :
  Yld P ρ σ S a w ⟨dst,.index T x i,ty,pos,af,gd⟩ (.d (.int .u8 ((iY (σ.ev x)).getD (getZ (σ.ev i)).toNat 0).toNat)):=by
 have hu : P.underlying T = some .string:=by
  unfold tstr at h1
  split at h1 <;> simp_all
 have hx:=GX (h.ev x) h2
 obtain ⟨k,_,hi⟩:=oG (h.ev i) h3
 refine ⟨.int .u8 ((iY (σ.ev x)).getD (getZ (σ.ev i)).toNat 0).toNat,fun w' _=>?_,by simpa only [VR] using DR.int _ _⟩
 have hget : (⟨(iY (σ.ev x)).toArray⟩ : ByteArray)[(getZ (σ.ev i)).toNat]? = some ((iY (σ.ev x)).getD (getZ (σ.ev i)).toNat 0):=by
  have hsz : (getZ (σ.ev i)).toNat < (⟨(iY (σ.ev x)).toArray⟩ : ByteArray).size:=by simpa [ByteArray.size] using h5
  rw [getElem?_pos (⟨(iY (σ.ev x)).toArray⟩ : ByteArray) (getZ (σ.ev i)).toNat hsz]
  simp [ByteArray.getElem_eq_getElem_data,List.getD,Jw h5]
 simp [execOp,Instr.index,hx,hi,asIntOf,run_underlying hu,h4,hget,Jh,Qj,Result.andThen]
end
end
section
open Go.RowKit
section
variable {P : Program} {E : Md} {A0 : Env} {N : Nat} {w0 : World} {ρ : Nat -> Option (Nat × Nat)} {σ : St} {a : Act} {w : World}
variable {S : Nat -> Prop} {dst : Option Tmp} {ty : TypeId} {pos : String} {af : Array Edge} {gd : Option (Nat × Bool)}
theorem IY (h : Rel A0 N w0 ρ σ a w) (x : Operand) : Yld P ρ σ (Sof A0 σ.B ρ σ.m w) a w ⟨dst,.move x,ty,pos,af,gd⟩ (σ.ev x):=
 ⟨a.eval x,fun w' _=>by simp [execOp,Qj],h.ev x⟩
theorem DT (h : Rel A0 N w0 ρ σ a w) (x : Operand) : Yld P ρ σ (Sof A0 σ.B ρ σ.m w) a w ⟨dst,.assign x,ty,pos,af,gd⟩ (σ.ev x):=
 ⟨a.eval x,fun w' _=>by simp [execOp,Qj],h.ev x⟩
theorem IZ (h : Rel A0 N w0 ρ σ a w) (c x y : Operand) (h1 : gL (σ.ev c) = true) :
  Yld P ρ σ (Sof A0 σ.B ρ σ.m w) a w ⟨dst,.pick c x y,ty,pos,af,gd⟩ (vite (getB (σ.ev c)) (σ.ev x) (σ.ev y)):=by
 have hc:=xg (h.ev c) h1
 refine ⟨if getB (σ.ev c) then a.eval x else a.eval y,fun w' _=>?_,?_⟩
 ·simp [execOp,hc,asBool,Jh,Qj,Result.andThen]
 ·unfold vite
  cases getB (σ.ev c)
  ·exact h.ev y
  ·exact h.ev x
theorem xa (h : Rel A0 N w0 ρ σ a w) (x : Operand) (h1 : eO σ.m (σ.ev x)) : Yld P ρ σ (Sof A0 σ.B ρ σ.m w) a w ⟨dst,.nilCheck x,ty,pos,af,gd⟩ (σ.ev x):=by
 obtain ⟨ad,hv,_⟩:=sE h (h.ev x) h1
 refine ⟨a.eval x,fun w' _=>?_,h.ev x⟩
 simp [execOp,hv,Qj]
theorem F8 (h : Rel A0 N w0 ρ σ a w) (op : BinOp) (T T' : TypeId) (x y : Operand) (h1 : nP op (σ.ev x) (σ.ev y)) (h2 : jH P T (σ.ev x)) :
  Yld P ρ σ (Sof A0 σ.B ρ σ.m w) a w ⟨dst,.binOp op T x y T',ty,pos,af,gd⟩ (.d (binD op (σ.ev x) (σ.ev y))):=by
 obtain ⟨hr,hp⟩:=D6 (P:=P) (ρ:=ρ) (w:=w) op T (Tx:=x) (Ty:=y) (h.ev x) (h.ev y) h1 h2
 refine ⟨sv (binD op (σ.ev x) (σ.ev y)),fun w' _=>?_,by simpa only [VR] using Kf hp⟩
 have:=hr w'
 simp only [execOp]
 rw [Jh,this]
 rfl
theorem I0 (h : Rel A0 N w0 ρ σ a w) (op : UnOp) (T : TypeId) (x : Operand) (h1 : unOk op (σ.ev x)) :
  Yld P ρ σ (Sof A0 σ.B ρ σ.m w) a w ⟨dst,.unOp op T x,ty,pos,af,gd⟩ (.d (unD op (σ.ev x))):=by
 have hv:=h.ev x
 revert h1 hv
 generalize σ.ev x = vx
 intro h1 hv
 unfold unOk at h1
 split at h1
 ·simp only [VR] at hv
  generalize ha : a.eval x = va at hv
  cases hv
  refine ⟨.bool _,fun w' _=>?_,by simpa only [VR,unD] using DR.bool _⟩
  simp [execOp,ha,Op.unary,Jh,Qj,Result.andThen]
 ·simp only [VR] at hv
  generalize ha : a.eval x = va at hv
  cases hv
  refine ⟨.int _ _,fun w' _=>?_,by simpa only [VR,unD] using DR.int _ _⟩
  simp [execOp,ha,Op.unary,Op.intArith,Jh,Qj,Result.andThen]
 ·exact h1.elim
theorem w9 (h : Rel A0 N w0 ρ σ a w) (f : Nat) (first caps : Array Operand) (hf : first.size = 0) :
  Yld P ρ σ (Sof A0 σ.B ρ σ.m w) a w ⟨dst,.makeFunc (.func f) first caps,ty,pos,af,gd⟩ (.fn f (caps.toList.map σ.ev)):=by
 have h0 : first = #[]:=Array.eq_empty_of_size_eq_zero hf
 subst h0
 refine ⟨.func (.func f) #[] (caps.map a.eval),fun w' _=>?_,?_⟩
 ·simp [execOp,Instr.makeFunc,Jh,Qj,Result.andThen]
 ·simp only [VR]
  refine ⟨caps.toList.map a.eval,by rw [<- Array.toList_map],?_⟩
  generalize caps.toList = l
  induction l with
  | nil=>simp [LR]
  | cons x r ih=>simp only [Qz,LR]; exact ⟨h.ev x,ih⟩
theorem Ao (h : Rel A0 N w0 ρ σ a w) (x : Operand) (i : Nat) {vs : List V} (hx : σ.ev x = .tup vs) (hi : i < vs.length) :
  Yld P ρ σ (Sof A0 σ.B ρ σ.m w) a w ⟨dst,.extract x i,ty,pos,af,gd⟩ (vs.getD i .bad):=by
 have hv:=h.ev x
 rw [hx] at hv
 simp only [VR] at hv
 obtain ⟨l,ha,hl⟩:=hv
 have hc : vs[i]? = some (vs.getD i .bad):=by simp [List.getD,Jw hi]
 obtain ⟨u,hu,hd⟩:=hl.get i _ hc
 refine ⟨u,fun w' _=>?_,hd⟩
 simp [execOp,Instr.extract,ha,hu,Jh,Qj,Result.andThen]
theorem Gb (h : Rel A0 N w0 ρ σ a w) (T f : Nat) (x : Operand) (hf : tW P T f (σ.ev x)) :
  Yld P ρ σ (Sof A0 σ.B ρ σ.m w) a w ⟨dst,.field T x f,ty,pos,af,gd⟩ (fldV P T f (σ.ev x)):=by
 have hv:=h.ev x
 cases hx : σ.ev x with
 | agg cs =>
   rw [hx] at hf hv
   simp only [tW] at hf
   obtain ⟨h1,h2,h3,h4⟩:=hf
   simp only [VR] at hv
   obtain ⟨l,ha,hl⟩:=hv
   obtain ⟨⟨o,sz⟩,ho⟩:=Zx.1 h2
   obtain ⟨t',ht⟩:=Zx.1 h1
   have hfo : foT P T f = o:=by simp [foT,ho]
   rw [hfo] at h4
   rw [ht,Option.getD_some] at h3
   obtain ⟨b,hb⟩:=Zx.1 h3
   have hval : fldV P T f (.agg cs) = if b then .agg ((cs.drop o).take sz) else hd (cs.drop o):=by
    simp [fldV,ht,ho,hfo,agB,hb]
   rw [hval]
   unfold foff at ho
   split at ho
   ·rename_i fs hs
    split at ho
    ·rename_i fd hfd
     split at ho
     ·rename_i i hi
      split at ho
      ·cases ho
      ·cases ho
       have hte : t' = fd.type:=by
        simp [fty,hs,hfd] at ht; exact ht.symm
       subst hte
       cases b
       ·have hc : cs[fd.offset]? = some (cs[fd.offset]):=Jw h4
        obtain ⟨u,hu,hd'⟩:=hl.get _ _ hc
        have e : hd (cs.drop fd.offset) = cs[fd.offset]:=by rw [List.drop_eq_getElem_cons h4]; rfl
        refine ⟨u,fun w' _=>?_,by simp only [Zv,if_false]; rw [e]; exact hd'⟩
        simp [execOp,Instr.field,run_underlying hs,hfd,asAgg,part,ha,hu,fJ hb,Jh,Qj,Result.andThen]
       ·refine ⟨.agg ((l.drop fd.offset).take i.size).toArray,fun w' _=>?_,?_⟩
        ·have e : l.toArray.extract fd.offset (fd.offset + i.size) = ((l.drop fd.offset).take i.size).toArray:=by
          simp [List.extract_eq_take_drop]
         simp [execOp,Instr.field,run_underlying hs,hfd,asAgg,part,ha,fJ hb,sizeOf,typeInfo,hi,Jh,Qj,Result.andThen]
        ·simp only [if_true,VR]
         exact ⟨_,rfl,(hl.drop _).take _⟩
     ·cases ho
    ·cases ho
   ·cases ho
 | _=>rw [hx] at hf; exact hf.elim
theorem KU (h : Rel A0 N w0 ρ σ a w) (x : Operand) (t : TypeId) (h1 : lnOk (σ.ev x) = true) (h2 : tstr P t = some (isStr (σ.ev x))) (h3 : x6 σ (σ.ev x)) :
  Yld P ρ σ S a w ⟨dst,.call ⟨.builtin .len,#[x],#[t]⟩,ty,pos,af,gd⟩ (.d (.int .i64 (lnV (σ.ev x)))):=by
 have hv:=h.ev x
 refine ⟨.int .i64 (lnV (σ.ev x)),fun w' _=>?_,by simpa only [VR] using DR.int _ _⟩
 have key : ∀ (d : TypeDesc) (v : Value),P.underlying t = some d -> a.eval x = v -> (∀ w'',(Builtin.len_ #[t] ty #[v]).run P w'' = .ok (.int .i64 (lnV (σ.ev x))) w'') ->
   (execOp a.eval ⟨dst,.call ⟨.builtin .len,#[x],#[t]⟩,ty,pos,af,gd⟩).run P w' = .ok (.value (.int .i64 (lnV (σ.ev x)))) w':=by
  intro d v _ hx hr
  simp [execOp,resolve,invoke,builtin,hx,hr,Jh,Qj,Result.andThen]
 cases hx : σ.ev x with
 | d y =>
   rw [hx] at hv h2 key
   simp only [VR] at hv
   generalize ha : a.eval x = va at hv
   cases hv with
   | str s =>
     have hu : P.underlying t = some .string:=by unfold tstr at h2; simp only [isStr] at h2; split at h2 <;> simp_all
     refine key _ _ hu ha fun w''=>?_
     have hsz : (⟨s.toArray⟩ : ByteArray).size = s.length:=rfl
     simp [Builtin.len_,run_underlying hu,goInt,lnV,Jh,Qj,Result.andThen,hsz]
   | nil T =>
     have hu : ∃ e,P.underlying t = some (.slice e):=by unfold tstr at h2; simp only [isStr] at h2; split at h2 <;> simp_all
     obtain ⟨e,hu⟩:=hu
     refine key _ _ hu ha fun w''=>?_
     simp [Builtin.len_,run_underlying hu,goInt,lnV,Jh,Qj,Result.andThen]
   | sl g T es ad cap sz vs =>
     have hu : ∃ e,P.underlying t = some (.slice e):=by unfold tstr at h2; simp only [isStr] at h2; split at h2 <;> simp_all
     obtain ⟨e,hu⟩:=hu
     refine key _ _ hu ha fun w''=>?_
     simp [Builtin.len_,run_underlying hu,goInt,lnV,Jh,Qj,Result.andThen]
   | emp t' aa =>
     have hu : ∃ e,P.underlying t = some (.slice e):=by unfold tstr at h2; simp only [isStr] at h2; split at h2 <;> simp_all
     obtain ⟨e,hu⟩:=hu
     refine key _ _ hu ha fun w''=>?_
     simp [Builtin.len_,run_underlying hu,goInt,lnV,Jh,Qj,Result.andThen]
   | pl es aa cap sz vs =>
     have hu : ∃ e,P.underlying t = some (.slice e):=by unfold tstr at h2; simp only [isStr] at h2; split at h2 <;> simp_all
     obtain ⟨e,hu⟩:=hu
     refine key _ _ hu ha fun w''=>?_
     simp [Builtin.len_,run_underlying hu,goInt,lnV,Jh,Qj,Result.andThen]
   | _=>rw [hx] at h1; simp [lnOk] at h1
 | own k lo n =>
   rw [hx] at hv h2 key
   have hu : ∃ e,P.underlying t = some (.slice e):=by unfold tstr at h2; simp only [isStr] at h2; split at h2 <;> simp_all
   obtain ⟨e,hu⟩:=hu
   rw [hx] at h3
   have hr:=h3.1
   cases hm : σ.m k with
   | none=>simp [hm,bF] at hr
   | some b =>
     cases b with
     | box cs=>simp [hm,bF] at hr
     | row T sz es =>
       simp only [VR,hm] at hv
       obtain ⟨_,hv⟩:=hv
       have : ∃ ad c,a.eval x = .slice ad n c:=by
        cases hr : ρ k with
        | none=>rw [hr] at hv; obtain ⟨hv,rfl,_⟩:=hv; exact ⟨_,_,hv⟩
        | some p=>obtain ⟨g,cap⟩:=p; rw [hr] at hv; obtain ⟨ad,c,hv,_⟩:=hv; exact ⟨_,_,hv⟩
       obtain ⟨ad,c,hv⟩:=this
       refine key _ _ hu hv fun w''=>?_
       simp [Builtin.len_,run_underlying hu,goInt,lnV,Jh,Qj,Result.andThen]
 | _=>rw [hx] at h1; simp [lnOk] at h1
theorem KV (h : Rel A0 N w0 ρ σ a w) (x y : Operand) (tys : Array TypeId) (h1 : kOf (σ.ev x) = some .i64) (h2 : kOf (σ.ev y) = some .i64) :
  Yld P ρ σ S a w ⟨dst,.call ⟨.builtin .max,#[x,y],tys⟩,ty,pos,af,gd⟩ (.d (.int .i64 (if getZ (σ.ev y) > getZ (σ.ev x) then getZ (σ.ev y) else getZ (σ.ev x)))):=by
 have hx:=iJ (h.ev x) h1
 have hy:=iJ (h.ev y) h2
 refine ⟨.int .i64 (if getZ (σ.ev y) > getZ (σ.ev x) then getZ (σ.ev y) else getZ (σ.ev x)),fun w' _=>?_,by simpa only [VR] using DR.int _ _⟩
 simp [execOp,resolve,invoke,builtin,Builtin.max_,Builtin.max2,hx,hy,Jh,Qj,Result.andThen]
theorem KW (h : Rel A0 N w0 ρ σ a w) (x y : Operand) (tys : Array TypeId) (h1 : kOf (σ.ev x) = some .i64) (h2 : kOf (σ.ev y) = some .i64) :
  Yld P ρ σ S a w ⟨dst,.call ⟨.builtin .min,#[x,y],tys⟩,ty,pos,af,gd⟩ (.d (.int .i64 (if getZ (σ.ev y) < getZ (σ.ev x) then getZ (σ.ev y) else getZ (σ.ev x)))):=by
 have hx:=iJ (h.ev x) h1
 have hy:=iJ (h.ev y) h2
 refine ⟨.int .i64 (if getZ (σ.ev y) < getZ (σ.ev x) then getZ (σ.ev y) else getZ (σ.ev x)),fun w' _=>?_,by simpa only [VR] using DR.int _ _⟩
 simp [execOp,resolve,invoke,builtin,Builtin.min_,Builtin.min2,hx,hy,Jh,Qj,Result.andThen]
end
end
section
open Go.RowKit
section
variable {P : Program} {E : Md} {A0 : Env} {N : Nat} {w0 : World} {ρ : Nat -> Option (Nat × Nat)} {σ : St} {a : Act} {w : World}
variable {S : Nat -> Prop} {dst : Option Tmp} {ty : TypeId} {pos : String} {af : Array Edge} {gd : Option (Nat × Bool)}
theorem te (h : Rel A0 N w0 ρ σ a w) (s t : TypeId) (x : Operand) (k : IntKind) (hu : P.underlying t = some (.int k)) (h1 : iq (σ.ev x) = true) (h2 : (P.underlying s).isSome = true) :
  Yld P ρ σ S a w ⟨dst,.convert s t x,ty,pos,af,gd⟩ (.d (.int k (k.wrap (getZ (σ.ev x))))):=by
 obtain ⟨k',_,hx⟩:=oG (h.ev x) h1
 obtain ⟨d,hd⟩:=Zx.1 h2
 refine ⟨.int k (k.wrap (getZ (σ.ev x))),fun w' _=>?_,by simpa only [VR] using DR.int _ _⟩
 simp [execOp,convert,run_underlying hu,run_underlying hd,hx,Conv.intToInt,Jh,Qj,Result.andThen]
theorem BV {e : List D} (h : isB e = true) : ∃ n,e = [.int .u8 n]:=by
 unfold isB at h
 split at h
 ·exact ⟨_,rfl⟩
 ·cases h
theorem v8 (ns : List Int) : ∀ s : ByteArray,ns.foldl (fun r n=>r.push (UInt8.ofNat n.toNat)) s = ⟨(s.data.toList ++ ns.map fun n=>UInt8.ofNat n.toNat).toArray⟩:=by
 induction ns with
 | nil=>intro s; cases s; simp
 | cons n ns ih =>
   intro s
   simp only [List.foldl_cons,Qz]
   rw [ih]
   simp [ByteArray.push]
theorem qu (h : Rel A0 N w0 ρ σ a w) (s t : TypeId) (x : Operand) (hu : P.underlying t = some .string) (h1 : elOk σ.m (σ.ev x)) (h2 : (elV σ.m (σ.ev x)).all isB = true)
  (h3 : (tslice P s).isSome = true) (h4 : P.underlying (slT P s).1 = some (.int .u8)) :
  Yld P ρ σ S a w ⟨dst,.convert s t x,ty,pos,af,gd⟩ (.d (.str ((elV σ.m (σ.ev x)).map toB))):=by
 obtain ⟨e,inf,z,hus,hi,hz,hzs,hpos,hsl⟩:=dh h3
 rw [hsl] at h4
 obtain ⟨ad,cap,sz,hv,hcap,hb,hne,hall⟩:=uX h (h.ev x) h1
 generalize hes : elV σ.m (σ.ev x) = es at *
 refine ⟨.string ⟨(es.map toB).toArray⟩,fun w' hx=>?_,by simpa only [VR] using DR.str _⟩
 have hx : Ext w w':=hx rfl
 have hconv : (convert s t (a.eval x)).run P w' = (Conv.bytesToString (a.eval x)).run P w':=by
  rw [hv]; exact run_convert_bytes_string w' s t e ad _ _ hus h4 hu
 have hgoal : (Conv.bytesToString (a.eval x)).run P w' = .ok (.string ⟨(es.map toB).toArray⟩) w':=by
  rw [hv]
  cases ad with
  | none =>
    have : es = []:=by
     cases es with
     | nil=>rfl
     | cons x r=>exact absurd rfl (hne (by simp))
    subst this
    simp [Conv.bytesToString,Qj]
    rfl
  | some p =>
    let ns : List Int:=es.map fun e=>match e with | [.int .u8 n]=>n | _=>0
    have hns : (loadCells p es.length).run P w' = .ok (ns.map (Value.int .u8)).toArray w':=by
     have:=run_loadCells_list (P:=P) w' p (ns.map (Value.int .u8)) (fun j v hj=>by
      rw [List.getElem?_map,List.getElem?_map] at hj
      cases hej : es[j]? with
      | none=>simp [hej] at hj
      | some ej =>
        simp only [hej,Jg,Jx] at hj
        obtain ⟨n,rfl⟩:=BV (Jk.1 h2 ej (Qk hej))
        simp only at hj
        obtain ⟨h5,h6⟩:=hall j _ hej
        obtain ⟨p',val,hp',hc,hd⟩:=h6 0 _ rfl
        cases hp'
        cases hd
        rw [hx.cell (by rw [ct]; exact hb p rfl (Xq (Nat.lt_of_le_of_lt (Nat.zero_le _) (Qx.1 hej).1) hcap)),<- hj]
        simp at h5
        rw [<- h5] at hc
        simpa using hc)
     simpa [ns] using this
    rw [run_bytesToString w' p es.length cap ns hns,v8]
    have : ns.map (fun n=>UInt8.ofNat n.toNat) = es.map toB:=by
     simp only [ns,List.map_map]
     apply List.map_congr_left
     intro e he
     obtain ⟨n,rfl⟩:=BV (Jk.1 h2 e he)
     rfl
    have e0 : ByteArray.empty.data.toList = []:=rfl
    rw [e0,List.nil_append,this]
 simp only [execOp]
 rw [Jh,hconv,hgoal]
 rfl
theorem bQ {isSlice : Bool} {len cap l h : Nat} {lo hi : Option Value} (hlo : match lo with | none=>l = 0 | some v=>∃ k,v = .int k l) (hhi : match hi with | none=>h = len | some v=>∃ k,v = .int k h)
  (h1 : l <= h) (h2 : h <= len) (h3 : len <= cap) (w' : World) : (Instr.sliceBounds isSlice len cap lo hi none).run P w' = .ok (l,h,cap) w':=by
 have hb : ∀ (k : IntKind) (n y : Nat) (code : BoundsCode),n <= y -> (Instr.sliceBound (.int k n) y code).run P w' = .ok n w':=by
  intro k n y code hn
  have : (n : Int) <= (y : Int):=by omega
  simp [Instr.sliceBound,asIntOf,this,Jh,Qj,Result.andThen,hn]
 cases lo with
 | none =>
   cases hi with
   | none=>simp only at hlo hhi; subst hlo hhi; simp [Instr.sliceBounds,Jh,Qj,Result.andThen]
   | some v =>
     obtain ⟨k,rfl⟩:=hhi
     simp only at hlo; subst hlo
     simp [Instr.sliceBounds,hb k h cap _ (by omega),Jh,Qj,Result.andThen]
 | some v =>
   obtain ⟨k,rfl⟩:=hlo
   cases hi with
   | none=>simp only at hhi; subst hhi; simp [Instr.sliceBounds,hb k l h _ h1,Jh,Qj,Result.andThen]
   | some v =>
     obtain ⟨k',rfl⟩:=hhi
     simp [Instr.sliceBounds,hb k' h cap _ (by omega),hb k l h _ h1,Jh,Qj,Result.andThen]
theorem HD {k lo n : Nat} (hok : bF (σ.m k) = true /\ lo + n <= (getL (σ.m k)).length) : ∃ T sz es,σ.m k = some (.row T sz es) /\ lo + n <= es.length:=by
 obtain ⟨h1,h2⟩:=hok
 cases hm : σ.m k with
 | none=>simp [hm,bF] at h1
 | some b =>
   cases b with
   | box cs=>simp [hm,bF] at h1
   | row T sz es=>exact ⟨T,sz,es,rfl,by simpa [hm,getL] using h2⟩
theorem Gf (h : Rel A0 N w0 ρ σ a w) (T : TypeId) (x : Operand) (lo hi : Option Operand) (l u : Nat)
  (ht : tstr P T = some (isStr (σ.ev x))) (h1 : lnOk (σ.ev x) = true) (hlo : match lo with | none=>l = 0 | some y=>iq (σ.ev y) = true /\ getZ (σ.ev y) = l) (hhi : match hi with | none=>u = lnV (σ.ev x) | some y=>iq (σ.ev y) = true /\ getZ (σ.ev y) = u)
  (h2 : l <= u) (h3 : u <= lnV (σ.ev x)) (h4 : cutOk P T σ.m (σ.ev x)) :
  Yld P ρ σ (Sof A0 σ.B ρ σ.m w) a w ⟨dst,.slice T x lo hi none,ty,pos,af,gd⟩ (cutV (σ.ev x) l u):=by
 have hv:=h.ev x
 have hlo' : ∀ len : Nat,len = lnV (σ.ev x) -> (match lo.map a.eval with | none=>l = 0 | some v=>∃ k,v = Value.int k l) /\ (match hi.map a.eval with | none=>u = len | some v=>∃ k,v = Value.int k u):=by
  intro len hlen
  constructor
  ·cases lo with
   | none=>exact hlo
   | some y =>
     obtain ⟨k,_,hy⟩:=oG (h.ev y) hlo.1
     exact ⟨k,by rw [hy,hlo.2]⟩
  ·cases hi with
   | none=>simp only at hhi; simp [hhi,hlen]
   | some y =>
     obtain ⟨k,_,hy⟩:=oG (h.ev y) hhi.1
     exact ⟨k,by rw [hy,hhi.2]⟩
 have fin : ∀ {val : Value},(∀ w',(Instr.slice T (a.eval x) (lo.map a.eval) (hi.map a.eval) none).run P w' = .ok val w') -> (∀ n e,P.underlying T ≠ some (.array n e)) -> (∃ d,P.underlying T = some d) ->
   ∀ w',(execOp a.eval ⟨dst,.slice T x lo hi none,ty,pos,af,gd⟩).run P w' = .ok (.value val) w':=by
  intro val hr hna hd w'
  obtain ⟨d,hd⟩:=hd
  have : (Instr.sliceAt T (a.eval x) (lo.map a.eval) (hi.map a.eval) none).run P w' = .ok val w':=by
   unfold Instr.sliceAt
   rw [Jh,run_underlying hd]
   simp only [Result.andThen]
   cases d <;> first | exact hr w' | exact absurd hd (hna _ _)
  simp only [execOp,Option.map_none]
  rw [Jh,this]
  rfl
 cases hx : σ.ev x with
 | d y =>
   rw [hx] at hv ht h1 h3
   simp only [VR] at hv
   generalize ha : a.eval x = va at hv
   cases hv with
   | str s =>
     have hu : P.underlying T = some .string:=by unfold tstr at ht; simp only [isStr] at ht; split at ht <;> simp_all
     simp only [lnV] at h3
     refine ⟨.string ⟨((s.drop l).take (u - l)).toArray⟩,fun w' _=>fin (fun w'=>?_) (by simp [hu]) ⟨_,hu⟩ w',by simpa only [cutV,VR] using DR.str _⟩
     have hsz : (⟨s.toArray⟩ : ByteArray).size = s.length:=rfl
     obtain ⟨e1,e2⟩:=hlo' s.length (by rw [hx]; rfl)
     have hb:=bQ (P:=P) (isSlice:=false) (len:=s.length) (cap:=s.length) e1 e2 h2 h3 (Jv _) w'
     have hex : (⟨s.toArray⟩ : ByteArray).extract l u = ⟨((s.drop l).take (u - l)).toArray⟩:=by
      apply ByteArray.ext
      simp [ByteArray.data_extract]
     simp [Instr.slice,run_underlying hu,ha,hsz,hb,hex,Jh,Qj,Result.andThen]
   | nil Tw =>
     rw [hx] at h4
     simp only [cutOk] at h4
     obtain ⟨e,inf,z,hu,hi',hz,hzs,hpos,hsl⟩:=dh h4.1
     simp only [lnV,List.length_nil] at h3
     have hl0 : l = 0:=by omega
     have hu0 : u = 0:=by omega
     subst hl0 hu0
     obtain ⟨e1,e2⟩:=hlo' 0 (by rw [hx]; rfl)
     refine ⟨.slice none 0 0,fun w' _=>fin (fun w'=>?_) (by simp [hu]) ⟨_,hu⟩ w',by simpa [cutV,VR] using DR.nil Tw⟩
     have hb:=bQ (P:=P) (isSlice:=true) (len:=0) (cap:=0) e1 e2 h2 h3 (Jv _) w'
     simp [Instr.slice,run_underlying hu,ha,hb,sizeOf,typeInfo,hi',Jh,Qj,Result.andThen]
   | emp Tw aa =>
     rw [hx] at h4
     simp only [cutOk] at h4
     obtain ⟨e,inf,z,hu,hi',hz,hzs,hpos,hsl⟩:=dh h4.1
     simp only [lnV,List.length_nil] at h3
     have hl0 : l = 0:=by omega
     have hu0 : u = 0:=by omega
     subst hl0 hu0
     obtain ⟨e1,e2⟩:=hlo' 0 (by rw [hx]; rfl)
     refine ⟨.slice aa 0 0,fun w' _=>fin (fun w'=>?_) (by simp [hu]) ⟨_,hu⟩ w',by simpa [cutV,VR] using DR.emp Tw aa⟩
     have hb:=bQ (P:=P) (isSlice:=true) (len:=0) (cap:=0) e1 e2 h2 h3 (Jv _) w'
     cases aa <;> simp [Instr.slice,run_underlying hu,ha,hb,sizeOf,typeInfo,hi',Jh,Qj,Result.andThen]
   | sl g Tw es ad cap sz vs hS hab hcap hm hsz hc hd hw hh =>
     rw [hx] at h4
     simp only [cutOk] at h4
     obtain ⟨e,inf,z,hu,hi',hz,hzs,hpos,hsl⟩:=dh h4.1
     rw [hsl] at h4
     simp only [lnV] at h3
     obtain ⟨e1,e2⟩:=hlo' es.length (by rw [hx]; rfl)
     refine ⟨.slice (some (if cap = l then ad else ad.add (l * inf.size))) (u - l) (cap - l),fun w' _=>fin (fun w'=>?_) (by simp [hu]) ⟨_,hu⟩ w',?_⟩
     ·have hb:=bQ (P:=P) (isSlice:=true) (len:=es.length) (cap:=cap) e1 e2 h2 h3 hcap w'
      simp [Instr.slice,run_underlying hu,ha,hb,sizeOf,typeInfo,hi',Jh,Qj,Result.andThen]
      split <;> rfl
     ·simp only [cutV,VR]
      have hlen : ((es.drop l).take (u - l)).length = u - l:=by simp; omega
      have hat : ∀ (i : Nat) (e : List D),((es.drop l).take (u - l))[i]? = some e -> i < u - l /\ es[l + i]? = some e:=by
       intro i e he
       rw [List.getElem?_take] at he
       split at he
       ·rename_i hi; exact ⟨hi,by rwa [List.getElem?_drop] at he⟩
       ·cases he
      have hsz2 : ∀ (i : Nat) (e : List D),((es.drop l).take (u - l))[i]? = some e -> sz = inf.size:=by
       intro i e he
       obtain ⟨_,he⟩:=hat i e he
       exact (hsz _ _ he).symm.trans (h4.2 e (Qk he))
      have:=DR.sl (S:=Sof A0 σ.B ρ σ.m w) (w:=w) g none ((es.drop l).take (u - l)) (if cap = l then ad else ad.add (l * inf.size)) (cap - l) sz (fun x=>vs (l * sz + x)) hS
       (fun hp=>by rw [if_neg (by omega)]; simp [ct,hab (by omega)]) (by omega) (by unfold maxLen at *; omega)
       (fun i e he=>hsz _ _ (hat i e he).2)
       (fun i e he j v hv=>by
        obtain ⟨hi,he'⟩:=hat i e he
        have hne : ¬ cap = l:=by omega
        have h5:=hc _ _ he' j v hv
        rw [if_neg hne,iK,<- hsz2 i e he]
        have : (l + i) * sz + j = l * sz + (i * sz + j):=by rw [Nat.add_mul]; omega
        rw [this] at h5
        exact h5)
       (fun i e he j v hv=>by
        obtain ⟨hi,he'⟩:=hat i e he
        have h5:=hd _ _ he' j v hv
        have : (l + i) * sz + j = l * sz + (i * sz + j):=by rw [Nat.add_mul]; omega
        rw [this] at h5
        exact h5)
       (by simp) (ud hh l (u - l))
      rw [hlen] at this
      simpa using this
   | pl es aa cap sz vs hS hn hcap hm hsz hc hd =>
     rw [hx] at h4
     simp only [cutOk] at h4
     obtain ⟨e,inf,z,hu,hi',hz,hzs,hpos,hsl⟩:=dh h4.1
     rw [hsl] at h4
     simp only [lnV] at h3
     obtain ⟨e1,e2⟩:=hlo' es.length (by rw [hx]; rfl)
     cases aa with
     | none =>
       have hc0 : cap = 0:=by
        rcases Nat.eq_zero_or_pos cap with h | h
        ·exact h
        ·exact absurd rfl (hn h)
       subst hc0
       have he0 : es = []:=List.eq_nil_of_length_eq_zero (by omega)
       subst he0
       simp only [List.length_nil] at h3
       have hl0 : l = 0:=by omega
       have hu0 : u = 0:=by omega
       subst hl0 hu0
       refine ⟨.slice none 0 0,fun w' _=>fin (fun w'=>?_) (by simp [hu]) ⟨_,hu⟩ w',?_⟩
       ·have hb:=bQ (P:=P) (isSlice:=true) (len:=0) (cap:=0) e1 e2 h2 h3 (Jv _) w'
        simp [Instr.slice,run_underlying hu,ha,hb,sizeOf,typeInfo,hi',Jh,Qj,Result.andThen]
       ·simp only [cutV,VR,List.drop_nil,List.take_nil]
        exact .pl [] none 0 0 (fun _=>.bool false) (fun p hp=>by cases hp) (fun h=>absurd h (Nat.lt_irrefl 0)) (Jv _) (Nat.zero_le _) (by simp) (by simp) (by simp)
     | some ad =>
       refine ⟨.slice (some (if cap = l then ad else ad.add (l * inf.size))) (u - l) (cap - l),fun w' _=>fin (fun w'=>?_) (by simp [hu]) ⟨_,hu⟩ w',?_⟩
       ·have hb:=bQ (P:=P) (isSlice:=true) (len:=es.length) (cap:=cap) e1 e2 h2 h3 hcap w'
        simp [Instr.slice,run_underlying hu,ha,hb,sizeOf,typeInfo,hi',Jh,Qj,Result.andThen]
        split <;> rfl
       ·simp only [cutV,VR]
        have hlen : ((es.drop l).take (u - l)).length = u - l:=by simp; omega
        have hat : ∀ (i : Nat) (e : List D),((es.drop l).take (u - l))[i]? = some e -> i < u - l /\ es[l + i]? = some e:=by
         intro i e he
         rw [List.getElem?_take] at he
         split at he
         ·rename_i hi; exact ⟨hi,by rwa [List.getElem?_drop] at he⟩
         ·cases he
        have hsz2 : ∀ (i : Nat) (e : List D),((es.drop l).take (u - l))[i]? = some e -> sz = inf.size:=by
         intro i e he
         obtain ⟨_,he⟩:=hat i e he
         exact (hsz _ _ he).symm.trans (h4.2 e (Qk he))
        have:=DR.pl (S:=Sof A0 σ.B ρ σ.m w) (w:=w) ((es.drop l).take (u - l)) (some (if cap = l then ad else ad.add (l * inf.size))) (cap - l) sz (fun x=>vs (l * sz + x))
         (fun p hp h0=>by cases hp; rw [if_neg (by omega)]; simp only [ct]; exact hS ad rfl (by omega)) (fun _=>by simp) (by omega) (by unfold maxLen at *; omega)
         (fun i e he=>hsz _ _ (hat i e he).2)
         (fun p hp i e he j v hv=>by
          cases hp
          obtain ⟨hi,he'⟩:=hat i e he
          have hne : ¬ cap = l:=by omega
          have h5:=hc ad rfl _ _ he' j v hv
          rw [if_neg hne,iK,<- hsz2 i e he]
          have : (l + i) * sz + j = l * sz + (i * sz + j):=by rw [Nat.add_mul]; omega
          rw [this] at h5
          exact h5)
         (fun i e he j v hv=>by
          obtain ⟨hi,he'⟩:=hat i e he
          have h5:=hd _ _ he' j v hv
          have : (l + i) * sz + j = l * sz + (i * sz + j):=by rw [Nat.add_mul]; omega
          rw [this] at h5
          exact h5)
        rw [hlen] at this
        exact this
   | _=>simp [lnOk] at h1
 | own k lo' n =>
   rw [hx] at hv ht h1 h3 h4
   simp only [cutOk] at h4
   obtain ⟨ht1,ht2,hok⟩:=h4
   obtain ⟨e,inf,z,hu,hi',hz,hzs,hpos,hsl⟩:=dh ht1
   obtain ⟨Te,sz,es,hm,hl⟩:=HD (σ:=σ) hok
   rw [hsl,hm] at ht2
   simp only [szOf] at ht2
   subst ht2
   simp only [lnV] at h3
   simp only [VR,hm] at hv
   obtain ⟨_,hv⟩:=hv
   obtain ⟨e1,e2⟩:=hlo' n (by rw [hx]; rfl)
   cases hr : ρ k with
   | none =>
     rw [hr] at hv
     obtain ⟨ha,rfl,rfl⟩:=hv
     have hl0 : l = 0:=by omega
     have hu0 : u = 0:=by omega
     subst hl0 hu0
     refine ⟨.slice none 0 0,fun w' _=>fin (fun w'=>?_) (by simp [hu]) ⟨_,hu⟩ w',?_⟩
     ·have hb:=bQ (P:=P) (isSlice:=true) (len:=0) (cap:=0) e1 e2 h2 h3 (Jv _) w'
      simp [Instr.slice,run_underlying hu,ha,hb,sizeOf,typeInfo,hi',Jh,Qj,Result.andThen]
     ·simp [cutV,VR,hm,hr,OwnV]
   | some p =>
     obtain ⟨g,cap⟩:=p
     rw [hr] at hv
     obtain ⟨ad,c,ha,hab,hnc,hcm,hz',hp⟩:=hv
     refine ⟨.slice (some (if c = l then ad else ad.add (l * inf.size))) (u - l) (c - l),fun w' _=>fin (fun w'=>?_) (by simp [hu]) ⟨_,hu⟩ w',?_⟩
     ·have hb:=bQ (P:=P) (isSlice:=true) (len:=n) (cap:=c) e1 e2 h2 h3 hnc w'
      simp [Instr.slice,run_underlying hu,ha,hb,sizeOf,typeInfo,hi',Jh,Qj,Result.andThen]
      split <;> rfl
     ·simp only [cutV,VR,hm,hr,OwnV]
      refine ⟨by omega,_,_,rfl,?_,by omega,by unfold maxLen at *; omega,?_,?_⟩
      ·split <;> simp [ct,hab]
      ·intro h0
       have hl0 : l = 0:=by omega
       have hlo0 : lo' = 0:=by omega
       subst hl0
       obtain ⟨h6,h7⟩:=hz' hlo0
       subst h6 h7
       constructor
       ·split
        ·rfl
        ·simp [bS]
       ·omega
      ·intro hpos'
       rw [if_neg (by omega),hp (by omega),bS,Nat.add_mul]
 | _=>rw [hx] at h1; simp [lnOk] at h1
end
end
section
open Go.RowKit
theorem me (off : Nat) : ∀ (news : List Value) (i : Nat) (cs : Array Value),off + i + news.length <= cs.size ->
  ((news.zipIdx i).foldl (fun (cs : Array Value) (x : Value × Nat)=>cs.setIfInBounds (off + x.2) x.1) cs).toList = splice cs.toList (off + i) news:=by
 intro news
 induction news with
 | nil=>intro i cs h; simp [splice,List.take_append_drop]
 | cons v r ih =>
   intro i cs h
   simp only [List.zipIdx_cons,List.foldl_cons]
   rw [ih (i + 1) _ (by simp only [Array.size_setIfInBounds,Qv] at *; omega)]
   simp only [Qv] at h
   have hlt : off + i < cs.toList.length:=by simp; omega
   simp only [Array.toList_setIfInBounds,splice,Qv]
   apply List.ext_getElem?
   intro j
   simp only [List.getElem?_append,Qw,Zq,List.length_set,Qv,List.getElem?_take,List.getElem?_set,List.getElem?_drop,List.getElem?_cons]
   grind
section
variable {ρ : Nat -> Option (Nat × Nat)} {m : Nat -> Option Blk} {S : Nat -> Prop} {w : World}
theorem LR.splice {l l' : List V} {vs vs' : List Value} (h : LR ρ m S w l vs) (h' : LR ρ m S w l' vs') (off : Nat) : LR ρ m S w (splice l off l') (splice vs off vs'):=by
 unfold Vs.splice
 rw [h'.length]
 exact ((h.take off).append h').append (h.drop _)
theorem lL {v : V} {val : Value} (h : VR ρ m S w v val) (hl : live m v = true) : val.cells = #[val] /\ v.cells = [v] /\ val.oneCell' = true:=by
 cases v with
 | d x=>simp only [VR] at h; exact ⟨h.cells,rfl,h.oneCell⟩
 | own k lo n =>
   simp only [live] at hl
   simp only [VR] at h
   cases hm : m k with
   | none=>simp [hm,bF] at hl
   | some b =>
     cases b with
     | box cs=>simp [hm,bF] at hl
     | row T sz es =>
       simp only [hm] at h
       have h2:=h.2
       unfold OwnV at h2
       split at h2
       ·rw [h2.1]; exact ⟨rfl,rfl,rfl⟩
       ·obtain ⟨a,c,rfl,_⟩:=h2; exact ⟨rfl,rfl,rfl⟩
 | ptr k i off =>
   simp only [live] at hl
   simp only [VR] at h
   cases hm : m k with
   | none=>simp [hm] at hl
   | some b =>
     cases b with
     | box cs=>simp only [hm] at h; obtain ⟨_,g,cap,_,rfl⟩:=h; exact ⟨rfl,rfl,rfl⟩
     | row T sz es=>simp only [hm] at h; obtain ⟨g,cap,_,rfl⟩:=h; exact ⟨rfl,rfl,rfl⟩
 | fptr x i off =>
   simp only [VR] at h
   obtain ⟨a,n,c,sz,_,_,_,rfl⟩:=h
   exact ⟨rfl,rfl,rfl⟩
 | fn f cs =>
   simp only [VR] at h
   obtain ⟨l,rfl,_⟩:=h
   exact ⟨rfl,rfl,rfl⟩
 | _=>simp [live] at hl
theorem jJ {v : V} {val : Value} (h : VR ρ m S w v val) (hl : dZ m v) : LR ρ m S w v.cells val.cells.toList:=by
 unfold dZ at hl
 split at hl
 ·simp only [VR] at h
  obtain ⟨l,rfl,hl⟩:=h
  simpa [V.cells,Value.cells] using hl
 ·rw [(lL h rfl).1]
  simp only [V.cells,LR]
  exact ⟨h,trivial⟩
 ·obtain ⟨h1,h2,_⟩:=lL h hl
  rw [h1,h2]
  simp only [LR]
  exact ⟨h,trivial⟩
end
end
section
open Go.RowKit
section
variable {P : Program} {E : Md} {A0 : Env} {N : Nat} {w0 : World} {ρ : Nat -> Option (Nat × Nat)} {σ : St} {a : Act} {w : World}
variable {S : Nat -> Prop} {dst : Option Tmp} {ty : TypeId} {pos : String} {af : Array Edge} {gd : Option (Nat × Bool)}
theorem rr : ∀ (fs : List Field),(∀ f ∈ fs,(P.info? f.type).isSome = true) -> ∃ places,fs.mapM (fun f=>(P.info? f.type).map fun i=>(f.offset,i.size)) = some places /\
  ∀ (i : Nat) (f : Field) (inf : TypeInfo),fs[i]? = some f -> P.info? f.type = some inf -> places[i]? = some (f.offset,inf.size)
 | [],_=>⟨[],rfl,by simp⟩
 | f :: fs, h => by
   obtain ⟨places,hp,hg⟩:=rr fs fun f hf=>h f (by simp [hf])
   obtain ⟨inf,hi⟩:=Zx.1 (h f (by simp))
   refine ⟨(f.offset,inf.size) :: places,by simp [List.mapM_cons,hi,hp],fun i f' inf' hf hi'=>?_⟩
   cases i with
   | zero=>simp at hf; subst hf; rw [hi] at hi'; cases hi'; rfl
   | succ i=>simp at hf; simpa using hg i f' inf' hf hi'
theorem xF {T : TypeId} {m : Nat -> Option Blk} {places : Nat -> Option (Nat × Nat)} (hpl : ∀ i o' sz,foff P T i = some (o',sz) -> places i = some (o',sz)) :
  ∀ (parts : List (Nat × V)) (vals : List (Nat × Value)) (z : List V) (zc : Array Value), parts.length = vals.length →
    (∀ (j : Nat) (p : Nat × V) (q : Nat × Value),parts[j]? = some p -> vals[j]? = some q -> p.1 = q.1 /\ VR ρ m S w p.2 q.2) -> LR ρ m S w z zc.toList -> kv P T m parts z ->
    ∃ cells,Instr.fill places zc vals = some cells /\ LR ρ m S w (lC P T parts z) cells.toList
 | [],[],z,zc,_,_,hz,_=>⟨zc,rfl,hz⟩
 | [],_ :: _,_,_,h,_,_,_=>by simp at h
 | _ :: _,[],_,_,h,_,_,_=>by simp at h
 | (i, v) :: parts, (i', v') :: vals, z, zc, hlen, hall, hz, hok => by
   obtain ⟨rfl,hv⟩:=hall 0 (i,v) (i',v') rfl rfl
   simp only at hv
   obtain ⟨h1,h2,h3,h4,h5⟩:=hok
   obtain ⟨⟨o',sz⟩,ho⟩:=Zx.1 h1
   have hfo : foT P T i = o':=by simp [foT,ho]
   rw [ho] at h3
   simp only [Option.getD_some] at h3
   rw [hfo] at h4 h5
   have hc:=jJ hv h2
   have hcl : v.cells.length = v'.cells.size:=by simpa using hc.length
   have hzl : z.length = zc.size:=by simpa using hz.length
   have hsp:=me o' v'.cells.toList 0 zc (by simp; omega)
   have hnew : LR ρ m S w (splice z o' v.cells) ((v'.cells.zipIdx.foldl (fun (cs : Array Value) (x : Value × Nat)=>cs.setIfInBounds (o' + x.2) x.1) zc).toList):=by
    rw [<- Array.foldl_toList,Array.toList_zipIdx,hsp]
    exact hz.splice hc o'
   obtain ⟨cells,hf,hl⟩:=xF hpl parts vals (splice z o' v.cells) _ (by simpa using hlen) (fun j p q hp hq=>hall (j + 1) p q (by simpa using hp) (by simpa using hq)) hnew h5
   refine ⟨cells,?_,by simpa only [lC,hfo] using hl⟩
   have hn1 : ¬ v'.cells.size ≠ sz:=by omega
   have hn2 : ¬ o' + v'.cells.size > zc.size:=by omega
   simp only [Instr.fill,hpl i o' sz ho]
   rw [if_neg (by simp; omega)]
   exact hf
theorem ey {m : Nat -> Option Blk} : ∀ (vs : List Value) (ds : List D),ft vs = some ds -> LR ρ m S w (ds.map .d) vs
 | [],ds,h=>by simp [ft] at h; subst h; simp [LR]
 | v :: r, ds, h => by
   unfold ft at h
   split at h
   ·rename_i heq; cases heq
   ·rename_i b r' heq
    cases heq
    cases hr : ft r with
    | none=>simp [hr] at h
    | some l=>simp [hr] at h; subst h; simp only [Qz,LR,VR]; exact ⟨.bool b,ey r l hr⟩
   ·rename_i k n r' heq
    cases heq
    cases hr : ft r with
    | none=>simp [hr] at h
    | some l=>simp [hr] at h; subst h; simp only [Qz,LR,VR]; exact ⟨.int k n,ey r l hr⟩
   ·rename_i s r' heq
    cases heq
    cases hr : ft r with
    | none=>simp [hr] at h
    | some l =>
      simp [hr] at h; subst h; simp only [Qz,LR,VR]
      have : s = ⟨s.data.toList.toArray⟩:=by cases s; simp
      refine ⟨?_,ey r l hr⟩
      rw (occs:=.pos [2]) [this]
      exact .str _
   ·rename_i r' heq
    cases heq
    cases hr : ft r with
    | none=>simp [hr] at h
    | some l=>simp [hr] at h; subst h; simp only [Qz,LR,VR]; exact ⟨.nil _,ey r l hr⟩
   ·cases h
theorem qv {T : TypeId} (h : (tzero P T).isSome = true) : ∃ i z,P.info? T = some i /\ i.zero = some z /\ ft z.cells.toList = some (zrT P T):=by
 obtain ⟨ds,hd⟩:=Zx.1 h
 have hz : zrT P T = ds:=by simp [zrT,hd]
 unfold tzero at hd
 cases hi : P.info? T with
 | none=>simp [hi] at hd
 | some i =>
   cases hz' : i.zero with
   | none=>simp [hi,hz'] at hd
   | some z =>
     simp only [hi,Option.bind_some,hz'] at hd
     exact ⟨i,z,rfl,hz',by rw [hz]; exact hd⟩
theorem F9 (h : Rel A0 N w0 ρ σ a w) (T : TypeId) (parts : Array (Nat × Operand)) (h1 : (tzero P T).isSome = true) (h2 : tfld P T = true)
  (h3 : kv P T σ.m (parts.toList.map fun p=>(p.1,σ.ev p.2)) ((zrT P T).map .d)) :
  Yld P ρ σ (Sof A0 σ.B ρ σ.m w) a w ⟨dst,.build T parts,ty,pos,af,gd⟩ (.agg (lC P T (parts.toList.map fun p=>(p.1,σ.ev p.2)) ((zrT P T).map .d))):=by
 obtain ⟨inf,z,hi,hz,hzc⟩:=qv h1
 unfold tfld at h2
 split at h2
 ·rename_i fs hu
  obtain ⟨places,hp,hg⟩:=rr (P:=P) fs.toList (fun f hf=>by
   have:=Array.all_eq_true_iff_forall_mem.1 h2 f (by simpa using hf)
   simpa using this)
  have hpl : ∀ i o' sz,foff P T i = some (o',sz) -> (fun x=>places.toArray[x]?) i = some (o',sz):=by
   intro i o' sz ho
   unfold foff at ho
   rw [hu] at ho
   simp only at ho
   split at ho
   ·rename_i fd hfd
    split at ho
    ·rename_i inf' hinf
     split at ho
     ·cases ho
     ·cases ho
      simpa using hg i fd inf' (by simpa using hfd) hinf
    ·cases ho
   ·cases ho
  obtain ⟨cells,hf,hl⟩:=xF (ρ:=ρ) (S:=Sof A0 σ.B ρ σ.m w) (w:=w) (m:=σ.m) hpl (parts.toList.map fun p=>(p.1,σ.ev p.2)) (parts.map fun p=>(p.1,a.eval p.2)).toList ((zrT P T).map .d) z.cells
   (by simp) (fun j p q hp hq=>by
    simp only [List.getElem?_map,Array.toList_map] at hp hq
    cases hx : parts.toList[j]? with
    | none=>simp [hx] at hp
    | some x =>
      simp only [hx,Jg,Jx] at hp hq
      subst hp hq
      exact ⟨rfl,h.ev x.2⟩) (ey _ _ hzc) h3
  refine ⟨.agg cells,fun w' _=>?_,?_⟩
  ·have hb : P.built T (parts.map fun p=>(p.1,a.eval p.2)).toList = some cells:=by
    unfold Program.built
    simp only [hi,hu,hz,hp]
    exact hf
   simp only [execOp]
   rw [Jh,run_build w' T _ cells hb]
   rfl
  ·simp only [VR]
   exact ⟨cells.toList,by simp,hl⟩
 ·cases h2
end
end
section
open Go.RowKit
section
variable {P : Program} {E : Md} {A0 : Env} {N : Nat} {w0 : World} {ρ : Nat -> Option (Nat × Nat)} {σ : St} {a : Act} {w : World}
variable {S : Nat -> Prop} {dst : Option Tmp} {ty : TypeId} {pos : String} {af : Array Edge} {gd : Option (Nat × Bool)}
def effOp (E : FuncId -> Bool) (o : Oper) : Bool:=
 match o.op with
 | .call ⟨.value (.func f),_,_⟩=>E f
 | .call ⟨.value (.tmp _),_,_⟩=>true
 | .store .. | .call ⟨.builtin .append,_,_⟩=>true
 | _=>false
def Efs (P : Program) (E : Md) (A0 : Env) (N : Nat) (w0 : World) (a : Act) (w : World) (o : Oper) (σ' : St) : Prop:=
 ∃ val w' ρ',((execOp a.eval o).run P w = .ok (.value val) w' \/ ((execOp a.eval o).run P w = .ok .skip w' /\ val = undef)) /\ (effOp E o = false -> Ext w w') /\ Rel A0 N w0 ρ' σ' (a.put o.dst val) w'
def EfsK (P : Program) (E : Md) (A0 : Env) (N : Nat) (w0 : World) (a : Act) (w : World) (o : Oper) (σ' : St) (G : Nat -> Prop) : Prop:=
 ∃ val w' ρ', ((execOp a.eval o).run P w = .ok (.value val) w' ∨ ((execOp a.eval o).run P w = .ok .skip w' ∧ val = undef)) ∧ (effOp E o = false → Ext w w') ∧ Rel A0 N w0 ρ' σ' (a.put o.dst val) w' ∧
   ∀ g,g < w.heap.size -> G g -> w'.heap[g]? = w.heap[g]?
theorem EfsK.efs {P : Program} {E : Md} {o : Oper} {σ' : St} {G : Nat -> Prop} (h : EfsK P E A0 N w0 a w o σ' G) : Efs P E A0 N w0 a w o σ':=by
 obtain ⟨val,w',ρ',h1,h2,h3,_⟩:=h
 exact ⟨val,w',ρ',h1,h2,h3⟩
theorem Ext.alloc (w : World) (o : Obj) : Ext w (w.alloc o):=⟨by simp,fun g hg=>Below.heap_alloc w o g hg⟩
theorem Rel.new (h : Rel A0 N w0 ρ σ a w) (k : Nat) (hk : k < N) (b : Blk) (cap : Nat) {w' : World} (hbel : Below w.heap.size w w') (v : V) (val : Value)
  (hb : (∀ g,Sof A0 σ.B ρ σ.m w g -> Sof A0 σ.B (upd ρ k (some (w.heap.size,cap))) (σ.lay k b).m w' g) -> (∀ g,Sof A0 σ.B ρ σ.m w g -> w'.heap[g]? = w.heap[g]?) ->
   BlkR (Gk A0.G k) (Ak A0.A k) (upd ρ k (some (w.heap.size,cap))) (σ.lay k b).m (Sof A0 σ.B (upd ρ k (some (w.heap.size,cap))) (σ.lay k b).m w') σ.B w' (some (w.heap.size,cap)) (b.map (wipe k)))
  (hv : ∀ S,VR (upd ρ k (some (w.heap.size,cap))) (σ.lay k b).m S w' v val) :
  Rel A0 N w0 (upd ρ k (some (w.heap.size,cap))) ((σ.lay k b).put (some k) v) (a.put (some k) val) w':=by
 have h1 : Rel A0 N w0 (upd ρ k (some (w.heap.size,cap))) (σ.lay k b) a w':=by
  refine h.lay k (mf (by have:=h.hN.1; omega)) b _ (h.below.trans (.of (hbel.mono h.below.size))) hbel.size (fun g hg _=>hbel.block g hg) (fun p hp=>?_) hb
  cases hp
  exact .inl (Jv _)
 exact h1.put (some k) (fun t ht=>by cases ht; exact hk) (hv _)
theorem AW (k : Nat) (l : List D) : (l.map V.d).map (wipe k) = l.map V.d:=by
 simp [List.map_map,Function.comp_def,wipe]
theorem Eh (h : Rel A0 N w0 ρ σ a w) (T : TypeId) (k : Nat) (hk : k < N) (h1 : (tzero P T).isSome = true \/ zfn P T = true) :
  Efs P E A0 N w0 a w ⟨some k,.alloc T,ty,pos,af,gd⟩ ((σ.lay k (.box (zbx P T))).put (some k) (.ptr k 0 0)):=by
 by_cases h0 : (tzero P T).isSome = true
 case neg=>
  have h1:=h1.resolve_left h0
  unfold zfn at h1
  cases hi : P.info? T with
  | none=>simp [hi] at h1
  | some inf =>
    cases hz : inf.zero with
    | none=>simp [hi,hz] at h1
    | some z =>
      simp only [hi,hz,Option.bind_some,beq_iff_eq] at h1
      have hb : zbx P T = [.bad]:=by rw [zbx,if_neg h0]
      rw [hb]
      refine ⟨.pointer (some ⟨w.heap.size,0,none⟩),w.alloc (.cells z.cells T),_,.inl ?_,fun _=>Ext.alloc _ _,h.new k hk _ 0 ((Below.refl _ _).alloc (Jv _) _) _ _ (fun hS hw=>?_) (fun S=>?_)⟩
      ·simp [execOp,Instr.alloc,zeroValue,typeInfo,hi,hz,newVar,newRow,Jh,Qj,Result.andThen]
      ·refine ⟨w.heap.size,0,rfl,.inl (by rw [h.hB]; exact h.below.size),z.cells,T,heap_alloc_new w _,?_⟩
       have hl : z.cells.toList.length = 1:=by simpa using h1
       match z.cells.toList,hl with
       | [u],_=>simp [LR,VR,wipe]
      ·simp [VR,bC,Blk.map,upd]
 have hb : zbx P T = (zrT P T).map .d:=by rw [zbx,if_pos h0]
 rw [hb]
 obtain ⟨inf,z,hi,hz,hzc⟩:=qv h0
 refine ⟨.pointer (some ⟨w.heap.size,0,none⟩),w.alloc (.cells z.cells T),_,.inl ?_,fun _=>Ext.alloc _ _,h.new k hk _ 0 ((Below.refl _ _).alloc (Jv _) _) _ _ (fun hS hw=>?_) (fun S=>?_)⟩
 ·simp [execOp,Instr.alloc,zeroValue,typeInfo,hi,hz,newVar,newRow,Jh,Qj,Result.andThen]
 ·refine ⟨w.heap.size,0,rfl,.inl (by rw [h.hB]; exact h.below.size),z.cells,T,heap_alloc_new w _,?_⟩
  rw [AW]
  exact ey _ _ hzc
 ·simp [VR,bC,Blk.map,upd]
theorem JC (h : Rel A0 N w0 ρ σ a w) (T : TypeId) (x : Operand) (k : Nat) (hk : k < N) (h1 : dZ σ.m (σ.ev x)) :
  Efs P E A0 N w0 a w ⟨some k,.box T x,ty,pos,af,gd⟩ ((σ.lay k (.box (σ.ev x).cells)).put (some k) (.ptr k 0 0)):=by
 refine ⟨.pointer (some ⟨w.heap.size,0,none⟩),w.alloc (.cells (a.eval x).cells T),_,.inl ?_,fun _=>Ext.alloc _ _,h.new k hk _ 0 ((Below.refl _ _).alloc (Jv _) _) _ _ (fun hS hw=>?_) (fun S=>?_)⟩
 ·simp [execOp,Instr.box,newVar,newRow,Jh,Qj,Result.andThen]
 ·refine ⟨w.heap.size,0,rfl,.inl (by rw [h.hB]; exact h.below.size),_,T,heap_alloc_new w _,?_⟩
  rw [<- gD]
  exact LR.wipe k hS hw (fun j hj=>rR _ k j _ hj) _ _ (jJ (h.ev x) h1)
 ·simp [VR,bC,Blk.map,upd]
def Flat (S : Nat -> Prop) (w : World) (sz : Nat) (es : List (List D)) (xs : List Value) : Prop:=
 xs.length = es.length * sz /\ ∀ (i : Nat) (e : List D),es[i]? = some e -> e.length = sz /\ ∀ (j : Nat) (u : D),e[j]? = some u -> ∃ v,xs[i * sz + j]? = some v /\ DR S w u v
theorem Flat.mono {S S' : Nat -> Prop} {w w' : World} {sz : Nat} {es : List (List D)} {xs : List Value} (h : Flat S w sz es xs) (hS : ∀ g,S g -> S' g) (hw : ∀ g,S g -> w'.heap[g]? = w.heap[g]?) : Flat S' w' sz es xs:=
 ⟨h.1,fun i e he=>⟨(h.2 i e he).1,fun j u hu=>let ⟨v,h1,h2⟩:=(h.2 i e he).2 j u hu; ⟨v,h1,h2.mono hS hw⟩⟩⟩
theorem sq {i j n sz : Nat} (hi : i < n) (hj : j < sz) : i * sz + j < n * sz:=by
 have : (i + 1) * sz <= n * sz:=Zk _ hi
 rw [Nat.add_mul] at this
 omega
theorem Flat.append {S : Nat -> Prop} {w : World} {sz : Nat} {es es' : List (List D)} {xs xs' : List Value} (h : Flat S w sz es xs) (h' : Flat S w sz es' xs') : Flat S w sz (es ++ es') (xs ++ xs'):=by
 refine ⟨by simp [h.1,h'.1,Nat.add_mul],fun i e he=>?_⟩
 by_cases hi : i < es.length
 ·rw [List.getElem?_append_left hi] at he
  refine ⟨(h.2 i e he).1,fun j u hu=>?_⟩
  obtain ⟨v,h1,h2⟩:=(h.2 i e he).2 j u hu
  exact ⟨v,by rw [List.getElem?_append_left (Qx.1 h1).1]; exact h1,h2⟩
 ·rw [List.getElem?_append_right (by omega)] at he
  refine ⟨(h'.2 _ e he).1,fun j u hu=>?_⟩
  obtain ⟨v,h1,h2⟩:=(h'.2 _ e he).2 j u hu
  refine ⟨v,?_,h2⟩
  have hle : es.length * sz <= i * sz:=Zk _ (by omega)
  rw [List.getElem?_append_right (by rw [h.1]; omega),h.1]
  rw [Nat.sub_mul] at h1
  have : i * sz + j - es.length * sz = i * sz - es.length * sz + j:=by omega
  rw [this]; exact h1
theorem Flat.oneCell {S : Nat -> Prop} {w : World} {sz : Nat} {es : List (List D)} {xs : List Value} (h : Flat S w sz es xs) (hsz : 0 < sz) : ∀ v ∈ xs,v.oneCell' = true:=by
 intro v hv
 obtain ⟨n,hn⟩:=List.mem_iff_getElem?.1 hv
 have hlt:=(Qx.1 hn).1
 rw [h.1] at hlt
 have hd : n / sz < es.length:=by rw [Nat.div_lt_iff_lt_mul hsz]; exact hlt
 have he : es[n / sz]? = some es[n / sz]:=Jw hd
 obtain ⟨h1,h2⟩:=h.2 _ _ he
 have hm : n % sz < es[n / sz].length:=by rw [h1]; exact Nat.mod_lt _ hsz
 obtain ⟨v',h3,h4⟩:=h2 _ _ (Jw hm)
 have : n / sz * sz + n % sz = n:=Nat.div_add_mod' n sz
 rw [this,hn] at h3
 cases h3
 exact h4.oneCell
theorem Flat.blk {G1 A1 : Nat -> Prop} {ρ : Nat -> Option (Nat × Nat)} {m : Nat -> Option Blk} {S : Nat -> Prop} {B : Nat} {w : World} {T sz : Nat} {es : List (List D)} {g cap : Nat} {cur : Array Value}
  (hsz : 0 < sz) (hB : B <= g \/ (G1 g /\ A1 g)) (hc : cap <= maxLen) (hl : es.length <= cap) (hg : w.heap[g]? = some (.cells cur T (0,0))) (hcs : cur.size = cap * sz)
  (hf : Flat S w sz es (cur.toList.take (es.length * sz))) : BlkR G1 A1 ρ m S B w (some (g,cap)) (.row T sz es):=by
 refine ⟨hsz,hB,hc,hl,cur,hg,hcs,fun i e he=>⟨(hf.2 i e he).1,fun j u hu=>?_⟩⟩
 obtain ⟨v,h1,h2⟩:=(hf.2 i e he).2 j u hu
 rw [List.getElem?_take] at h1
 split at h1
 ·exact ⟨v,by simpa using h1,h2⟩
 ·cases h1
theorem Flat.of_blk {G1 A1 : Nat -> Prop} {ρ : Nat -> Option (Nat × Nat)} {m : Nat -> Option Blk} {S : Nat -> Prop} {B : Nat} {w : World} {T sz : Nat} {es : List (List D)} {g cap : Nat}
  (h : BlkR G1 A1 ρ m S B w (some (g,cap)) (.row T sz es)) : ∃ cur,w.heap[g]? = some (.cells cur T (0,0)) /\ cur.size = cap * sz /\ Flat S w sz es (cur.toList.take (es.length * sz)):=by
 obtain ⟨hsz,hB,hc,hl,cur,hg,hcs,hall⟩:=h
 refine ⟨cur,hg,hcs,?_,fun i e he=>⟨(hall i e he).1,fun j u hu=>?_⟩⟩
 ·have : es.length * sz <= cap * sz:=Zk _ hl
  simp; omega
 ·obtain ⟨v,h1,h2⟩:=(hall i e he).2 j u hu
  refine ⟨v,?_,h2⟩
  have hi:=(Qx.1 he).1
  have hj:=(Qx.1 hu).1
  rw [(hall i e he).1] at hj
  rw [List.getElem?_take,if_pos (sq hi hj)]
  simpa using h1
end
end
section
open Go.RowKit
section
variable {P : Program} {E : Md} {A0 : Env} {N : Nat} {w0 : World} {ρ : Nat -> Option (Nat × Nat)} {σ : St} {a : Act} {w : World}
variable {S : Nat -> Prop} {dst : Option Tmp} {ty : TypeId} {pos : String} {af : Array Edge} {gd : Option (Nat × Bool)}
theorem qb (h : Rel A0 N w0 ρ σ a w) {x : V} {v : Value} (hv : VR ρ σ.m (Sof A0 σ.B ρ σ.m w) w x v) (he : elOk σ.m x) {sz : Nat} (hpos : 0 < sz) (hsz : ∀ l ∈ elV σ.m x,l.length = sz) :
  ∃ (ad : Option Addr) (cap : Nat) (news : List Value), v = .slice ad (elV σ.m x).length cap ∧ Flat (Sof A0 σ.B ρ σ.m w) w sz (elV σ.m x) news ∧ (0 < (elV σ.m x).length → ad ≠ none) ∧
    ∀ p,ad = some p -> (0 < (elV σ.m x).length -> p.block < w.heap.size) /\ ∀ (j : Nat) (u : Value),news[j]? = some u -> w.cell? (p.add j) = some u:=by
 obtain ⟨ad,cap,sz',hval,hcap,hb,hne,hall⟩:=uX h hv he
 generalize elV σ.m x = es at *
 have hex : ∀ n,∃ v,n < es.length * sz -> ∃ p,ad = some p /\ w.cell? (p.add n) = some v /\ ∃ e u,es[n / sz]? = some e /\ e[n % sz]? = some u /\ DR (Sof A0 σ.B ρ σ.m w) w u v:=by
  intro n
  by_cases hn : n < es.length * sz
  ·have hd : n / sz < es.length:=by rw [Nat.div_lt_iff_lt_mul hpos]; exact hn
   have he' : es[n / sz]? = some es[n / sz]:=Jw hd
   have hl:=hsz _ (Qk he')
   obtain ⟨h1,h2⟩:=hall _ _ he'
   have hm : n % sz < es[n / sz].length:=by rw [hl]; exact Nat.mod_lt _ hpos
   obtain ⟨p,val,hp,hc,hd'⟩:=h2 _ _ (Jw hm)
   have hss : sz' = sz:=h1.symm.trans hl
   subst hss
   rw [Nat.div_add_mod'] at hc
   exact ⟨val,fun _=>⟨p,hp,hc,_,_,he',Jw hm,hd'⟩⟩
  ·exact ⟨undef,fun h=>absurd h hn⟩
 obtain ⟨f,hf⟩:=Classical.axiomOfChoice hex
 refine ⟨ad,cap,(List.range (es.length * sz)).map f,hval,⟨by simp,fun i e he=>⟨hsz e (Qk he),fun j u hu=>?_⟩⟩,hne,fun p hp=>⟨fun h0=>hb p hp (Xq h0 hcap),fun j u hu=>?_⟩⟩
 ·have hi:=(Qx.1 he).1
  have hj:=(Qx.1 hu).1
  rw [hsz e (Qk he)] at hj
  have hlt:=sq hi hj
  obtain ⟨p,hp,hc,e',u',he',hu',hd⟩:=hf _ hlt
  have e1 : (i * sz + j) / sz = i:=by
   rw [Nat.add_comm,Nat.add_mul_div_right _ _ hpos,Nat.div_eq_of_lt hj,Nat.zero_add]
  have e2 : (i * sz + j) % sz = j:=by
   rw [Nat.add_comm,Nat.add_mul_mod_self_right,Nat.mod_eq_of_lt hj]
  rw [e1,he] at he'
  cases he'
  rw [e2,hu] at hu'
  cases hu'
  exact ⟨_,by simp [hlt],hd⟩
 ·simp only [List.getElem?_map] at hu
  cases hr : (List.range (es.length * sz))[j]? with
  | none=>simp [hr] at hu
  | some n =>
    simp only [hr,Jg,Jx] at hu
    subst hu
    have hlt : j < es.length * sz:=by have:=(Qx.1 hr).1; simpa using this
    have hn : n = j:=by
     rw [List.getElem?_range hlt] at hr; exact (Option.some.inj hr).symm
    subst hn
    obtain ⟨p',hp',hc,_⟩:=hf _ hlt
    rw [hp] at hp'
    cases hp'
    exact hc
theorem jC {t e : TypeId} {i : TypeInfo} (ht : P.underlying t = some (.slice e)) (hi : P.info? e = some i) (b : Option Addr) (n c : Nat) (hnc : n <= c) (ad : Option Addr) (cap : Nat) (w : World) :
  (Builtin.append_ #[t,t] ty #[.slice b n c,.slice ad 0 cap]).run P w = .ok (.slice b n c) w:=by
 cases ad <;> cases b <;> simp [Builtin.append_,run_underlying ht,sizeOf,typeInfo,hi,Builtin.lenOf,Builtin.firstCells,hnc,storeCells,loadCells,loadCellsFrom]
theorem Bel.setRow {G : Nat -> Prop} {B g : Nat} {w : World} {cur new : Array Value} {T : TypeId} {f : Nat × Nat} (hg : w.heap[g]? = some (.cells cur T f)) (hn : new.size = cur.size) (hB : B <= g \/ G g) : Bel G B w (w.setRow g new):=by
 refine ⟨rfl,rfl,rfl,by simp [World.setRow],fun j hj hG=>setRow_other w g j _ (by rintro rfl; rcases hB with h | h; omega; exact hG h),fun j hj c T' f' hc=>?_⟩
 by_cases hjg : j = g
 ·subst hjg
  rw [hg] at hc
  cases hc
  exact ⟨new,setRow_heap w j cur _ T _ hg,hn⟩
 ·exact ⟨c,(setRow_other w g j _ hjg).trans hc,rfl⟩
theorem lA {key T sz : Nat} {es' : List (List D)} {r : Option (Nat × Nat)} {w' : World} {dk : Nat} {v' : Value} (h : Rel A0 N w0 ρ σ a w) (hdk : dk < N)
  (hk1 : ¬ Hk key) (hbel : Bel A0.G w0.heap.size w0 w') (hsz : w.heap.size <= w'.heap.size)
  (hsame : ∀ g,g < w.heap.size -> (∀ b0 p,σ.m key = some b0 -> ρ key = some p -> p.1 ≠ g) -> w'.heap[g]? = w.heap[g]?)
  (hr : ∀ p,r = some p -> w.heap.size <= p.1 \/ ∃ b0 p0,σ.m key = some b0 /\ ρ key = some p0 /\ p0.1 = p.1)
  (hb : ∀ S',(∀ g,Sof A0 σ.B ρ σ.m w g -> S' g) -> (∀ g,Sof A0 σ.B ρ σ.m w g -> w'.heap[g]? = w.heap[g]?) -> BlkR (Gk A0.G key) (Ak A0.A key) (upd ρ key r) (σ.lay key (.row T sz es')).m S' σ.B w' r (.row T sz es'))
  (hv : OwnV r sz 0 es'.length v') :
  Rel A0 N w0 (upd ρ key r) ((σ.lay key (.row T sz es')).put (some dk) (.own key 0 es'.length)) (a.put (some dk) v') w':=by
 have h1 : Rel A0 N w0 (upd ρ key r) (σ.lay key (.row T sz es')) a w':=h.lay key hk1 _ r hbel hsz hsame hr (fun hS hw=>hb _ hS hw)
 refine h1.put (some dk) (fun t ht=>by cases ht; exact hdk) ?_
 simp only [VR,bC,Blk.map]
 refine ⟨by omega,?_⟩
 simpa [upd] using hv
def GS (A0 : Env) (ρ : Nat -> Option (Nat × Nat)) (σ : St) (w : World) (key e sz : Nat) (es : List (List D)) (v : Value) (m : Nat) : Prop:=
 (v = .slice none 0 0 /\ es = []) \/ (∃ q,v = .slice (some q) 0 0 /\ es = [] /\ 0 < m) \/ ∃ g cap0 cur,σ.m key = some (.row e sz es) /\ ρ key = some (g,cap0) /\ v = .slice (some ⟨g,0,none⟩) es.length cap0 /\
  (σ.B <= g \/ (Gk A0.G key g /\ Ak A0.A key g)) /\ cap0 <= maxLen /\ es.length <= cap0 /\ w.heap[g]? = some (.cells cur e (0,0)) /\ cur.size = cap0 * sz /\ Flat (Sof A0 σ.B ρ σ.m w) w sz es (cur.toList.take (es.length * sz))
theorem nL (h : Rel A0 N w0 ρ σ a w) (s x : Operand) (t dk : Nat) (hdk : dk < N) {e : TypeId} {inf : TypeInfo} {z : Value} (hu : P.underlying t = some (.slice e)) (hi : P.info? e = some inf) (hz : inf.zero = some z) (hzs : z.cells.size = inf.size) (hpos : 0 < inf.size)
  {key : Nat} (hk1 : ¬ Hk key) {es xs : List (List D)} {ad : Option Addr} {cap : Nat} {news : List Value} (hxv : a.eval x = .slice ad xs.length cap) (hflat : Flat (Sof A0 σ.B ρ σ.m w) w inf.size xs news)
  (hne : 0 < xs.length -> ad ≠ none) (hnews : ∀ p,ad = some p -> (0 < xs.length -> p.block < w.heap.size) /\ ∀ (j : Nat) (u : Value),news[j]? = some u -> w.cell? (p.add j) = some u) (hb : GS A0 ρ σ w key e inf.size es (a.eval s) xs.length)
  (hby : (es.length + xs.length) * inf.bytes <= 140737488355328) (hmax : es.length + xs.length <= maxLen) :
  EfsK P E A0 N w0 a w ⟨some dk,.call ⟨.builtin .append,#[s,x],#[t,t]⟩,ty,pos,af,gd⟩
   ((σ.lay key (.row e inf.size (es ++ xs))).put (some dk) (.own key 0 (es ++ xs).length)) (fun g=>∀ b0 p,σ.m key = some b0 -> ρ key = some p -> p.1 ≠ g):=by
 have h63 : es.length + xs.length <= 9223372036854775807:=by simpa [maxLen] using hmax
 have run_of : ∀ {v' : Value} {w' : World},(Builtin.append_ #[t,t] ty #[a.eval s,a.eval x]).run P w = .ok v' w' ->
   (execOp a.eval ⟨some dk,.call ⟨.builtin .append,#[s,x],#[t,t]⟩,ty,pos,af,gd⟩).run P w = .ok (.value v') w':=by
  intro v' w' hr
  simp [execOp,resolve,invoke,builtin,hr,Jh,Qj,Result.andThen]
 have hlenX : news.length = xs.length * inf.size:=hflat.1
 have hBsz : σ.B <= w.heap.size:=by rw [h.hB]; exact h.below.size
 have hlt_of : ∀ (g : Nat) (o : Obj),w.heap[g]? = some o -> g < w.heap.size:=fun g o hg=>(Qh.1 hg).1
 have newrow : ∀ (olds : List Value) (old : Nat),old < es.length + xs.length -> Flat (Sof A0 σ.B ρ σ.m w) w inf.size es olds ->
   Rel A0 N w0 (upd ρ key (some (w.heap.size,grownCap w (es.length + xs.length) old e))) ((σ.lay key (.row e inf.size (es ++ xs))).put (some dk) (.own key 0 (es ++ xs).length))
    (a.put (some dk) (.slice (some ⟨w.heap.size,0,none⟩) (es.length + xs.length) (grownCap w (es.length + xs.length) old e)))
    (w.drew.alloc (.cells (olds.toArray ++ news.toArray ++ Builtin.zeroCells z.cells (grownCap w (es.length + xs.length) old e - (es.length + xs.length))) e)):=by
  intro olds old hold hfo
  have hge:=grownCap_ge w (es.length + xs.length) old e
  have hcm:=grownCap_le_maxLen w (es.length + xs.length) old e hmax
  have hbel : Below w.heap.size w (w.drew.alloc (.cells (olds.toArray ++ news.toArray ++ Builtin.zeroCells z.cells (grownCap w (es.length + xs.length) old e - (es.length + xs.length))) e)):=
   ((Below.refl _ _).drew).alloc (Jv _) _
  have hlo : olds.length = es.length * inf.size:=hfo.1
  refine lA h hdk hk1 (h.below.trans (.of (hbel.mono h.below.size))) hbel.size (fun g hg _=>hbel.block g hg) (fun p hp=>by cases hp; exact .inl (Jv _)) (fun S' hS hw=>?_) ?_
  ·refine Flat.blk hpos (.inl hBsz) hcm (by simpa using hge) (heap_alloc_new w.drew _) ?_ ?_
   ·simp only [Array.size_append,List.size_toArray,size_zeroCells,hzs,hlo,hlenX,<- Nat.add_mul]
    congr 1; omega
   ·have : (olds.toArray ++ news.toArray ++ Builtin.zeroCells z.cells (grownCap w (es.length + xs.length) old e - (es.length + xs.length))).toList.take ((es ++ xs).length * inf.size) = olds ++ news:=by
     simp only [Array.toList_append,List.append_assoc]
     rw [<- List.append_assoc]
     have hl2 : (es ++ xs).length * inf.size = (olds ++ news).length:=by simp [hlo,hlenX,Nat.add_mul]
     rw [hl2]
     exact List.take_left
    rw [this]
    exact (hfo.append hflat).mono hS hw
  ·refine ⟨_,_,?_,rfl,by simpa using hge,hcm,fun _=>⟨rfl,rfl⟩,fun _=>by simp⟩
   simp
 have same : ∀ (r : Option (Nat × Nat)) (v' : Value),xs = [] -> (∀ p,r = some p -> ∃ b0,σ.m key = some b0 /\ ρ key = some p) ->
   (∀ S',(∀ g,Sof A0 σ.B ρ σ.m w g -> S' g) -> BlkR (Gk A0.G key) (Ak A0.A key) (upd ρ key r) (σ.lay key (.row e inf.size (es ++ xs))).m S' σ.B w r (.row e inf.size (es ++ xs))) -> OwnV r inf.size 0 (es ++ xs).length v' ->
   Rel A0 N w0 (upd ρ key r) ((σ.lay key (.row e inf.size (es ++ xs))).put (some dk) (.own key 0 (es ++ xs).length)) (a.put (some dk) v') w:=by
  intro r v' _ hr hbk hv
  refine lA h hdk hk1 h.below (Jv _) (fun _ _ _=>rfl) (fun p hp=>?_) (fun S' hS _=>hbk S' hS) hv
  obtain ⟨b0,h1,h2⟩:=hr p hp
  exact .inr ⟨b0,p,h1,h2,rfl⟩
 rcases hb with ⟨hv,rfl⟩ | ⟨q,hv,rfl,hm0⟩ | ⟨g,cap0,cur,hm,hρ,hv,hB,hcm,hnc,hg,hcs,hf⟩
 ·by_cases hm0 : xs.length = 0
  ·have hx0 : xs = []:=List.eq_nil_of_length_eq_zero hm0
   refine ⟨.slice none 0 0,w,_,.inl (run_of ?_),fun hE=>(by simp [effOp] at hE),same none _ hx0 (by simp) (fun S' _=>?_) ?_,fun _ _ _=>rfl⟩
   ·rw [hv,hxv,hm0]
    exact jC hu hi none 0 0 (Jv _) ad cap w
   ·subst hx0; exact ⟨hpos,rfl⟩
   ·subst hx0; exact ⟨rfl,rfl,rfl⟩
  ·have hadne:=hne (by omega)
   cases ad with
   | none=>exact absurd rfl hadne
   | some p =>
     obtain ⟨hp,hnw⟩:=hnews p rfl
     have hr:=run_append_nil (P:=P) w t ty e inf z hu hi hz p xs.length cap news hlenX hnw (by omega) (by omega) (by simp at hby; omega)
     have hn:=newrow [] 0 (by simp; omega) ⟨by simp,by simp⟩
     simp only [List.nil_append,List.length_nil,Nat.zero_add,Array.empty_append] at hn ⊢
     exact ⟨_,_,_,.inl (run_of (by rw [hv,hxv]; exact hr)),fun hE=>(by simp [effOp] at hE),hn,fun g hg _=>((Below.refl _ _).drew.alloc (Jv _) _ : Below w.heap.size w _).block g hg⟩
 ·have hadne:=hne hm0
  cases ad with
  | none=>exact absurd rfl hadne
  | some p =>
    obtain ⟨hp,hnw⟩:=hnews p rfl
    have hr:=run_append_grow (P:=P) w t ty e inf z hu hi hz q 0 0 [] (by simp) (fun j u hj=>by simp at hj) p xs.length cap news hlenX hnw (by omega) (by omega) (growslice_fits (by omega) (by simpa using hby))
    have hn:=newrow [] 0 (by simp; omega) ⟨by simp,by simp⟩
    simp only [List.nil_append,List.length_nil,Nat.zero_add,Array.empty_append] at hn hr ⊢
    exact ⟨_,_,_,.inl (run_of (by rw [hv,hxv]; exact hr)),fun hE=>(by simp [effOp] at hE),hn,fun g hg _=>((Below.refl _ _).drew.alloc (Jv _) _ : Below w.heap.size w _).block g hg⟩
 ·by_cases hm0 : xs.length = 0
  ·have hx0 : xs = []:=List.eq_nil_of_length_eq_zero hm0
   refine ⟨a.eval s,w,_,.inl (run_of ?_),fun hE=>(by simp [effOp] at hE),same (some (g,cap0)) _ hx0 (fun p hp=>by cases hp; exact ⟨_,hm,hρ⟩) (fun S' hS=>?_) ?_,fun _ _ _=>rfl⟩
   ·rw [hv,hxv,hm0]
    exact jC hu hi _ _ _ hnc ad cap w
   ·subst hx0
    simp only [List.append_nil]
    exact Flat.blk hpos hB hcm hnc hg hcs (hf.mono hS (fun _ _=>rfl))
   ·subst hx0
    rw [hv]
    exact ⟨_,_,by simp,rfl,by simpa using hnc,hcm,fun _=>⟨rfl,rfl⟩,fun _=>by simp⟩
  ·have hadne:=hne (by omega)
   cases ad with
   | none=>exact absurd rfl hadne
   | some p =>
     obtain ⟨hp,hnw⟩:=hnews p rfl
     by_cases hroom : es.length + xs.length <= cap0
     ·have hfit : es.length * inf.size + news.length <= cur.size:=by rw [hlenX,hcs,<- Nat.add_mul]; exact Zk _ hroom
      have hr:=run_append_room (P:=P) w t ty e inf hu hi g es.length cap0 cur hg p xs.length cap news hlenX hnw (hflat.oneCell hpos) hroom hfit
      have hbel : Bel A0.G w0.heap.size w (w.setRow g (cur.toList.take (es.length * inf.size) ++ news ++ cur.toList.drop (es.length * inf.size + news.length)).toArray):=
       Bel.setRow hg (by simp only [List.size_toArray,Qw,Zq,List.length_drop,Array.length_toList]; omega) (by rw [h.hB] at hB; exact hB.imp id fun h=>h.1.2)
      refine ⟨_,_,upd ρ key (some (g,cap0)),.inl (run_of (by rw [hv,hxv]; exact hr)),fun hE=>(by simp [effOp] at hE),lA h hdk hk1 (h.below.trans hbel) (by simp [World.setRow]) (fun g' hg' hno=>setRow_other w g g' _ (fun heq=>hno _ _ hm hρ heq.symm)) (fun q hq=>by cases hq; exact .inr ⟨_,_,hm,hρ,rfl⟩) (fun S' hS hw=>?_) ?_,fun g' hg' hno=>setRow_other w g g' _ (fun heq=>hno _ _ hm hρ heq.symm)⟩
      ·refine Flat.blk hpos hB hcm (by simpa using hroom) (setRow_heap w g cur _ e _ hg) ?_ ?_
       ·simp only [List.size_toArray,Qw,Zq,List.length_drop,Array.length_toList]
        omega
       ·have hl2 : (es ++ xs).length * inf.size = (cur.toList.take (es.length * inf.size) ++ news).length:=by
         simp only [Qw,Zq,Array.length_toList,hlenX,Nat.add_mul]
         omega
        rw [hl2]
        simp only
        rw [List.take_left]
        exact (hf.append hflat).mono hS hw
      ·exact ⟨_,_,by simp,rfl,by simpa using hroom,hcm,fun _=>⟨rfl,rfl⟩,fun _=>by simp⟩
     ·have holds : ∀ (j : Nat) (u : Value),(cur.toList.take (es.length * inf.size))[j]? = some u -> w.cell? ((⟨g,0,none⟩ : Addr).add j) = some u:=by
       intro j u hj
       rw [List.getElem?_take] at hj
       split at hj
       ·rw [bS,db hg]; simpa using hj
       ·cases hj
      have hr:=run_append_grow (P:=P) w t ty e inf z hu hi hz ⟨g,0,none⟩ es.length cap0 (cur.toList.take (es.length * inf.size)) hf.1 holds p xs.length cap news hlenX hnw (by omega) (by omega) (growslice_fits (by omega) hby)
      exact ⟨_,_,_,.inl (run_of (by rw [hv,hxv]; exact hr)),fun hE=>(by simp [effOp] at hE),newrow _ cap0 (by omega) hf,fun g hg _=>((Below.refl _ _).drew.alloc (Jv _) _ : Below w.heap.size w _).block g hg⟩
theorem iP (h : Rel A0 N w0 ρ σ a w) (s x : Operand) (t dk : Nat) (hdk : dk < N) (ht : (tslice P t).isSome = true) (he : elOk σ.m (σ.ev x)) (hl : ∀ l ∈ elV σ.m (σ.ev x),l.length = (slT P t).2.1)
  {key : Nat} {es : List (List D)} (hbase : (key = dk /\ es = [] /\ σ.ev s = .d (.sl none none [])) \/ (key = dk /\ es = [] /\ (∃ T,σ.ev s = .d (.sl none (some T) [])) /\ 0 < (elV σ.m (σ.ev x)).length) \/ (σ.ev s = .own key 0 es.length /\ σ.m key = some (.row (slT P t).1 (slT P t).2.1 es)))
  (hroom : LenOk (slT P t).2.2 (es.length + (elV σ.m (σ.ev x)).length)) :
  EfsK P E A0 N w0 a w ⟨some dk,.call ⟨.builtin .append,#[s,x],#[t,t]⟩,ty,pos,af,gd⟩
   ((σ.lay key (.row (slT P t).1 (slT P t).2.1 (es ++ elV σ.m (σ.ev x)))).put (some dk) (.own key 0 (es ++ elV σ.m (σ.ev x)).length)) (fun g=>∀ b0 p,σ.m key = some b0 -> ρ key = some p -> p.1 ≠ g):=by
 obtain ⟨e,inf,z,hu,hi,hz,hzs,hpos,hsl⟩:=dh ht
 simp only [hsl] at hl hbase hroom ⊢
 obtain ⟨ad,cap,news,hxv,hflat,hne,hnews⟩:=qb h (h.ev x) he hpos hl
 generalize hxs : elV σ.m (σ.ev x) = xs at *
 obtain ⟨hby,hmax⟩:=hroom
 have hk1 : ¬ Hk key:=by
  rcases hbase with ⟨hk,_⟩ | ⟨hk,_⟩ | ⟨_,hm⟩
  ·exact mf (by have:=h.hN.1; omega)
  ·exact mf (by have:=h.hN.1; omega)
  ·intro hk; have:=h.norow _ hk; rw [hm] at this; cases this
 refine nL h s x t dk hdk hu hi hz hzs hpos hk1 hxv hflat hne hnews ?_ hby hmax
 rcases hbase with ⟨hk,hes,hs⟩ | ⟨hk,hes,⟨T,hs⟩,hx0⟩ | ⟨hs,hm⟩
 ·have hv:=h.ev s
  rw [hs] at hv
  simp only [VR] at hv
  generalize a.eval s = vs at hv
  cases hv
  exact .inl ⟨rfl,hes⟩
 ·have hv:=h.ev s
  rw [hs] at hv
  simp only [VR] at hv
  generalize a.eval s = vs at hv
  cases hv with
  | nil=>exact .inl ⟨rfl,hes⟩
  | emp t a =>
    cases a with
    | none=>exact .inl ⟨rfl,hes⟩
    | some q=>exact .inr (.inl ⟨q,rfl,hes,hx0⟩)
 ·have hv:=h.ev s
  rw [hs] at hv
  simp only [VR,hm] at hv
  obtain ⟨_,hv⟩:=hv
  have hbk:=h.mem key _ hm
  cases hr : ρ key with
  | none =>
    rw [hr] at hv hbk
    exact .inl ⟨hv.1,hbk.2⟩
  | some p =>
    obtain ⟨g,cap0⟩:=p
    rw [hr] at hv hbk
    obtain ⟨ad',c,hval,hab,hnc,hcm,hz',hp⟩:=hv
    obtain ⟨rfl,rfl⟩:=hz' rfl
    obtain ⟨cur,hg,hcs,hf⟩:=Flat.of_blk hbk
    exact .inr (.inr ⟨g,c,cur,hm,hr,hval,hbk.2.1,hcm,hnc,hg,hcs,hf⟩)
end
end
section
open Go.RowKit
theorem fZ {φ : Nat -> Option D} : ∀ {l l' : List D},reL φ l = some l' -> l'.length = l.length /\ ∀ (i : Nat) (y : D),l'[i]? = some y -> ∃ x,l[i]? = some x /\ reD φ x = some y
 | [],l',h=>by simp only [reL,Jx] at h; subst h; simp
 | x :: r, l', h => by
   simp only [reL] at h
   cases hx : reD φ x with
   | none=>simp [hx] at h
   | some y =>
     cases hr : reL φ r with
     | none=>simp [hx,hr] at h
     | some l =>
       simp only [hx,hr,Jx] at h
       subst h
       obtain ⟨h1,h2⟩:=fZ hr
       refine ⟨by simp [h1],fun i z hi=>?_⟩
       cases i with
       | zero=>simp only [List.getElem?_cons_zero,Jx] at hi; subst hi; exact ⟨x,rfl,hx⟩
       | succ i=>simpa using h2 i z (by simpa using hi)
theorem gQ {φ : Nat -> Option D} : ∀ {l l' : List (List D)},reLL φ l = some l' -> l'.length = l.length /\ ∀ (i : Nat) (y : List D),l'[i]? = some y -> ∃ x,l[i]? = some x /\ reL φ x = some y
 | [],l',h=>by simp only [reLL,Jx] at h; subst h; simp
 | x :: r, l', h => by
   simp only [reLL] at h
   cases hx : reL φ x with
   | none=>simp [hx] at h
   | some y =>
     cases hr : reLL φ r with
     | none=>simp [hx,hr] at h
     | some l =>
       simp only [hx,hr,Jx] at h
       subst h
       obtain ⟨h1,h2⟩:=gQ hr
       refine ⟨by simp [h1],fun i z hi=>?_⟩
       cases i with
       | zero=>simp only [List.getElem?_cons_zero,Jx] at hi; subst hi; exact ⟨x,rfl,hx⟩
       | succ i=>simpa using h2 i z (by simpa using hi)
theorem CG {φ : Nat -> Option D} {x y : D} (h : reD φ x = some y) : y.hp = true -> x.hp = true:=by
 intro hy
 cases x with
 | sl id T es =>
   cases id with
   | none =>
     simp only [reD] at h
     cases hr : reLL φ es with
     | none=>simp [hr] at h
     | some ys=>simp only [hr,Jg,Jx] at h; subst h; cases hy
   | some g =>
     simp only [reD] at h
     split at h
     ·split at h
      ·cases h; cases hy
      ·cases h
     ·cases h
     ·cases hr : reLL φ es with
      | none=>simp [hr] at h
      | some ys=>simp only [hr,Jg,Jx] at h; subst h; cases hy
 | pl es=>rfl
 | _=>simp only [reD,Jx] at h; subst h; exact hy
theorem E1 {φ : Nat -> Option D} {l l' : List (List D)} (h : reLL φ l = some l') (hl : hpLL l = false) : hpLL l' = false:=by
 obtain ⟨_,h2⟩:=gQ h
 simp only [hpLL,hpL,List.any_eq_false,List.mem_iff_getElem?,Bool.not_eq_true] at *
 rintro e ⟨i,hi⟩ u ⟨j,hj⟩
 obtain ⟨e0,h3,h4⟩:=h2 i e hi
 obtain ⟨u0,h5,h6⟩:=(fZ h4).2 j u hj
 have:=hl e0 ⟨i,h3⟩ u0 ⟨j,h5⟩
 cases hu : u.hp with
 | false=>rfl
 | true=>rw [CG h6 hu] at this; cases this
def Shp (w w' : World) : Prop:=∀ (g : Nat) cur T f,w.heap[g]? = some (.cells cur T f) -> ∃ cur',w'.heap[g]? = some (.cells cur' T f) /\ cur'.size = cur.size
section
variable {φ : Nat -> Option D} {S S' : Nat -> Prop} {w w' : World}
theorem wD (hS : ∀ g,S g -> φ g = none -> S' g) (hw : ∀ g,S g -> φ g = none -> w'.heap[g]? = w.heap[g]?) (hsh : Shp w w')
  (hgood : ∀ g T es,φ g = some (.sl (some g) (some T) es) -> ∃ v',DR S' w' (.sl (some g) (some T) es) v') : ∀ {x : D} {v : Value},DR S w x v -> ∀ y,reD φ x = some y -> DR S' w' y v:=by
 intro x v h
 induction h with
 | bool b=>intro y hy; simp only [reD,Jx] at hy; subst hy; exact .bool _
 | int k n=>intro y hy; simp only [reD,Jx] at hy; subst hy; exact .int _ _
 | str s=>intro y hy; simp only [reD,Jx] at hy; subst hy; exact .str _
 | nil T=>intro y hy; simp only [reD,reLL,Jg,Jx] at hy; subst hy; exact .nil _
 | emp t a=>intro y hy; simp only [reD,reLL,Jg,Jx] at hy; subst hy; exact .emp t a
 | pl es a cap sz vs hg hn hcap hm hsz hc hd ih =>
   intro y hy
   simp only [reD] at hy
   split at hy
   ·rename_i hno
    have hno : ∀ g,φ g = none:=by simpa [nowr] using hno
    cases hy
    exact (DR.pl es a cap sz vs hg hn hcap hm hsz hc hd).mono (fun g hg=>hS g hg (hno g)) (fun g hg=>hw g hg (hno g))
   ·cases hy
 | sl g T es a cap sz vs hSg hab hcap hm hsz hc hd hwh hh ih =>
   intro y hy
   simp only [reD] at hy
   cases hφ : φ g with
   | none =>
     simp only [hφ] at hy
     cases hr : reLL φ es with
     | none=>simp [hr] at hy
     | some ys =>
       simp only [hr,Jg,Jx] at hy
       subst hy
       obtain ⟨hl,hg⟩:=gQ hr
       have hblk:=hw g hSg hφ
       have:=DR.sl (S:=S') (w:=w') g T ys a cap sz vs (hS g hSg hφ) hab (by omega) hm
        (fun i e he=>by obtain ⟨e0,h0,h1⟩:=hg i e he; rw [(fZ h1).1]; exact hsz i e0 h0)
        (fun i e he j u hu=>by
         obtain ⟨e0,h0,h1⟩:=hg i e he
         obtain ⟨u0,h2,h3⟩:=(fZ h1).2 j u hu
         have hpos : 0 < cap:=by have:=(Qx.1 h0).1; omega
         rw [World.cell?_of_block (w:=w) (by rw [ct,hab hpos]; exact hblk)]
         exact hc i e0 h0 j u0 h2)
        (fun i e he j u hu=>by
         obtain ⟨e0,h0,h1⟩:=hg i e he
         obtain ⟨u0,h2,h3⟩:=(fZ h1).2 j u hu
         exact ih i e0 h0 j u0 h2 u h3)
        (fun t ht=>by obtain ⟨h1,h2,cur,h3,h4⟩:=hwh t ht; exact ⟨h1,h2,cur,hblk.trans h3,h4⟩) (E1 hr hh)
       rw [hl] at this
       exact this
   | some d =>
     simp only [hφ] at hy
     cases d with
     | sl id' T' es' =>
       cases id' with
       | none=>simp at hy
       | some g' =>
         simp only at hy
         split at hy
         ·rename_i hcond
          obtain ⟨rfl,hT,rfl,hlen⟩:=hcond
          cases hy
          obtain ⟨t,ht⟩:=Zx.1 hT
          subst ht
          obtain ⟨h1,h2,cur,h3,h4⟩:=hwh t rfl
          subst h1
          obtain ⟨v',hv'⟩:=hgood g' t es' hφ
          have hl : es'.length = es.length:=by have:=congrArg List.length hlen; simpa using this
          obtain ⟨cur',h5,h6⟩:=hsh _ _ _ _ h3
          cases hv' with
          | sl _ _ _ a' cap' sz' vs' hS2 hab2 hcap2 hm2 hsz2 hc2 hd2 hw2 hh2 =>
            obtain ⟨k1,k2,cur2,k3,k4⟩:=hw2 t rfl
            subst k1
            rw [h5] at k3
            cases k3
            by_cases he : es = []
            ·have he' : es' = []:=by subst he; simpa using hl
             subst he he'
             exact DR.sl g' (some t) [] ⟨g',0,none⟩ cap sz vs hS2 (fun _=>rfl) (by simp) hm (by simp) (by simp) (by simp) (fun t' ht'=>by cases ht'; exact ⟨rfl,h2,cur',h5,by rw [h6]; exact h4⟩) rfl
            ·have hsz3 : sz = sz':=by
              cases hes : es with
              | nil=>exact absurd hes he
              | cons e r =>
                cases hes' : es' with
                | nil=>rw [hes,hes'] at hl; simp at hl
                | cons e' r' =>
                  have:=hlen
                  rw [hes,hes'] at this
                  simp only [Qz,List.cons.injEq] at this
                  rw [<- hsz 0 e (by rw [hes]; rfl),<- hsz2 0 e' (by rw [hes']; rfl)]
                  exact this.1.symm
             subst hsz3
             have hcc : cap = cap':=by
              have : cap * sz = cap' * sz:=by rw [<- h4,<- h6,k4]
              exact Nat.eq_of_mul_eq_mul_right h2.1 this
             subst hcc
             have:=DR.sl (S:=S') (w:=w') g' (some t) es' ⟨g',0,none⟩ cap sz vs' hS2 hab2 hcap2 hm2 hsz2 hc2 hd2 hw2 hh2
             rw [hl] at this
             exact this
         ·cases hy
     | _=>simp at hy
variable {ρ : Nat -> Option (Nat × Nat)} {m m' : Nat -> Option Blk}
theorem E0 {x y : D} (h : reD φ x = some y) : (lstD y).map List.length = (lstD x).map List.length:=by
 cases x with
 | pl es =>
   simp only [reD] at h
   split at h
   ·cases h; rfl
   ·cases h
 | sl id T es =>
   have key : ∀ ys,reLL φ es = some ys -> ys.map List.length = es.map List.length:=by
    intro ys hr
    obtain ⟨h1,h2⟩:=gQ hr
    apply List.ext_getElem?
    intro i
    simp only [List.getElem?_map]
    cases hi : ys[i]? with
    | none =>
      have : ys.length <= i:=List.getElem?_eq_none_iff.1 hi
      rw [List.getElem?_eq_none (by omega)]
    | some e =>
      obtain ⟨e0,h3,h4⟩:=h2 i e hi
      rw [h3]
      simp [(fZ h4).1]
   cases id with
   | none =>
     simp only [reD] at h
     cases hr : reLL φ es with
     | none=>simp [hr] at h
     | some ys=>simp only [hr,Jg,Jx] at h; subst h; exact key ys hr
   | some g =>
     simp only [reD] at h
     split at h
     ·split at h
      ·rename_i hc; cases h; exact hc.2.2.2
      ·cases h
     ·cases h
     ·cases hr : reLL φ es with
      | none=>simp [hr] at h
      | some ys=>simp only [hr,Jg,Jx] at h; subst h; exact key ys hr
 | _=>simp only [reD,Jx] at h; subst h; rfl
mutual
theorem CJ (hS : ∀ g,S g -> φ g = none -> S' g) (hw : ∀ g,S g -> φ g = none -> w'.heap[g]? = w.heap[g]?) (hsh : Shp w w')
  (hgood : ∀ g T es,φ g = some (.sl (some g) (some T) es) -> ∃ v',DR S' w' (.sl (some g) (some T) es) v') (hk : ∀ k,KC ρ m ρ m' k) : ∀ (v : V) (val : Value),VR ρ m S w v val -> VR ρ m' S' w' (reV φ v) val
 | .d x, val, h => by
   simp only [VR,reV] at h ⊢
   cases hx : reD φ x with
   | none=>simp only [VR]
   | some y=>simp only [VR]; exact wD hS hw hsh hgood h y hx
 | .own j lo n,val,h=>ly (hk j) h
 | .ptr j i off,val,h=>lz (hk j) h
 | .fptr x i off, val, h => by
   simp only [VR,reV] at h ⊢
   obtain ⟨a,n,c,sz,h1,h2,h3,h4⟩:=h
   cases hx : reD φ x with
   | none=>simp only [VR]
   | some y =>
     simp only [VR]
     have hl:=E0 hx
     refine ⟨a,n,c,sz,wD hS hw hsh hgood h1 y hx,fun e he=>?_,by have:=congrArg List.length hl; simp at this; omega,h4⟩
     have : e.length ∈ (lstD y).map List.length:=List.mem_map_of_mem he
     rw [hl,Xz] at this
     obtain ⟨e0,h5,h6⟩:=this
     rw [<- h6]; exact h2 e0 h5
 | .bad,val,h=>by simp [VR,reV]
 | .agg cs, val, h => by
   simp only [VR,reV] at h ⊢
   obtain ⟨l,h1,h2⟩:=h
   exact ⟨l,h1,mC hS hw hsh hgood hk cs l h2⟩
 | .tup vs, val, h => by
   simp only [VR,reV] at h ⊢
   obtain ⟨l,h1,h2⟩:=h
   exact ⟨l,h1,mC hS hw hsh hgood hk vs l h2⟩
 | .fn ff vs, val, h => by
   simp only [VR,reV] at h ⊢
   obtain ⟨l,h1,h2⟩:=h
   exact ⟨l,h1,mC hS hw hsh hgood hk vs l h2⟩
theorem mC (hS : ∀ g,S g -> φ g = none -> S' g) (hw : ∀ g,S g -> φ g = none -> w'.heap[g]? = w.heap[g]?) (hsh : Shp w w')
  (hgood : ∀ g T es,φ g = some (.sl (some g) (some T) es) -> ∃ v',DR S' w' (.sl (some g) (some T) es) v') (hk : ∀ k,KC ρ m ρ m' k) : ∀ (l : List V) (vals : List Value),LR ρ m S w l vals -> LR ρ m' S' w' (reVL φ l) vals
 | [],[],_=>by simp [LR,reVL]
 | [],_ :: _,h=>by simp [LR] at h
 | _ :: _,[],h=>by simp [LR] at h
 | c :: cs, v :: l, h => by
   simp only [LR,reVL] at h ⊢
   exact ⟨CJ hS hw hsh hgood hk c v h.1,mC hS hw hsh hgood hk cs l h.2⟩
end
end
section
variable {P : Program} {E : Md} {A0 : Env} {N : Nat} {w0 : World} {ρ : Nat -> Option (Nat × Nat)} {σ : St} {a : Act} {w : World}
theorem Jo (φ : Nat -> Option D) (k : Nat) : KC ρ σ.m ρ (σ.re φ).m k:=by
 unfold KC
 simp only [St.re,reM]
 cases hm : σ.m k with
 | none=>trivial
 | some b0 =>
   cases b0 with
   | box cs=>exact ⟨trivial,cs,rfl⟩
   | row T sz es =>
     simp only [Option.bind_some,Blk.re]
     cases hr : reLL φ es with
     | none=>trivial
     | some ys=>simp only [Jg]; exact ⟨trivial,T,es,rfl,Nat.le_of_eq (gQ hr).1.symm⟩
theorem gA {φ : Nat -> Option D} {k : Nat} {b : Blk} (h : (σ.re φ).m k = some b) : ∃ b0,σ.m k = some b0 /\ Blk.re φ b0 = some b:=by
 simp only [St.re,reM] at h
 cases hm : σ.m k with
 | none=>simp [hm] at h
 | some b0=>rw [hm] at h; exact ⟨b0,rfl,h⟩
theorem Rel.reX (h : Rel A0 N w0 ρ σ a w) (φ : Nat -> Option D) (kx : Option Nat) (m' : Nat -> Option Blk) {w' : World} {hs' : Nat} (hbel : Bel A0.G w0.heap.size w0 w') (hsz : w.heap.size <= w'.heap.size) (hh1 : hs' <= w'.heap.size) (hh2 : σ.hs <= hs')
  (hm' : ∀ j,kx ≠ some j -> m' j = (σ.re φ).m j)
  (hkx : ∀ k,kx = some k -> ∃ cs0 cs',σ.m k = some (.box cs0) /\ m' k = some (.box cs') /\ BlkR (Gk A0.G k) (Ak A0.A k) ρ m' (Sof A0 σ.B ρ m' w') σ.B w' (ρ k) (.box cs'))
  (hsame : ∀ g,g < w.heap.size -> φ g = none -> (∀ k p,kx = some k -> ρ k = some p -> p.1 ≠ g) -> w'.heap[g]? = w.heap[g]?) (hsh : Shp w w')
  (hown : ∀ g,φ g ≠ none -> ∀ k b,σ.m k = some b -> ∀ p,ρ k = some p -> p.1 ≠ g)
  (hgood : ∀ g T es,φ g = some (.sl (some g) (some T) es) -> ∃ v',DR (Sof A0 σ.B ρ m' w') w' (.sl (some g) (some T) es) v') : Rel A0 N w0 ρ { σ.re φ with hs:=hs',m:=m' } a w':=by
 have back : ∀ k b,m' k = some b -> ∃ b0,σ.m k = some b0 /\ (kx ≠ some k -> Blk.re φ b0 = some b):=by
  intro k b hk
  by_cases hkk : kx = some k
  ·obtain ⟨cs0,cs',h1,h2,_⟩:=hkx k hkk
   exact ⟨_,h1,fun hne=>absurd hkk hne⟩
  ·rw [hm' k hkk] at hk
   obtain ⟨b0,h1,h2⟩:=gA hk
   exact ⟨b0,h1,fun _=>h2⟩
 have hS : ∀ g,Sof A0 σ.B ρ σ.m w g -> Sof A0 σ.B ρ m' w' g:=fun g hg=>⟨hg.1,by have:=hg.2.1; omega,fun k b hk p hp=>by
  obtain ⟨b0,hb0,_⟩:=back k b hk
  exact hg.2.2 k b0 hb0 p hp⟩
 have hS' : ∀ g,Sof A0 σ.B ρ σ.m w g -> φ g = none -> Sof A0 σ.B ρ m' w' g:=fun g hg _=>hS g hg
 have hw : ∀ g,Sof A0 σ.B ρ σ.m w g -> φ g = none -> w'.heap[g]? = w.heap[g]?:=fun g hg hn=>hsame g hg.2.1 hn fun k p hk hp=>by
  obtain ⟨cs0,cs',h1,_⟩:=hkx k hk
  exact hg.2.2 k _ h1 p hp
 have hk : ∀ k,KC ρ σ.m ρ m' k:=fun k=>by
  by_cases hkk : kx = some k
  ·obtain ⟨cs0,cs',h1,h2,_⟩:=hkx k hkk
   unfold KC
   rw [h2]
   exact ⟨rfl,cs0,h1⟩
  ·have:=Jo (ρ:=ρ) (σ:=σ) φ k
   unfold KC at this ⊢
   rw [hm' k hkk]
   exact this
 have hold : ∀ k b p,kx ≠ some k -> σ.m k = some b -> ρ k = some p -> w'.heap[p.1]? = w.heap[p.1]?:=by
  intro k b p hkk hm hp
  refine hsame p.1 ((h.mem k b hm).lt p hp).2 ?_ fun k' p' hk' hp' heq=>?_
  ·cases hφ : φ p.1 with
   | none=>rfl
   | some y=>exact absurd rfl (hown p.1 (by rw [hφ]; simp) k b hm p hp)
  ·obtain ⟨cs0,cs',h1,_⟩:=hkx k' hk'
   have:=h.inj k' k _ b p' p h1 hm hp' hp heq
   exact hkk (this ▸ hk')
 refine ⟨hbel,h.hN,h.key,fun kk hkH=>?_,h.hG,h.hB,hh1,by have:=h.hs0; show σ.B <= hs'; omega,h.defers,h.size,fun i=>CJ hS' hw hsh hgood hk _ _ (h.tmps i),fun k b hb=>?_,fun k k' b b' p p' hb hb' hp hp' heq=>?_⟩
 ·show bF (m' kk) = false
  by_cases hkk : kx = some kk
  ·obtain ⟨cs0,cs',h1,h2,_⟩:=hkx kk hkk
   rw [h2]; rfl
  ·rw [hm' _ hkk]
   have:=h.norow kk hkH
   simp only [St.re,reM]
   cases hm : σ.m kk with
   | none=>rfl
   | some b0 =>
     rw [hm] at this
     cases b0 with
     | box cs=>rfl
     | row _ _ _=>cases this
 ·by_cases hkk : kx = some k
  ·obtain ⟨cs0,cs',h1,h2,h3⟩:=hkx k hkk
   have hb' : m' k = some b:=hb
   rw [h2] at hb'
   cases hb'
   exact h3
  obtain ⟨b0,hb0,hre⟩:=back k b hb
  have hre:=hre hkk
  have hmem:=h.mem k b0 hb0
  cases b0 with
  | box cs =>
    simp only [Blk.re,Jx] at hre
    subst hre
    obtain ⟨g,cap,hr',hB,cur,T',hc,hl⟩:=hmem
    exact ⟨g,cap,hr',hB,cur,T',(hold k _ _ hkk hb0 hr').trans hc,mC hS' hw hsh hgood hk _ _ hl⟩
  | row T sz es =>
    simp only [Blk.re] at hre
    cases hr : reLL φ es with
    | none=>simp [hr] at hre
    | some ys =>
      simp only [hr,Jg,Jx] at hre
      subst hre
      obtain ⟨hl,hg⟩:=gQ hr
      refine ⟨hmem.1,?_⟩
      have h3:=hmem.2
      cases hr' : ρ k with
      | none=>rw [hr'] at h3; subst h3; simpa using hl
      | some p =>
        obtain ⟨g,cap⟩:=p
        rw [hr'] at h3
        obtain ⟨hB,hc1,hc2,cur,hc,hcs,hall⟩:=h3
        refine ⟨hB,hc1,by omega,cur,(hold k _ _ hkk hb0 hr').trans hc,hcs,fun i e he=>?_⟩
        obtain ⟨e0,he0,hre0⟩:=hg i e he
        refine ⟨by rw [(fZ hre0).1]; exact (hall i e0 he0).1,fun j u hu=>?_⟩
        obtain ⟨u0,hu0,hru⟩:=(fZ hre0).2 j u hu
        obtain ⟨v,hv,hd⟩:=(hall i e0 he0).2 j u0 hu0
        exact ⟨v,hv,wD hS' hw hsh hgood hd u hru⟩
 ·obtain ⟨b0,hb0,_⟩:=back k b hb
  obtain ⟨b0',hb0',_⟩:=back k' b' hb'
  exact h.inj k k' b0 b0' p p' hb0 hb0' hp hp' heq
theorem Rel.re (h : Rel A0 N w0 ρ σ a w) (φ : Nat -> Option D) {w' : World} {hs' : Nat} (hbel : Bel A0.G w0.heap.size w0 w') (hsz : w.heap.size <= w'.heap.size) (hh1 : hs' <= w'.heap.size) (hh2 : σ.hs <= hs')
  (hsame : ∀ g,g < w.heap.size -> φ g = none -> w'.heap[g]? = w.heap[g]?) (hsh : Shp w w')
  (hown : ∀ g,φ g ≠ none -> ∀ k b,σ.m k = some b -> ∀ p,ρ k = some p -> p.1 ≠ g)
  (hgood : ∀ g T es,φ g = some (.sl (some g) (some T) es) -> ∃ v',DR (Sof A0 σ.B ρ (σ.re φ).m w') w' (.sl (some g) (some T) es) v') : Rel A0 N w0 ρ { σ.re φ with hs:=hs' } a w':=
 h.reX φ none (σ.re φ).m hbel hsz hh1 hh2 (fun _ _=>rfl) (fun _ hk=>by cases hk) (fun g hg hn _=>hsame g hg hn) hsh hown hgood
end
end
end Go.Vs
