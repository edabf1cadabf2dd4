/-
  Vs1: a part of a proof of this seat: the value-level semantics of Go code without maps (Vs), its walk rules (Vt), the frame of a row (Vr), facts of types, schedules, walks. It holds of every program and state that its hypotheses name.
-/
import Derived.Below
import Derived.Orders
import Derived.OwnWalk
set_option linter.unusedSimpArgs false
set_option linter.unusedVariables false
namespace Go.Vs

/-- frozen data, with the number of the block of each slice and, where the slice is a whole row of its own, the row's element type and size -/
inductive D where
  | bool (b : Bool)
  | int (k : IntKind) (n : Int)
  | str (s : List UInt8)
  | sl (id : Option Nat) (wh : Option (TypeId × Nat)) (es : List (List D))

/-- what a slot holds -/
inductive V where
  | d (x : D)
  | own (k lo n : Nat)
  | ptr (k i off : Nat)
  /-- into element i of the slice x, at cell off -/
  | fptr (x : D) (i off : Nat)
  | bad
  | agg (cs : List V)
  | tup (vs : List V)

instance : Inhabited D := ⟨.bool false⟩
instance : Inhabited V := ⟨.bad⟩

/-- a block of the function's own: a variable, or a row of a slice -/
inductive Blk where
  | box (cs : List V)
  | row (T sz : Nat) (es : List (List D))

structure St where
  B : Nat
  hs : Nat
  /-- the blocks of the arguments that may be written -/
  W : List Nat
  t : Nat → V
  m : Nat → Option Blk

mutual
def D.ids : D → List Nat
  | .sl id _ es => id.toList ++ idsLL es
  | _ => []
def idsL : List D → List Nat
  | [] => []
  | x :: r => x.ids ++ idsL r
def idsLL : List (List D) → List Nat
  | [] => []
  | x :: r => idsL x ++ idsLL r
end

mutual
/-- the references to key k are put away -/
def wipe (k : Nat) : V → V
  | .own j lo n => if j = k then .bad else .own j lo n
  | .ptr j i o => if j = k then .bad else .ptr j i o
  | .agg cs => .agg (wipeL k cs)
  | .tup vs => .tup (wipeL k vs)
  | v => v
def wipeL (k : Nat) : List V → List V
  | [] => []
  | v :: r => wipe k v :: wipeL k r
end

mutual
/-- slices over the row k, whose rows are es, are read as data of block g -/
def frz (k : Nat) (g : Option Nat) (T : TypeId × Nat) (es : List (List D)) : V → V
  | .own j lo n => if j = k then .d (.sl g (if lo = 0 ∧ n = es.length then some T else none) ((es.drop lo).take n)) else .own j lo n
  | .ptr j i o => if j = k then .bad else .ptr j i o
  | .agg cs => .agg (frzL k g T es cs)
  | .tup vs => .tup (frzL k g T es vs)
  | v => v
def frzL (k : Nat) (g : Option Nat) (T : TypeId × Nat) (es : List (List D)) : List V → List V
  | [] => []
  | v :: r => frz k g T es v :: frzL k g T es r
end

def Blk.map (f : V → V) : Blk → Blk
  | .box cs => .box (cs.map f)
  | .row T sz es => .row T sz es

def upd {α : Type} (f : Nat → α) (k : Nat) (x : α) : Nat → α := fun j => if j = k then x else f j
theorem upd_apply {α : Type} (f : Nat → α) (k : Nat) (x : α) (j : Nat) : upd f k x j = if j = k then x else f j := rfl
theorem upd_same {α : Type} (f : Nat → α) (k : Nat) (x : α) : upd f k x k = x := by simp [upd]
theorem upd_self {α : Type} (f : Nat → α) (k : Nat) : upd f k (f k) = f := by
  funext j; simp only [upd]; split <;> simp_all

def mapV (f : V → V) (t : Nat → V) : Nat → V := fun i => f (t i)
def mapM (f : V → V) (m : Nat → Option Blk) : Nat → Option Blk := fun i => (m i).map (Blk.map f)

def St.put (σ : St) (d : Option Tmp) (v : V) : St :=
  match d with
  | some d => { σ with t := upd σ.t d v }
  | none => σ

def constV : Value → V
  | .bool b => .d (.bool b)
  | .int k n => .d (.int k n)
  | .string s => .d (.str s.data.toList)
  | .slice none 0 0 => .d (.sl none none [])
  | _ => .bad

def St.ev (σ : St) : Operand → V
  | .tmp t => σ.t t
  | .const v => constV v
  | _ => .bad

/-- a new block at key k: what spoke of an older one is put away -/
def St.lay (σ : St) (k : Nat) (b : Blk) : St :=
  { σ with t := mapV (wipe k) σ.t, m := upd (mapM (wipe k) σ.m) k (some (b.map (wipe k))) }

/-- the row k becomes data of block g -/
def St.frz (σ : St) (k : Nat) (g : Option Nat) (T : TypeId × Nat) (es : List (List D)) : St :=
  { σ with t := mapV (Vs.frz k g T es) σ.t, m := upd (mapM (Vs.frz k g T es) σ.m) k none }

def V.cells : V → List V
  | .agg cs => cs
  | v => [v]

/-- a value of one cell that may be stored -/
def V.one : V → Bool
  | .d _ | .own .. | .ptr .. | .fptr .. => true
  | _ => false

/-! ### the program's tables, as far as they are asked -/

def tsz (P : Program) (t : TypeId) : Option Nat := (P.info? t).map (·.size)
def tagg (P : Program) (t : TypeId) : Option Bool := (P.underlying t).map fun | .struct _ | .array _ _ => true | _ => false
def foff (P : Program) (t : TypeId) (f : Nat) : Option (Nat × Nat) :=
  match P.underlying t with
  | some (.struct fs) => match fs[f]? with
    | some fd => match P.info? fd.type with
      | some i => if i.size = 0 then none else some (fd.offset, i.size)
      | none => none
    | none => none
  | _ => none
def telem (P : Program) (t : TypeId) : Option TypeId :=
  match P.underlying t with
  | some (.slice e) => some e
  | _ => none
def zcells : List Value → Option (List D)
  | [] => some []
  | .bool b :: r => (zcells r).map (D.bool b :: ·)
  | .int k n :: r => (zcells r).map (D.int k n :: ·)
  | .string s :: r => (zcells r).map (D.str s.data.toList :: ·)
  | .slice none 0 0 :: r => (zcells r).map (D.sl none none [] :: ·)
  | _ => none
def tzero (P : Program) (t : TypeId) : Option (List D) := ((P.info? t).bind (·.zero)).bind fun z => zcells z.cells.toList
/-- a slice type's element: its number, its cells, its bytes -/
def tslice (P : Program) (t : TypeId) : Option (TypeId × Nat × Nat) :=
  (telem P t).bind fun e => (P.info? e).bind fun i => (i.zero).bind fun z => if z.cells.size = i.size ∧ 0 < i.size then some (e, i.size, i.bytes) else none

def vite (b : Bool) (x y : V) : V := if b then x else y

mutual
/-- a value as data: slices over own rows read as data of block γ k -/
def rd (γ : Nat → Option Nat) (m : Nat → Option Blk) : V → Option V
  | .d x => some (.d x)
  | .own k lo n => match m k with
    | some (.row T sz es) => if lo + n ≤ es.length then some (.d (.sl (γ k) (if lo = 0 ∧ n = es.length then some (T, sz) else none) ((es.drop lo).take n))) else none
    | _ => none
  | .agg cs => (rdL γ m cs).map .agg
  | .tup vs => (rdL γ m vs).map .tup
  | _ => none
def rdL (γ : Nat → Option Nat) (m : Nat → Option Blk) : List V → Option (List V)
  | [] => some []
  | v :: r => match rd γ m v, rdL γ m r with
    | some x, some l => some (x :: l)
    | _, _ => none
end

mutual
def V.ids : V → List Nat
  | .d x => x.ids
  | .fptr x _ _ => x.ids
  | .agg cs => idsVL cs
  | .tup vs => idsVL vs
  | _ => []
def idsVL : List V → List Nat
  | [] => []
  | v :: r => v.ids ++ idsVL r
end

mutual
/-- the keys of own rows in a value -/
def V.keys : V → List Nat
  | .own k _ _ => [k]
  | .agg cs => keysVL cs
  | .tup vs => keysVL vs
  | _ => []
def keysVL : List V → List Nat
  | [] => []
  | v :: r => v.keys ++ keysVL r
end


/-! ### blocks that are written: what the state says of them is said anew -/
def badD : D := .bool false
mutual
/-- data where the blocks that φ names hold what φ says; none: not known -/
def reD (φ : Nat → Option D) : D → Option D
  | .sl (some g) T es => match φ g with
    | some (.sl (some g') T' es') => if g' = g ∧ T.isSome = true ∧ T' = T ∧ es'.map List.length = es.map List.length then some (.sl (some g) T es') else none
    | some _ => none
    | none => (reLL φ es).map (.sl (some g) T)
  | .sl none T es => (reLL φ es).map (.sl none T)
  | .bool b => some (.bool b)
  | .int k n => some (.int k n)
  | .str s => some (.str s)
def reL (φ : Nat → Option D) : List D → Option (List D)
  | [] => some []
  | x :: r => match reD φ x, reL φ r with
    | some y, some l => some (y :: l)
    | _, _ => none
def reLL (φ : Nat → Option D) : List (List D) → Option (List (List D))
  | [] => some []
  | x :: r => match reL φ x, reLL φ r with
    | some y, some l => some (y :: l)
    | _, _ => none
end
mutual
def reV (φ : Nat → Option D) : V → V
  | .d x => match reD φ x with
    | some y => .d y
    | none => .bad
  | .fptr x i o => match reD φ x with
    | some y => .fptr y i o
    | none => .bad
  | .agg cs => .agg (reVL φ cs)
  | .tup vs => .tup (reVL φ vs)
  | .own k lo n => .own k lo n
  | .ptr k i o => .ptr k i o
  | .bad => .bad
def reVL (φ : Nat → Option D) : List V → List V
  | [] => []
  | v :: r => reV φ v :: reVL φ r
end
def Blk.re (φ : Nat → Option D) : Blk → Option Blk
  | .box cs => some (.box (reVL φ cs))
  | .row T sz es => (reLL φ es).map (.row T sz)
def reM (φ : Nat → Option D) (m : Nat → Option Blk) : Nat → Option Blk := fun i => (m i).bind (Blk.re φ)
def St.re (σ : St) (φ : Nat → Option D) : St := { σ with t := mapV (reV φ) σ.t, m := reM φ σ.m }

mutual
/-- the slice whose block is g -/
def lookD (g : Nat) : D → Option D
  | .sl (some g') T es => if g' = g then some (.sl (some g') T es) else lookLL g es
  | .sl none _ es => lookLL g es
  | _ => none
def lookL (g : Nat) : List D → Option D
  | [] => none
  | x :: r => match lookD g x with
    | some y => some y
    | none => lookL g r
def lookLL (g : Nat) : List (List D) → Option D
  | [] => none
  | x :: r => match lookL g x with
    | some y => some y
    | none => lookLL g r
end
/-- the blocks W hold what ws tells of them -/
def phi (W : List Nat) (ws : List D) (g : Nat) : Option D := if g ∈ W then some ((lookL g ws).getD badD) else none
def one (g : Nat) (d : D) (j : Nat) : Option D := if j = g then some d else none
def kphi (id : Option Nat) (j : Nat) : Option D := if id = some j then some badD else none
/-- what speaks of the block is put away -/
def St.kill (σ : St) : Option Nat → St
  | none => σ
  | some g => σ.re (kphi (some g))
def St.wr (σ : St) (g : Nat) : Prop := σ.B ≤ g ∨ g ∈ σ.W

end Go.Vs
