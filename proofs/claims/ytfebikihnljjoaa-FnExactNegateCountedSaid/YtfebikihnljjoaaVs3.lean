/-
  Vs3: a part of a proof of this seat: the value-level semantics of Go code without maps (Vs), its walk rules (Vt), the frame of a row (Vr), facts of types, schedules, walks. It holds of every program and state that its hypotheses name.
-/
import Derived.Test.YtfebikihnljjoaaVs2
set_option linter.unusedSimpArgs false
set_option linter.unusedVariables false
namespace Go.Vs

/-! ### one operation: what it asks of the state, and the state behind it -/
section
variable (P : Program) (E : FuncId → Bool)

def getB : V → Bool
  | .d (.bool b) => b
  | _ => false
def isBool : V → Bool
  | .d (.bool _) => true
  | _ => false
def getZ : V → Int
  | .d (.int _ n) => n
  | _ => 0
def isInt : V → Bool
  | .d (.int _ _) => true
  | _ => false
def getL (o : Option Blk) : List (List D) :=
  match o with
  | some (.row _ _ es) => es
  | _ => []
def getC (o : Option Blk) : List V :=
  match o with
  | some (.box cs) => cs
  | _ => []
def isBox (o : Option Blk) : Bool := match o with | some (.box _) => true | _ => false
def szOf (o : Option Blk) : Nat := match o with | some (.row _ sz _) => sz | _ => 0
def tyOf (o : Option Blk) : Nat := match o with | some (.row T _ _) => T | _ => 0

/-- the elements of a slice value -/
def elV (m : Nat → Option Blk) : V → List (List D)
  | .d (.sl _ _ es) => es
  | .own k lo n => ((getL (m k)).drop lo).take n
  | _ => []
def elOk (m : Nat → Option Blk) : V → Prop
  | .d (.sl _ _ _) => True
  | .own k lo n => isRow (m k) = true ∧ lo + n ≤ (getL (m k)).length
  | _ => False
def lnV : V → Nat
  | .d (.sl _ _ es) => es.length
  | .d (.str s) => s.length
  | .own _ _ n => n
  | _ => 0
def lnOk : V → Bool
  | .d (.sl _ _ _) | .d (.str _) | .own _ _ _ => true
  | _ => false

/-- a type that is a slice (false) or a string (true) -/
def tstr (P : Program) (T : TypeId) : Option Bool :=
  match P.underlying T with
  | some (.slice _) => some false
  | some .string => some true
  | _ => none

/-- a struct type whose fields' sizes are known -/
def tfld (P : Program) (T : TypeId) : Bool :=
  match P.underlying T with
  | some (.struct fs) => fs.all fun f => (P.info? f.type).isSome
  | _ => false

def agB (P : Program) (T : TypeId) : Bool := (tagg P T).getD false
def szT (P : Program) (T : TypeId) : Nat := (tsz P T).getD 0
def foT (P : Program) (T : TypeId) (f : Nat) : Nat := ((foff P T f).getD (0, 0)).1
def slT (P : Program) (T : TypeId) : TypeId × Nat × Nat := (tslice P T).getD (0, 0, 0)
def zrT (P : Program) (T : TypeId) : List D := (tzero P T).getD []

/-- the cells behind a pointer, in the element that it points into -/
def atP (m : Nat → Option Blk) : V → List V
  | .ptr k i off => match m k with
    | some (.box cs) => cs.drop off
    | some (.row _ _ es) => ((es.getD i []).drop off).map .d
    | none => []
  | .fptr x i off => (((lstD x).getD i []).drop off).map .d
  | _ => []
def ptrOk (m : Nat → Option Blk) : V → Prop
  | .ptr k i _ => match m k with
    | some (.box _) => i = 0
    | some (.row _ _ es) => i < es.length
    | none => False
  | .fptr x i _ => i < (lstD x).length
  | _ => False
def hd : List V → V
  | v :: _ => v
  | [] => .bad

def binD (op : BinOp) (x y : V) : D :=
  match x, y with
  | .d (.int k a), .d (.int _ b) => match op with
    | .add => .int k (k.wrap (a + b))
    | .sub => .int k (k.wrap (a - b))
    | .mul => .int k (k.wrap (a * b))
    | .quo => .int k (k.wrap (a.tdiv b))
    | .rem => .int k (a.tmod b)
    | .eql => .bool (a == b)
    | .neq => .bool (a != b)
    | .lss => .bool (decide (a < b))
    | .leq => .bool (decide (a ≤ b))
    | .gtr => .bool (decide (b < a))
    | .geq => .bool (decide (b ≤ a))
    | .and => .int k (k.wrap (BitVec.ofInt k.bits a &&& BitVec.ofInt k.bits b).toNat)
    | .or => .int k (k.wrap (BitVec.ofInt k.bits a ||| BitVec.ofInt k.bits b).toNat)
    | .xor => .int k (k.wrap (BitVec.ofInt k.bits a ^^^ BitVec.ofInt k.bits b).toNat)
    | _ => .bool false
  | .d (.str a), .d (.str b) => match op with
    | .add => .str (a ++ b)
    | .eql => .bool (a == b)
    | .neq => .bool (!(a == b))
    | .lss => .bool (Op.bytesLess a b)
    | .leq => .bool (Op.bytesLess a b || a == b)
    | .gtr => .bool (!(Op.bytesLess a b || a == b))
    | .geq => .bool (!(Op.bytesLess a b))
    | _ => .bool false
  | .d (.bool a), .d (.bool b) => match op with
    | .eql => .bool (a == b)
    | .neq => .bool (!(a == b))
    | _ => .bool false
  | _, _ => .bool false
def kOf : V → Option IntKind
  | .d (.int k _) => some k
  | _ => none
/-- what a binary operation asks -/
def binOk (op : BinOp) (x y : V) : Prop :=
  match x, y with
  | .d (.int k _), .d (.int k' b) => k = k' ∧ match op with
    | .quo | .rem => b ≠ 0
    | .add | .sub | .mul | .eql | .neq | .lss | .leq | .gtr | .geq | .and | .or | .xor => True
    | _ => False
  | .d (.str a), .d (.str b) => match op with
    | .add => a.length + b.length ≤ 9223372036854775807
    | .eql | .neq | .lss | .leq | .gtr | .geq => True
    | _ => False
  | .d (.bool _), .d (.bool _) => match op with
    | .eql | .neq => True
    | _ => False
  | _, _ => False
/-- a comparison of bools is one at a type of bools -/
def boolOk (P : Program) (T : TypeId) : V → Prop
  | .d (.bool _) => P.underlying T = some .bool
  | _ => True
def unD (op : UnOp) (x : V) : D :=
  match x with
  | .d (.bool b) => .bool (!b)
  | .d (.int k n) => match op with
    | .neg => .int k (k.wrap (0 - n))
    | _ => .bool false
  | _ => .bool false
def unOk (op : UnOp) (x : V) : Prop :=
  match x, op with
  | .d (.bool _), .not => True
  | .d (.int _ _), .neg => True
  | _, _ => False

def addP (o' : Nat) : V → V
  | .ptr k i off => .ptr k i (off + o')
  | .fptr x i off => .fptr x i (off + o')
  | _ => .bad

def idxV (x : V) (z : Int) : V :=
  match x with
  | .d x => .fptr x z.toNat 0
  | .own k lo _ => .ptr k (lo + z.toNat) 0
  | _ => .bad
def idxOk (m : Nat → Option Blk) (sz : Nat) (x : V) (z : Int) : Prop :=
  match x with
  | .d (.sl _ _ es) => 0 ≤ z ∧ z.toNat < es.length ∧ (es.getD z.toNat []).length = sz
  | .own k lo n => 0 ≤ z ∧ z.toNat < n ∧ isRow (m k) = true ∧ szOf (m k) = sz ∧ lo + n ≤ (getL (m k)).length
  | _ => False

def strOf : V → List UInt8
  | .d (.str s) => s
  | _ => []
def isStr : V → Bool
  | .d (.str _) => true
  | _ => false

def cutV (x : V) (l h : Nat) : V :=
  match x with
  | .d (.str s) => .d (.str ((s.drop l).take (h - l)))
  | .d (.sl g _ es) => .d (.sl g none ((es.drop l).take (h - l)))
  | .own k lo _ => .own k (lo + l) (h - l)
  | _ => .bad

/-- what a reslicing asks of its operand -/
def cutOk (T : TypeId) (m : Nat → Option Blk) : V → Prop
  | .d (.str _) => True
  | .d (.sl _ _ es) => (tslice P T).isSome = true ∧ ∀ e ∈ es, e.length = (slT P T).2.1
  | .own k lo n => (tslice P T).isSome = true ∧ szOf (m k) = (slT P T).2.1 ∧ isRow (m k) = true ∧ lo + n ≤ (getL (m k)).length
  | _ => False

/-- a value of one cell of which all is known -/
def live (m : Nat → Option Blk) : V → Bool
  | .d _ | .fptr .. => true
  | .own k _ _ => isRow (m k)
  | .ptr k _ _ => (m k).isSome
  | _ => false
def cellsOk (m : Nat → Option Blk) : V → Prop
  | .agg _ => True
  | .d _ => True
  | v => live m v = true

def buildC (T : TypeId) : List (Nat × V) → List V → List V
  | [], z => z
  | (i, v) :: r, z => buildC T r (splice z (foT P T i) v.cells)
def buildOk (T : TypeId) (m : Nat → Option Blk) : List (Nat × V) → List V → Prop
  | [], _ => True
  | (i, v) :: r, z => (foff P T i).isSome = true ∧ cellsOk m v ∧ v.cells.length = ((foff P T i).getD (0, 0)).2 ∧ foT P T i + v.cells.length ≤ z.length ∧ buildOk T m r (splice z (foT P T i) v.cells)

def allC : List V → List V
  | [] => []
  | v :: r => v.cells ++ allC r
def partsOk (σ : St) (sz : Nat) : Nat → List (Nat × Operand) → Prop
  | _, [] => True
  | n, (i, x) :: r => i = n ∧ (σ.ev x).cells.length = sz ∧ partsOk σ sz (n + 1) r

def dD : V → D
  | .d x => x
  | _ => .bool false
def isD : V → Bool
  | .d _ => true
  | _ => false

def appOk (t : TypeId) (σ : St) (s x : V) : Prop :=
  (tslice P t).isSome = true ∧ elOk σ.m x ∧ (∀ l ∈ elV σ.m x, l.length = (slT P t).2.1) ∧
      match s with
      | .d (.sl none _ []) => LenOk (slT P t).2.2 (elV σ.m x).length
      | .d (.sl (some g) T es) => T = some ((slT P t).1, (slT P t).2.1) ∧ σ.B ≤ g ∧ g ∉ x.ids ∧ g ∉ idsLL (elV σ.m x) ∧ g ∉ idsLL es ∧ (∀ e ∈ es, e.length = (slT P t).2.1) ∧ LenOk (slT P t).2.2 (es.length + (elV σ.m x).length)
      | .own k lo n => lo = 0 ∧ isRow (σ.m k) = true ∧ n = (getL (σ.m k)).length ∧ tyOf (σ.m k) = (slT P t).1 ∧ szOf (σ.m k) = (slT P t).2.1 ∧
          LenOk (slT P t).2.2 (n + (elV σ.m x).length)
      | _ => False
def appSt (t : TypeId) (σ : St) (dst : Option Tmp) (s x : V) : St :=
  match s, dst with
    | .d (.sl (some g) _ es), some dk => ((σ.kill (some g)).lay dk (.row (slT P t).1 (slT P t).2.1 (es ++ elV σ.m x))).put (some dk) (.own dk 0 (es.length + (elV σ.m x).length))
    | .own k _ n, some dk => (σ.lay k (.row (slT P t).1 (slT P t).2.1 (getL (σ.m k) ++ elV σ.m x))).put (some dk) (.own k 0 (n + (elV σ.m x).length))
    | _, some dk => (σ.lay dk (.row (slT P t).1 (slT P t).2.1 (elV σ.m x))).put (some dk) (.own dk 0 (elV σ.m x).length)
    | _, _ => σ
def stOk (T : TypeId) (σ : St) (a x : V) : Prop :=
  (tsz P T).isSome = true ∧ match a with
    | .ptr k i off => x.cells.length = szT P T ∧ match σ.m k with
      | some (.box cs) => i = 0 ∧ off + x.cells.length ≤ cs.length ∧ cellsOk σ.m x ∧ x.cells.all (live σ.m) = true
      | some (.row _ _ es) => i < es.length ∧ off + x.cells.length ≤ (es.getD i []).length ∧ x.cells.all isD = true
      | none => False
    | .fptr (.sl (some g) (some _) es) i off => x.cells.length = szT P T ∧ i < es.length ∧ off + x.cells.length ≤ (es.getD i []).length ∧ x.cells.all isD = true ∧ σ.wr g ∧ g ∉ idsVL x.cells ∧ g ∉ idsLL es
    | _ => False
def stSt (σ : St) (dst : Option Tmp) (a x : V) : St :=
  match a with
    | .ptr k i off => match σ.m k with
      | some (.box cs) => { σ with m := upd σ.m k (some (.box (splice cs off x.cells))) }.put dst (.tup [])
      | some (.row Te esz es) => { σ with m := upd σ.m k (some (.row Te esz (es.set i (splice (es.getD i []) off (x.cells.map dD))))) }.put dst (.tup [])
      | none => σ
    | .fptr (.sl (some g) T es) i off => (σ.re (one g (.sl (some g) T (es.set i (splice (es.getD i []) off (x.cells.map dD)))))).put dst (.tup [])
    | _ => σ
def convOk (s t : TypeId) (σ : St) (x : V) : Prop :=
  match P.underlying t with
    | some (.int _) => isInt x = true ∧ (P.underlying s).isSome = true
    | some .string => elOk σ.m x ∧ (elV σ.m x).all isB = true ∧ (tslice P s).isSome = true ∧ P.underlying (slT P s).1 = some (.int .u8)
    | _ => False
def convV (t : TypeId) (σ : St) (x : V) : V :=
  match P.underlying t with
    | some (.int k) => .d (.int k (k.wrap (getZ x)))
    | _ => .d (.str ((elV σ.m x).map toB))
def tupAt (v : V) (i : Nat) : V := match v with | .tup vs => vs.getD i .bad | _ => .bad
def tupOk (v : V) (i : Nat) : Prop := match v with | .tup vs => i < vs.length | _ => False
/-- the bounds of a reslicing -/
def loB (σ : St) : Option Operand → Nat
  | none => 0
  | some l => (getZ (σ.ev l)).toNat
def hiB (σ : St) (x : V) : Option Operand → Nat
  | none => lnV x
  | some h => (getZ (σ.ev h)).toNat
def bdOk (σ : St) : Option Operand → Prop
  | none => True
  | some l => isInt (σ.ev l) = true ∧ 0 ≤ getZ (σ.ev l)
/-- a slice over an own row speaks of what is there -/
def ownOk (σ : St) : V → Prop
  | .own k lo n => isRow (σ.m k) = true ∧ lo + n ≤ (getL (σ.m k)).length
  | _ => True

/-- the value of an operation that touches no memory or only reads it -/
def vval (o : Oper) (σ : St) : V :=
  match o.op with
  | .move x | .assign x | .nilCheck x => σ.ev x
  | .pick c a b => vite (getB (σ.ev c)) (σ.ev a) (σ.ev b)
  | .build T parts => .agg (buildC P T (parts.toList.map fun p => (p.1, σ.ev p.2)) ((zrT P T).map .d))
  | .load T a => if agB P T then .agg ((atP σ.m (σ.ev a)).take (szT P T)) else hd (atP σ.m (σ.ev a))
  | .binOp op _ x y _ => .d (binD op (σ.ev x) (σ.ev y))
  | .unOp op _ x => .d (unD op (σ.ev x))
  | .convert _ t x => convV P t σ (σ.ev x)
  | .slice _ x lo hi _ => cutV (σ.ev x) (loB σ lo) (hiB σ (σ.ev x) hi)
  | .fieldAddr s x f => addP (foT P s f) (σ.ev x)
  | .indexAddr _ x i => idxV (σ.ev x) (getZ (σ.ev i))
  | .index _ x i => .d (.int .u8 ((strOf (σ.ev x)).getD (getZ (σ.ev i)).toNat 0).toNat)
  | .extract x i => tupAt (σ.ev x) i
  | .call ⟨.builtin .len, args, _⟩ => .d (.int .i64 (lnV (σ.ev (args.getD 0 default))))
  | .call ⟨.builtin .max, args, _⟩ => .d (.int .i64 (if getZ (σ.ev (args.getD 1 default)) > getZ (σ.ev (args.getD 0 default)) then getZ (σ.ev (args.getD 1 default)) else getZ (σ.ev (args.getD 0 default))))
  | .call ⟨.builtin .min, args, _⟩ => .d (.int .i64 (if getZ (σ.ev (args.getD 1 default)) < getZ (σ.ev (args.getD 0 default)) then getZ (σ.ev (args.getD 1 default)) else getZ (σ.ev (args.getD 0 default))))
  | _ => .bad

def isPure (o : Oper) : Bool :=
  match o.op with
  | .move _ | .assign _ | .pick .. | .nilCheck _ | .binOp .. | .unOp .. | .convert .. | .fieldAddr .. | .indexAddr .. | .extract .. | .slice .. | .build .. | .load .. | .index .. => true
  | .call ⟨.builtin .len, _, _⟩ | .call ⟨.builtin .max, _, _⟩ | .call ⟨.builtin .min, _, _⟩ => true
  | _ => false

/-- the state behind an operation that makes or writes memory -/
def veff (o : Oper) (σ : St) : St :=
  match o.op with
  | .alloc T => match o.dst with
    | some k => (σ.lay k (.box ((zrT P T).map .d))).put (some k) (.ptr k 0 0)
    | none => σ
  | .box _ x => match o.dst with
    | some k => (σ.lay k (.box (σ.ev x).cells)).put (some k) (.ptr k 0 0)
    | none => σ
  | .buildSlice T n parts => match o.dst with
    | some k => (σ.lay k (.row (slT P T).1 (slT P T).2.1 (chunk (slT P T).2.1 n ((allC (parts.toList.map fun p => σ.ev p.2)).map dD)))).put (some k) (.own k 0 n)
    | none => σ
  | .store _ a x => stSt σ o.dst (σ.ev a) (σ.ev x)
  | .makeSlice T l _ => match o.dst with
    | some k => (σ.lay k (.row (slT P T).1 (slT P T).2.1 (List.replicate (getZ (σ.ev l)).toNat (zrT P (slT P T).1)))).put (some k) (.own k 0 (getZ (σ.ev l)).toNat)
    | none => σ
  | .call ⟨.builtin .append, args, tys⟩ => appSt P (tys.getD 0 0) σ o.dst (σ.ev (args.getD 0 default)) (σ.ev (args.getD 1 default))
  | _ => σ

/-- the state behind an operation -/
def vnext (o : Oper) (σ : St) : St := if isPure o then σ.put o.dst (vval P o σ) else veff P o σ

/-- what it asks -/
def vpre (o : Oper) (σ : St) : Prop :=
  match o.op with
  | .move _ | .assign _ => True
  | .pick c _ _ => isBool (σ.ev c) = true
  | .alloc T => (tzero P T).isSome = true
  | .box _ x => cellsOk σ.m (σ.ev x)
  | .build T parts => (tzero P T).isSome = true ∧ tfld P T = true ∧ buildOk P T σ.m (parts.toList.map fun p => (p.1, σ.ev p.2)) ((zrT P T).map .d)
  | .buildSlice T n parts => (tslice P T).isSome = true ∧ n * (slT P T).2.1 ≤ 16777216 ∧ parts.size = n ∧ partsOk σ (slT P T).2.1 0 parts.toList ∧ (allC (parts.toList.map fun p => σ.ev p.2)).all isD = true
  | .load T a => (tsz P T).isSome = true ∧ (tagg P T).isSome = true ∧ ptrOk σ.m (σ.ev a) ∧ (if agB P T then szT P T else 1) ≤ (atP σ.m (σ.ev a)).length
  | .store T a x => stOk P T σ (σ.ev a) (σ.ev x)
  | .nilCheck x => ptrOk σ.m (σ.ev x)
  | .binOp op T x y _ => binOk op (σ.ev x) (σ.ev y) ∧ boolOk P T (σ.ev x)
  | .unOp op _ x => unOk op (σ.ev x)
  | .convert s t x => convOk P s t σ (σ.ev x)
  | .makeSlice T l c => (tslice P T).isSome = true ∧ (tzero P (slT P T).1).isSome = true ∧ kOf (σ.ev l) = some .i64 ∧ kOf (σ.ev c) = some .i64 ∧ getZ (σ.ev c) = getZ (σ.ev l) ∧ 0 ≤ getZ (σ.ev l) ∧ LenOk (slT P T).2.2 (getZ (σ.ev l)).toNat
  | .slice T x lo hi mx => mx.isNone = true ∧ tstr P T = some (isStr (σ.ev x)) ∧ lnOk (σ.ev x) = true ∧ bdOk σ lo ∧ bdOk σ hi ∧
      loB σ lo ≤ hiB σ (σ.ev x) hi ∧ hiB σ (σ.ev x) hi ≤ lnV (σ.ev x) ∧ cutOk P T σ.m (σ.ev x)
  | .fieldAddr s x f => (foff P s f).isSome = true ∧ ptrOk σ.m (σ.ev x)
  | .indexAddr T x i => (tslice P T).isSome = true ∧ isInt (σ.ev i) = true ∧ idxOk σ.m (slT P T).2.1 (σ.ev x) (getZ (σ.ev i))
  | .index T x i => tstr P T = some true ∧ isStr (σ.ev x) = true ∧ isInt (σ.ev i) = true ∧ 0 ≤ getZ (σ.ev i) ∧ (getZ (σ.ev i)).toNat < (strOf (σ.ev x)).length
  | .extract x i => tupOk (σ.ev x) i
  | .call ⟨.builtin .len, args, tys⟩ => args.size = 1 ∧ tys.size = 1 ∧ lnOk (σ.ev (args.getD 0 default)) = true ∧ ownOk σ (σ.ev (args.getD 0 default)) ∧
      tstr P (tys.getD 0 0) = some (isStr (σ.ev (args.getD 0 default)))
  | .call ⟨.builtin .max, args, _⟩ | .call ⟨.builtin .min, args, _⟩ => args.size = 2 ∧ kOf (σ.ev (args.getD 0 default)) = some .i64 ∧ kOf (σ.ev (args.getD 1 default)) = some .i64
  | .call ⟨.builtin .append, args, tys⟩ => args.size = 2 ∧ tys.size = 2 ∧ tys.getD 1 0 = tys.getD 0 0 ∧ appOk P (tys.getD 0 0) σ (σ.ev (args.getD 0 default)) (σ.ev (args.getD 1 default))
  | _ => False

def vcall (f : FuncId) (vs : List V) (dst : Option Tmp) (K : St → Prop) (σ : St) : Prop :=
  match keysVL vs with
  | [] => rdL (fun _ => none) σ.m vs = some vs ∧ ∃ post, VC P f vs post ∧ ∀ r n hs', σ.hs ≤ n → n ≤ hs' → post n r → (∀ i ∈ r.ids, i < hs') → K ({ σ with hs := hs' }.put dst r)
  | _ :: _ => ∀ γ n, σ.hs ≤ n → Gam σ γ n → ∃ As post, rdL γ σ.m vs = some As ∧ VC P f As post ∧
    ∀ r hs', n ≤ hs' → post n r → (∀ i ∈ r.ids, i < hs') → (∀ i ∈ r.ids, n ≤ i) ∧ K ({ σ with hs := hs' }.put dst r)

def boxOf (m : Nat → Option Blk) : List V → List V
  | .ptr k 0 0 :: _ => getC (m k)
  | _ => []
/-- a call that may write what it is handed; of the values none is a row of ours -/
def coreX (f : FuncId) (W : List Nat) (post : Nat → V → List V → List D → Prop) (n : Nat) (vs : List V) (dst : Option Tmp) (K : St → Prop) (σ : St) : Prop :=
  match vs with
  | .ptr k 0 0 :: rest => keysVL rest = [] ∧ rdL (fun _ => none) σ.m rest = some rest ∧ isBox (σ.m k) = true ∧ keysVL (getC (σ.m k)) = [] ∧ rdL (fun _ => none) σ.m (getC (σ.m k)) = some (getC (σ.m k)) ∧
      VX P f W (.ptr 1000 0 0 :: rest) (some (getC (σ.m k))) post ∧
      ∀ r cs' ws hs', n ≤ hs' → post n r cs' ws → (∀ i ∈ r.ids, i < hs') → (∀ i ∈ idsVL cs', i < hs') → (∀ d ∈ ws, ∀ i ∈ d.ids, i < hs') →
        K ({ (σ.re (phi W ws)) with hs := hs', m := upd (σ.re (phi W ws)).m k (some (.box cs')) }.put dst r)
  | vs => keysVL vs = [] ∧ rdL (fun _ => none) σ.m vs = some vs ∧ VX P f W vs none post ∧
      ∀ r cs' ws hs', n ≤ hs' → post n r cs' ws → (∀ i ∈ r.ids, i < hs') → (∀ d ∈ ws, ∀ i ∈ d.ids, i < hs') → K ({ (σ.re (phi W ws)) with hs := hs' }.put dst r)
/-- a call that may write what it is handed -/
def vcallX (f : FuncId) (args : List Operand) (dst : Option Tmp) (K : St → Prop) (σ : St) : Prop :=
  E f = true ∧ ∀ γ n, σ.hs ≤ n → Gam σ γ n → ∃ W post, (∀ g ∈ W, σ.wr g) ∧
    coreX P f W post n (args.map ({ σ with hs := n }.frzs γ (keysVL (args.map σ.ev ++ boxOf σ.m (args.map σ.ev)))).ev) dst K ({ σ with hs := n }.frzs γ (keysVL (args.map σ.ev ++ boxOf σ.m (args.map σ.ev))))
def vcallA (f : FuncId) (args : List Operand) (vs : List V) (dst : Option Tmp) (K : St → Prop) (σ : St) : Prop := vcall P f vs dst K σ ∨ vcallX P E f args dst K σ

def vop (o : Oper) (K : St → Prop) (σ : St) : Prop :=
  match o.op with
  | .call ⟨.value (.func f), args, _⟩ => vcallA P E f args.toList (args.toList.map σ.ev) o.dst K σ
  | .buildSlice _ _ parts => match keysVL (allC (parts.toList.map fun p => σ.ev p.2)) with
    | [] => vpre P o σ ∧ K (vnext P o σ)
    | k :: ks => ∀ γ hs', σ.hs ≤ hs' → Gam σ γ hs' → vpre P o ({ σ with hs := hs' }.frzs γ (k :: ks)) ∧ K (vnext P o ({ σ with hs := hs' }.frzs γ (k :: ks)))
  | _ => vpre P o σ ∧ K (vnext P o σ)

/-- operations in this order; ops: the region that they stand in -/
def vops (ops : Array Oper) (K : St → Prop) : List Oper → St → Prop
  | [], σ => K σ
  | o :: r, σ => match o.guard with
    | none => vop P E o (vops ops K r) σ
    | some (j, want) => match (ops[j]?).bind (·.dst) with
      | some d => match σ.t d with
        | .d (.bool b) => (b = want → vop P E o (vops ops K r) σ) ∧ ((!(b == want)) = true → vops ops K r (σ.put o.dst (.tup [])))
        | .tup [] => vops ops K r (σ.put o.dst (.tup []))
        | _ => False
      | none => False

def pick (ops : Array Oper) : List Nat → List Oper
  | [] => []
  | i :: r => (ops.getD i default) :: pick ops r

def thenV (K : St → Prop) (Q : Exit → St → Prop) : Exit → St → Prop
  | .normal, σ => K σ
  | e, σ => Q e σ
def inBlockV (id : Nat) (Q : Exit → St → Prop) : Exit → St → Prop
  | .exit id', σ => if id' = id then Q .normal σ else Q (.exit id') σ
  | e, σ => Q e σ
def loopV (I : Nat → St → Prop) (n : Nat) (Q : Exit → St → Prop) : Exit → St → Prop
  | .normal, σ => Lead (fun s => ∃ k, k < n ∧ I k s) σ
  | e, σ => Q e σ

/-- the orders that a region may be drawn in, as far as they matter: a tree -/
inductive Tr where
  | nil
  | seq (l : List Nat) (t : Tr)
  | both (t u : Tr)

def vtr (ops : Array Oper) (K : St → Prop) : Tr → St → Prop
  | .nil, σ => K σ
  | .seq l t, σ => vops P E ops (vtr ops K t) (pick ops l) σ
  | .both t u, σ => vtr ops K t σ ∧ vtr ops K u σ

def vwp (sch : Nat → Tr) : Code → (Exit → St → Prop) → St → Prop
  | .skip, Q, σ => Q .normal σ
  | .region id ops true, Q, σ => vtr P E ops (Q .normal) (sch id) σ
  | .region _ ops false, Q, σ => vops P E ops (Q .normal) ops.toList σ
  | .seq a b, Q, σ => vwp sch a (thenV (vwp sch b Q) Q) σ
  | .cond c x y, Q, σ => isBool (σ.ev c) = true ∧ (getB (σ.ev c) = true → vwp sch x Q σ) ∧ (getB (σ.ev c) = false → vwp sch y Q σ)
  | .block id c, Q, σ => vwp sch c (inBlockV id Q) σ
  | .loop c, Q, σ => ∃ I : Nat → St → Prop, Lead (fun s => ∃ n, I n s) σ ∧ ∀ n σ', I n σ' → vwp sch c (loopV I n Q) σ'
  | .exit id, Q, σ => Q (.exit id) σ
  | .ret, Q, σ => Q .ret σ
  | _, _, _ => False

/-- a loop, as the walk meets it -/
def vloop (sch : Nat → Tr) (c : Code) (Q : Exit → St → Prop) (σ : St) : Prop :=
  ∃ I : Nat → St → Prop, Lead (fun s => ∃ n, I n s) σ ∧ ∀ n σ', I n σ' → vwp P E sch c (loopV I n Q) σ'

def resV (σ : St) : ResultVar → V
  | .tmp t => σ.t t
  | .cell a T => if agB P T then .agg ((atP σ.m (σ.t a)).take (szT P T)) else hd (atP σ.m (σ.t a))
def resOk (σ : St) : ResultVar → Prop
  | .tmp _ => True
  | .cell a T => (tsz P T).isSome = true ∧ (tagg P T).isSome = true ∧ ptrOk σ.m (σ.t a) ∧ (if agB P T then szT P T else 1) ≤ (atP σ.m (σ.t a)).length

def oneV : List V → V
  | [v] => v
  | l => .tup l

def dsV : V → List D
  | .d x => [x]
  | .agg cs => (cs.filter isD).map dD
  | _ => []
/-- the function's end -/
def vend (rs : List ResultVar) (post : Nat → V → Prop) (σ : St) : Prop :=
  (∀ r ∈ rs, resOk P σ r) ∧ match (oneV (rs.map (resV P σ))).keys with
    | [] => rd (fun _ => none) σ.m (oneV (rs.map (resV P σ))) = some (oneV (rs.map (resV P σ))) ∧ post σ.B (oneV (rs.map (resV P σ)))
    | _ :: _ => ∀ γ hs', σ.hs ≤ hs' → Gam σ γ hs' → ∃ r, rd γ σ.m (oneV (rs.map (resV P σ))) = some r ∧ post σ.B r

def vret (rs : List ResultVar) (post : Nat → V → Prop) : Exit → St → Prop
  | .normal, σ | .ret, σ => vend P rs post σ
  | _, _ => False

/-- the end of a function that may write; is: the slots where what its blocks hold is told -/
def vendX (rs : List ResultVar) (post : Nat → V → List V → List D → Prop) (W : List Nat) (bx : Bool) (σ : St) : Prop :=
  (∀ r ∈ rs, resOk P σ r) ∧ (bx = true → isBox (σ.m 1000) = true) ∧ ∃ is : List Nat, ∀ γ hs', σ.hs ≤ hs' → Gam σ γ hs' → ∃ r cs', rd γ σ.m (oneV (rs.map (resV P σ))) = some r ∧
    rdL γ σ.m (if bx then getC (σ.m 1000) else []) = some cs' ∧ post σ.B r cs' (is.flatMap fun i => dsV (σ.t i))
def vretX (rs : List ResultVar) (post : Nat → V → List V → List D → Prop) (W : List Nat) (bx : Bool) : Exit → St → Prop
  | .normal, σ | .ret, σ => vendX P rs post W bx σ
  | _, _ => False

def St.startX (args : List V) (W : List Nat) (bx : Option (List V)) (h : Nat) : St := { B := h, hs := h, W := W, t := fun i => args.getD i (.tup []), m := fun k => if k = 1000 then bx.map .box else none }
def St.start (args : List V) (h : Nat) : St := { B := h, hs := h, W := [], t := fun i => args.getD i (.tup []), m := fun _ => none }

end

/-! ### the walk's rules -/
section
variable {P : Program} {E : FuncId → Bool} {sch : Nat → Tr} {Q : Exit → St → Prop} {σ : St} {ops : Array Oper} {K : St → Prop} {r : List Oper}
theorem w_seq (a b : Code) : vwp P E sch (.seq a b) Q σ = vwp P E sch a (thenV (vwp P E sch b Q) Q) σ := rfl
theorem w_skip : vwp P E sch .skip Q σ = Q .normal σ := rfl
theorem w_region (id : Nat) : vwp P E sch (.region id ops false) Q σ = vops P E ops (Q .normal) ops.toList σ := rfl
theorem w_draw (id : Nat) : vwp P E sch (.region id ops true) Q σ = vtr P E ops (Q .normal) (sch id) σ := rfl
theorem w_cond (c : Operand) (x y : Code) : vwp P E sch (.cond c x y) Q σ = (isBool (σ.ev c) = true ∧ (getB (σ.ev c) = true → vwp P E sch x Q σ) ∧ (getB (σ.ev c) = false → vwp P E sch y Q σ)) := rfl
theorem w_block (id : Nat) (c : Code) : vwp P E sch (.block id c) Q σ = vwp P E sch c (inBlockV id Q) σ := rfl
theorem w_loop (c : Code) : vwp P E sch (.loop c) Q σ = vloop P E sch c Q σ := rfl
theorem w_exit (id : Nat) : vwp P E sch (.exit id) Q σ = Q (.exit id) σ := rfl
theorem w_ret : vwp P E sch .ret Q σ = Q .ret σ := rfl
theorem o_nil : vops P E ops K [] σ = K σ := rfl
theorem thenV_n (Kn : St → Prop) : thenV Kn Q .normal σ = Kn σ := rfl
theorem thenV_e (Kn : St → Prop) (id : Nat) : thenV Kn Q (.exit id) σ = Q (.exit id) σ := rfl
theorem thenV_r (Kn : St → Prop) : thenV Kn Q .ret σ = Q .ret σ := rfl
theorem inB_n (id : Nat) : inBlockV id Q .normal σ = Q .normal σ := rfl
theorem inB_e (id id' : Nat) : inBlockV id Q (.exit id') σ = if id' = id then Q .normal σ else Q (.exit id') σ := rfl
theorem inB_r (id : Nat) : inBlockV id Q .ret σ = Q .ret σ := rfl
end
end Go.Vs
