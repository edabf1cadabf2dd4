/-
  Vs2: a part of a proof of this seat: the value-level semantics of Go code without maps (Vs), its walk rules (Vt), the frame of a row (Vr), facts of types, schedules, walks. It holds of every program and state that its hypotheses name.
-/
import Derived.Test.YtfebikihnljjoaaVs1
import Derived.RowKit
set_option linter.unusedSimpArgs false
set_option linter.unusedVariables false
namespace Go.Vs
open Go.RowKit

/-! ### the relation between data and memory -/

inductive DR (S : Nat → Prop) (w : World) : D → Value → Prop
  | bool (b : Bool) : DR S w (.bool b) (.bool b)
  | int (k : IntKind) (n : Int) : DR S w (.int k n) (.int k n)
  | str (s : List UInt8) : DR S w (.str s) (.string ⟨s.toArray⟩)
  | nil (T : Option (TypeId × Nat)) : DR S w (.sl none T []) (.slice none 0 0)
  | sl (g : Nat) (T : Option (TypeId × Nat)) (es : List (List D)) (a : Addr) (cap sz : Nat) (vs : Nat → Value) (hS : S g) (ha : 0 < cap → a.block = g) (hcap : es.length ≤ cap) (hm : cap ≤ maxLen)
      (hsz : ∀ (i : Nat) (e : List D), es[i]? = some e → e.length = sz)
      (hc : ∀ (i : Nat) (e : List D), es[i]? = some e → ∀ (j : Nat) (u : D), e[j]? = some u → w.cell? (a.add (i * sz + j)) = some (vs (i * sz + j)))
      (hd : ∀ (i : Nat) (e : List D), es[i]? = some e → ∀ (j : Nat) (u : D), e[j]? = some u → DR S w u (vs (i * sz + j)))
      (hw : ∀ t, T = some t → a = ⟨g, 0, none⟩ ∧ (0 < sz ∧ sz = t.2) ∧ ∃ cur, w.heap[g]? = some (.cells cur t.1 (0, 0)) ∧ cur.size = cap * sz) :
      DR S w (.sl (some g) T es) (.slice (some a) es.length cap)

def OwnV (r : Option (Nat × Nat)) (sz lo n : Nat) (v : Value) : Prop :=
  match r with
  | none => v = .slice none 0 0 ∧ n = 0 ∧ lo = 0
  | some (g, cap) => ∃ a c, v = .slice (some a) n c ∧ a.block = g ∧ n ≤ c ∧ c ≤ maxLen ∧ (lo = 0 → a = ⟨g, 0, none⟩ ∧ c = cap) ∧ (0 < n → a = ⟨g, lo * sz, none⟩)

def lstD : D → List (List D)
  | .sl _ _ es => es
  | _ => []

mutual
def VR (ρ : Nat → Option (Nat × Nat)) (m : Nat → Option Blk) (S : Nat → Prop) (w : World) : V → Value → Prop
  | .d x, v => DR S w x v
  | .own k lo n, v => match m k with
    | some (.row _ sz es) => lo + n ≤ es.length ∧ OwnV (ρ k) sz lo n v
    | some (.box _) => False
    | none => True
  | .ptr k i off, v => match m k with
    | some (.row _ sz _) => ∃ g cap, ρ k = some (g, cap) ∧ v = .pointer (some ⟨g, i * sz + off, none⟩)
    | some (.box _) => i = 0 ∧ ∃ g cap, ρ k = some (g, cap) ∧ v = .pointer (some ⟨g, off, none⟩)
    | none => True
  | .fptr x i off, v => ∃ (a : Addr) (n c sz : Nat), DR S w x (.slice (some a) n c) ∧ (∀ e ∈ lstD x, e.length = sz) ∧ i < (lstD x).length ∧ v = .pointer (some (a.add (i * sz + off)))
  | .bad, _ => True
  | .agg cs, v => ∃ l : List Value, v = .agg l.toArray ∧ LR ρ m S w cs l
  | .tup vs, v => ∃ l : List Value, v = .tuple l.toArray ∧ LR ρ m S w vs l
def LR (ρ : Nat → Option (Nat × Nat)) (m : Nat → Option Blk) (S : Nat → Prop) (w : World) : List V → List Value → Prop
  | [], [] => True
  | c :: cs, v :: l => VR ρ m S w c v ∧ LR ρ m S w cs l
  | _, _ => False
end

def BlkR (G : Nat → Prop) (ρ : Nat → Option (Nat × Nat)) (m : Nat → Option Blk) (S : Nat → Prop) (B : Nat) (w : World) (r : Option (Nat × Nat)) : Blk → Prop
  | .box cs => ∃ g cap, r = some (g, cap) ∧ (B ≤ g ∨ G g) ∧ ∃ cur T, w.heap[g]? = some (.cells cur T (0, 0)) ∧ LR ρ m S w cs cur.toList
  | .row T sz es => 0 < sz ∧ match r with
    | none => es = []
    | some (g, cap) => B ≤ g ∧ cap ≤ maxLen ∧ es.length ≤ cap ∧ ∃ cur, w.heap[g]? = some (.cells cur T (0, 0)) ∧ cur.size = cap * sz ∧
        ∀ (i : Nat) (e : List D), es[i]? = some e → e.length = sz ∧ ∀ (j : Nat) (u : D), e[j]? = some u → ∃ v, cur[i * sz + j]? = some v ∧ DR S w u v

/-- of block numbers: those that the arguments name; those that may be written; the block of a variable that is handed in -/
structure Env where
  A : Nat → Prop
  G : Nat → Prop
  R : Option (Nat × Nat)

/-- below block number B the world w' is as w was, but for the blocks G; no block has turned its shape -/
structure Bel (G : Nat → Prop) (B : Nat) (w w' : World) : Prop where
  os : w'.os = w.os
  tape : w'.tape = w.tape
  output : w'.output = w.output
  size : w.heap.size ≤ w'.heap.size
  block : ∀ k, k < B → ¬ G k → w'.heap[k]? = w.heap[k]?
  shape : ∀ k, k < B → ∀ cur T f, w.heap[k]? = some (.cells cur T f) → ∃ cur', w'.heap[k]? = some (.cells cur' T f) ∧ cur'.size = cur.size

theorem Bel.of {G : Nat → Prop} {B : Nat} {w w' : World} (h : Below B w w') : Bel G B w w' :=
  ⟨h.os, h.tape, h.output, h.size, fun k hk _ => h.block k hk, fun k hk cur T f hc => ⟨cur, (h.block k hk).trans hc, rfl⟩⟩
theorem Bel.refl (G : Nat → Prop) (B : Nat) (w : World) : Bel G B w w := .of (Below.refl _ _)
theorem Bel.trans {G : Nat → Prop} {B : Nat} {a b c : World} (h : Bel G B a b) (k : Bel G B b c) : Bel G B a c :=
  ⟨k.os.trans h.os, k.tape.trans h.tape, k.output.trans h.output, Nat.le_trans h.size k.size, fun i hi hg => (k.block i hi hg).trans (h.block i hi hg), fun i hi cur T f hc => by
    obtain ⟨c1, h1, h2⟩ := h.shape i hi cur T f hc
    obtain ⟨c2, h3, h4⟩ := k.shape i hi c1 T f h1
    exact ⟨c2, h3, h4.trans h2⟩⟩
theorem Bel.below {B : Nat} {w w' : World} (h : Bel (fun _ => False) B w w') : Below B w w' := ⟨h.os, h.tape, h.output, h.size, fun k hk => h.block k hk (fun h => h)⟩

def Sof (A0 : Env) (B : Nat) (ρ : Nat → Option (Nat × Nat)) (m : Nat → Option Blk) (w : World) (g : Nat) : Prop :=
  (A0.A g ∨ B ≤ g) ∧ g < w.heap.size ∧ ∀ k b, m k = some b → ∀ p, ρ k = some p → p.1 ≠ g

def isRow (o : Option Blk) : Bool := match o with | some (.row ..) => true | _ => false

structure Rel (A0 : Env) (N : Nat) (w0 : World) (ρ : Nat → Option (Nat × Nat)) (σ : St) (a : Act) (w : World) : Prop where
  below : Bel A0.G w0.heap.size w0 w
  hN : N ≤ 1000
  key : ρ 1000 = A0.R
  norow : isRow (σ.m 1000) = false
  hG : ∀ g ∈ σ.W, A0.G g
  hB : σ.B = w0.heap.size
  hs : σ.hs ≤ w.heap.size
  hs0 : σ.B ≤ σ.hs
  defers : a.defers = []
  size : a.tmps.size = N
  tmps : ∀ i, VR ρ σ.m (Sof A0 σ.B ρ σ.m w) w (σ.t i) (a.eval (.tmp i))
  mem : ∀ k b, σ.m k = some b → BlkR A0.G ρ σ.m (Sof A0 σ.B ρ σ.m w) σ.B w (ρ k) b
  inj : ∀ k k' b b' p p', σ.m k = some b → σ.m k' = some b' → ρ k = some p → ρ k' = some p' → p.1 = p'.1 → k = k'

/-- what may be said of σ is said of some state where K holds -/
def Lead (K : St → Prop) (σ : St) : Prop :=
  ∀ A0 N w0 ρ a w, Rel A0 N w0 ρ σ a w → ∃ σ' ρ', Rel A0 N w0 ρ' σ' a w ∧ K σ'

theorem Lead.of {K : St → Prop} {σ : St} (h : K σ) : Lead K σ := fun _ _ _ ρ _ _ hR => ⟨σ, ρ, hR, h⟩
theorem Lead.mono {K K' : St → Prop} {σ : St} (h : Lead K σ) (hk : ∀ σ, K σ → K' σ) : Lead K' σ := fun A0 N w0 ρ a w hR =>
  let ⟨σ', ρ', hR', hK⟩ := h A0 N w0 ρ a w hR; ⟨σ', ρ', hR', hk _ hK⟩
theorem Lead.trans {K : St → Prop} {σ : St} (h : Lead (Lead K) σ) : Lead K σ := fun A0 N w0 ρ a w hR =>
  let ⟨_, _, hR', hK⟩ := h A0 N w0 ρ a w hR; hK A0 N w0 _ a w hR'

/-- a function's contract: args, result are data -/
def VC (P : Program) (f : FuncId) (args : List V) (post : Nat → V → Prop) : Prop :=
  (∃ fn, P.funcs[f]? = some fn ∧ fn.body.isSome = true ∧ (fn.name == "runtime.NumGoroutine") = false) ∧
  ∀ (w : World) (vals : List Value), LR (fun _ => none) (fun _ => none) (fun g => g < w.heap.size ∧ g ∈ idsVL args) w args vals →
    Calls P f vals.toArray w fun e w' => ∃ v r, e = .returned v ∧ Below w.heap.size w w' ∧
      VR (fun _ => none) (fun _ => none) (fun g => (g ∈ idsVL args ∨ w.heap.size ≤ g) ∧ g < w'.heap.size) w' r v ∧ rd (fun _ => none) (fun _ => none) r = some r ∧ post w.heap.size r

/-- a function's contract: it may write the blocks W of what it is handed, and the variable (the pointer with key 1000) whose value is bx; ws: what these blocks then hold -/
def VX (P : Program) (f : FuncId) (W : List Nat) (args : List V) (bx : Option (List V)) (post : Nat → V → List V → List D → Prop) : Prop :=
  (∃ fn, P.funcs[f]? = some fn ∧ fn.body.isSome = true ∧ (fn.name == "runtime.NumGoroutine") = false) ∧ (∀ g ∈ W, g ∈ idsVL args ∨ g ∈ idsVL (bx.getD [])) ∧
  ∀ (w : World) (vals : List Value) (gb : Nat),
    LR (fun k => if k = 1000 then some (gb, 0) else none) (fun k => if k = 1000 then bx.map .box else none) (fun g => g < w.heap.size ∧ (g ∈ idsVL args ∨ g ∈ idsVL (bx.getD [])) ∧ ¬ (bx.isSome = true ∧ g = gb)) w args vals →
    (∀ cs, bx = some cs → ∃ cur T, w.heap[gb]? = some (.cells cur T (0, 0)) ∧ LR (fun _ => none) (fun _ => none) (fun g => g < w.heap.size ∧ (g ∈ idsVL args ∨ g ∈ idsVL (bx.getD [])) ∧ ¬ (bx.isSome = true ∧ g = gb)) w cs cur.toList) →
    Calls P f vals.toArray w fun e w' => ∃ v r cs' ws, e = .returned v ∧ Bel (fun g => g ∈ W ∨ (bx.isSome = true ∧ g = gb)) w.heap.size w w' ∧
      VR (fun _ => none) (fun _ => none) (fun g => (g ∈ idsVL args ∨ g ∈ idsVL (bx.getD []) ∨ w.heap.size ≤ g) ∧ g < w'.heap.size ∧ ¬ (bx.isSome = true ∧ g = gb)) w' r v ∧ rd (fun _ => none) (fun _ => none) r = some r ∧
      (bx.isSome = true → ∃ cur T, w'.heap[gb]? = some (.cells cur T (0, 0)) ∧ LR (fun _ => none) (fun _ => none) (fun g => (g ∈ idsVL args ∨ g ∈ idsVL (bx.getD []) ∨ w.heap.size ≤ g) ∧ g < w'.heap.size ∧ ¬ (bx.isSome = true ∧ g = gb)) w' cs' cur.toList ∧
        rdL (fun _ => none) (fun _ => none) cs' = some cs') ∧
      (∀ d ∈ ws, ∃ v', DR (fun g => (g ∈ idsVL args ∨ g ∈ idsVL (bx.getD []) ∨ w.heap.size ≤ g) ∧ g < w'.heap.size ∧ ¬ (bx.isSome = true ∧ g = gb)) w' d v') ∧ post w.heap.size r cs' ws

/-- of a number g of a block: nothing that the state holds as data lies in it -/
structure FrOf (σ : St) (g : Nat) : Prop where
  lo : σ.B ≤ g
  row : ∀ k T sz es, σ.m k = some (.row T sz es) → g ∉ idsLL es
  box : ∀ k cs, σ.m k = some (.box cs) → g ∉ idsVL cs
  slot : ∀ i, g ∉ (σ.t i).ids

/-- γ: the blocks of the own rows -/
structure Gam (σ : St) (γ : Nat → Option Nat) (hs' : Nat) : Prop where
  some : ∀ k T sz es, σ.m k = some (.row T sz es) → es ≠ [] → ∃ g, γ k = some g
  fr : ∀ k T sz es g, σ.m k = .some (.row T sz es) → γ k = .some g → FrOf σ g ∧ g < hs'
  ne : ∀ k k' b b' g, σ.m k = .some b → σ.m k' = .some b' → γ k = .some g → γ k' = .some g → k = k'

def St.frzs (γ : Nat → Option Nat) : List Nat → St → St
  | [], σ => σ
  | k :: r, σ => match σ.m k with
    | some (.row T sz es) => St.frzs γ r (σ.frz k (γ k) (T, sz) es)
    | _ => St.frzs γ r σ

def chunk (sz : Nat) : Nat → List D → List (List D)
  | 0, _ => []
  | n + 1, l => l.take sz :: chunk sz n (l.drop sz)

def splice {α : Type} (l : List α) (off : Nat) (news : List α) : List α := l.take off ++ news ++ l.drop (off + news.length)

/-- room for so many elements -/
def LenOk (bytes n : Nat) : Prop := n * bytes ≤ 140737488355328 ∧ n ≤ maxLen

def isB : List D → Bool
  | [.int .u8 _] => true
  | _ => false
def toB : List D → UInt8
  | [.int .u8 n] => UInt8.ofNat n.toNat
  | _ => 0

end Go.Vs
