/-
  Vs2: a part of a proof of this seat: the value-level semantics of Go code without maps (Vs), its walk rules (Vt), the frame of a row (Vr), facts of types, schedules, walks. It holds of every program and state that its hypotheses name.
-/
import Derived.Test.YtfebikihnljjoaaVs1
import Derived.RowKit
set_option linter.unusedSimpArgs false
set_option linter.unusedVariables false
namespace Go.Vs
open Go.RowKit

/-! ### the relation between data and memory -/

inductive DR (S : Nat → Prop) (w : World) : D → Value → Prop
  | bool (b : Bool) : DR S w (.bool b) (.bool b)
  | int (k : IntKind) (n : Int) : DR S w (.int k n) (.int k n)
  | str (s : List UInt8) : DR S w (.str s) (.string ⟨s.toArray⟩)
  | nil (T : Option TypeId) : DR S w (.sl none T []) (.slice none 0 0)
  | sl (g : Nat) (T : Option TypeId) (es : List (List D)) (a : Addr) (cap sz : Nat) (vs : Nat → Value) (hS : S g) (ha : 0 < cap → a.block = g) (hcap : es.length ≤ cap) (hm : cap ≤ maxLen)
      (hsz : ∀ (i : Nat) (e : List D), es[i]? = some e → e.length = sz)
      (hc : ∀ (i : Nat) (e : List D), es[i]? = some e → ∀ (j : Nat) (u : D), e[j]? = some u → w.cell? (a.add (i * sz + j)) = some (vs (i * sz + j)))
      (hd : ∀ (i : Nat) (e : List D), es[i]? = some e → ∀ (j : Nat) (u : D), e[j]? = some u → DR S w u (vs (i * sz + j)))
      (hw : ∀ t, T = some t → a = ⟨g, 0, none⟩ ∧ 0 < sz ∧ ∃ cur, w.heap[g]? = some (.cells cur t (0, 0)) ∧ cur.size = cap * sz) :
      DR S w (.sl (some g) T es) (.slice (some a) es.length cap)

def OwnV (r : Option (Nat × Nat)) (sz lo n : Nat) (v : Value) : Prop :=
  match r with
  | none => v = .slice none 0 0 ∧ n = 0 ∧ lo = 0
  | some (g, cap) => ∃ a c, v = .slice (some a) n c ∧ a.block = g ∧ n ≤ c ∧ c ≤ maxLen ∧ (lo = 0 → a = ⟨g, 0, none⟩ ∧ c = cap) ∧ (0 < n → a = ⟨g, lo * sz, none⟩)

mutual
def VR (ρ : Nat → Option (Nat × Nat)) (m : Nat → Option Blk) (S : Nat → Prop) (w : World) : V → Value → Prop
  | .d x, v => DR S w x v
  | .own k lo n, v => match m k with
    | some (.row _ sz es) => lo + n ≤ es.length ∧ OwnV (ρ k) sz lo n v
    | some (.box _) => False
    | none => True
  | .ptr k i off, v => match m k with
    | some (.row _ sz _) => ∃ g cap, ρ k = some (g, cap) ∧ v = .pointer (some ⟨g, i * sz + off, none⟩)
    | some (.box _) => i = 0 ∧ ∃ g cap, ρ k = some (g, cap) ∧ v = .pointer (some ⟨g, off, none⟩)
    | none => True
  | .rptr es, v => ∃ (a : Addr) (vs : Nat → Value), v = .pointer (some a) ∧ S a.block ∧ ∀ (j : Nat) (u : D), es[j]? = some u → w.cell? (a.add j) = some (vs j) ∧ DR S w u (vs j)
  | .bad, _ => True
  | .agg cs, v => ∃ l : List Value, v = .agg l.toArray ∧ LR ρ m S w cs l
  | .tup vs, v => ∃ l : List Value, v = .tuple l.toArray ∧ LR ρ m S w vs l
def LR (ρ : Nat → Option (Nat × Nat)) (m : Nat → Option Blk) (S : Nat → Prop) (w : World) : List V → List Value → Prop
  | [], [] => True
  | c :: cs, v :: l => VR ρ m S w c v ∧ LR ρ m S w cs l
  | _, _ => False
end

def BlkR (ρ : Nat → Option (Nat × Nat)) (m : Nat → Option Blk) (S : Nat → Prop) (B : Nat) (w : World) (r : Option (Nat × Nat)) : Blk → Prop
  | .box cs => ∃ g cap, r = some (g, cap) ∧ B ≤ g ∧ ∃ cur T, w.heap[g]? = some (.cells cur T (0, 0)) ∧ LR ρ m S w cs cur.toList
  | .row T sz es => 0 < sz ∧ match r with
    | none => es = []
    | some (g, cap) => B ≤ g ∧ cap ≤ maxLen ∧ es.length ≤ cap ∧ ∃ cur, w.heap[g]? = some (.cells cur T (0, 0)) ∧ cur.size = cap * sz ∧
        ∀ (i : Nat) (e : List D), es[i]? = some e → e.length = sz ∧ ∀ (j : Nat) (u : D), e[j]? = some u → ∃ v, cur[i * sz + j]? = some v ∧ DR S w u v

def Sof (A0 : Nat → Prop) (B : Nat) (ρ : Nat → Option (Nat × Nat)) (m : Nat → Option Blk) (w : World) (g : Nat) : Prop :=
  (A0 g ∨ B ≤ g) ∧ g < w.heap.size ∧ ∀ k b, m k = some b → ∀ p, ρ k = some p → p.1 ≠ g

structure Rel (A0 : Nat → Prop) (N : Nat) (w0 : World) (ρ : Nat → Option (Nat × Nat)) (σ : St) (a : Act) (w : World) : Prop where
  below : Below w0.heap.size w0 w
  hB : σ.B = w0.heap.size
  hs : σ.hs ≤ w.heap.size
  hs0 : σ.B ≤ σ.hs
  defers : a.defers = []
  size : a.tmps.size = N
  tmps : ∀ i, VR ρ σ.m (Sof A0 σ.B ρ σ.m w) w (σ.t i) (a.eval (.tmp i))
  mem : ∀ k b, σ.m k = some b → BlkR ρ σ.m (Sof A0 σ.B ρ σ.m w) σ.B w (ρ k) b
  inj : ∀ k k' b b' p p', σ.m k = some b → σ.m k' = some b' → ρ k = some p → ρ k' = some p' → p.1 = p'.1 → k = k'

/-- what may be said of σ is said of some state where K holds -/
def Lead (K : St → Prop) (σ : St) : Prop :=
  ∀ A0 N w0 ρ a w, Rel A0 N w0 ρ σ a w → ∃ σ' ρ', Rel A0 N w0 ρ' σ' a w ∧ K σ'

theorem Lead.of {K : St → Prop} {σ : St} (h : K σ) : Lead K σ := fun _ _ _ ρ _ _ hR => ⟨σ, ρ, hR, h⟩
theorem Lead.mono {K K' : St → Prop} {σ : St} (h : Lead K σ) (hk : ∀ σ, K σ → K' σ) : Lead K' σ := fun A0 N w0 ρ a w hR =>
  let ⟨σ', ρ', hR', hK⟩ := h A0 N w0 ρ a w hR; ⟨σ', ρ', hR', hk _ hK⟩
theorem Lead.trans {K : St → Prop} {σ : St} (h : Lead (Lead K) σ) : Lead K σ := fun A0 N w0 ρ a w hR =>
  let ⟨_, _, hR', hK⟩ := h A0 N w0 ρ a w hR; hK A0 N w0 _ a w hR'

/-- a function's contract: args, result are data -/
def VC (P : Program) (f : FuncId) (args : List V) (post : Nat → V → Prop) : Prop :=
  (∃ fn, P.funcs[f]? = some fn ∧ fn.body.isSome = true ∧ (fn.name == "runtime.NumGoroutine") = false) ∧
  ∀ (w : World) (vals : List Value), LR (fun _ => none) (fun _ => none) (fun g => g < w.heap.size ∧ g ∈ idsVL args) w args vals →
    Calls P f vals.toArray w fun e w' => ∃ v r, e = .returned v ∧ Below w.heap.size w w' ∧
      VR (fun _ => none) (fun _ => none) (fun g => (g ∈ idsVL args ∨ w.heap.size ≤ g) ∧ g < w'.heap.size) w' r v ∧ rd (fun _ => none) (fun _ => none) r = some r ∧ post w.heap.size r

/-- of a number g of a block: nothing that the state holds as data lies in it -/
structure FrOf (σ : St) (g : Nat) : Prop where
  lo : σ.B ≤ g
  row : ∀ k T sz es, σ.m k = some (.row T sz es) → g ∉ idsLL es
  box : ∀ k cs, σ.m k = some (.box cs) → g ∉ idsVL cs
  slot : ∀ i, g ∉ (σ.t i).ids

/-- γ: the blocks of the own rows -/
structure Gam (σ : St) (γ : Nat → Option Nat) (hs' : Nat) : Prop where
  some : ∀ k T sz es, σ.m k = some (.row T sz es) → es ≠ [] → ∃ g, γ k = some g
  fr : ∀ k T sz es g, σ.m k = .some (.row T sz es) → γ k = .some g → FrOf σ g ∧ g < hs'
  ne : ∀ k k' b b' g, σ.m k = .some b → σ.m k' = .some b' → γ k = .some g → γ k' = .some g → k = k'

def St.frzs (γ : Nat → Option Nat) : List Nat → St → St
  | [], σ => σ
  | k :: r, σ => match σ.m k with
    | some (.row T _ es) => St.frzs γ r (σ.frz k (γ k) T es)
    | _ => St.frzs γ r σ

def chunk (sz : Nat) : Nat → List D → List (List D)
  | 0, _ => []
  | n + 1, l => l.take sz :: chunk sz n (l.drop sz)

def splice {α : Type} (l : List α) (off : Nat) (news : List α) : List α := l.take off ++ news ++ l.drop (off + news.length)

/-- room for so many elements -/
def LenOk (bytes n : Nat) : Prop := n * bytes ≤ 140737488355328 ∧ n ≤ maxLen

def isB : List D → Bool
  | [.int .u8 _] => true
  | _ => false
def toB : List D → UInt8
  | [.int .u8 n] => UInt8.ofNat n.toNat
  | _ => 0

end Go.Vs
