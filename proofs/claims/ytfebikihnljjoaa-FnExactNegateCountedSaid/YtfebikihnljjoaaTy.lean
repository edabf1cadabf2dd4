/-
  Ty: a part of a proof of this seat: the value-level semantics of Go code without maps (Vs), its walk rules (Vt), the frame of a row (Vr), facts of types, schedules, walks. It holds of every program and state that its hypotheses name.
-/
import Derived.Test.YtfebikihnljjoaaVt3
set_option linter.unusedSimpArgs false
set_option linter.unusedVariables false
namespace Go.Vs
/-- the decimal text of a mark -/
def mdig : Nat → Int → List UInt8 → List UInt8
  | 0, _, out => out
  | n + 1, k, out => if 0 < k then mdig n (k.tdiv 10) (UInt8.ofNat (IntKind.u8.wrap (48 + k.tmod 10)).toNat :: out) else out
def mtext (k : Int) : List UInt8 := 109 :: mdig 64 k []

/-! leafs -/
def cStr (s : List UInt8) : List D := [.str s]
def plI (n : Int) : Int := n
def plStr (s : List UInt8) : List UInt8 := s
def whI (_ : Int) : Prop := True
def whStr (_ : List UInt8) : Prop := True
def wtI (_ : Int) : Nat := 1
def wtStr (_ : List UInt8) : Nat := 1
def mkI (_ : Int) (k : Int) : Int := k
def mkStr (_ : List UInt8) (k : Int) : List UInt8 := mtext k
def hlI (n : Int) (k : Int) : Bool := n == k
def hlStr (s : List UInt8) (k : Int) : Bool := s == mtext k
def swI (_ : Int) : Nat := 0
def swStr (s : List UInt8) : Nat := s.length
def okI (_ : Int) : Prop := True
def okStr (s : List UInt8) : Prop := s.length ≤ maxLen
/-! slices -/
section
variable {α β : Type}
def plS (pl : α → β) (s : Sl α) : List β := s.xs.map pl
def whS (wh : α → Prop) (s : Sl α) : Prop := s.wh ∧ ∀ a ∈ s.xs, wh a
def wtS (wt : α → Nat) (s : Sl α) : Nat := sumW wt s.xs
def mkS (mk : α → Int → α) (wt : α → Nat) (s : Sl α) (k : Int) : Sl α := ⟨s.id, s.T, mkList mk wt s.xs k⟩
def hlS (hl : α → Int → Bool) (wt : α → Nat) (s : Sl α) (k : Int) : Bool := hlList hl wt s.xs k
def swS (sw : α → Nat) (s : Sl α) : Nat := s.xs.length + sumW sw s.xs
def okS (ok : α → Prop) (s : Sl α) : Prop := s.xs.length ≤ maxLen ∧ ∀ a ∈ s.xs, ok a
end
/-- the laws of a type's marks -/
structure Marks {α : Type} (c : α → List D) (wh : α → Prop) (wt : α → Nat) (mk : α → Int → α) (hl : α → Int → Bool) : Prop where
  hl : ∀ a k, hl (mk a k) k = true
  wt : ∀ a k, wt (mk a k) = wt a
  ids : ∀ a k, idsL (c (mk a k)) = idsL (c a)
  len : ∀ a b, (c a).length = (c b).length
  wh : ∀ a k, wh a → wh (mk a k)
theorem marksI : Marks cI whI wtI mkI hlI := ⟨by simp [hlI, mkI], by simp [wtI], by simp [cI, idsL, D.ids], by simp [cI], fun _ _ _ => trivial⟩
theorem marksStr : Marks cStr whStr wtStr mkStr hlStr := ⟨by simp [hlStr, mkStr], by simp [wtStr], by simp [cStr, idsL, D.ids], by simp [cStr], fun _ _ _ => trivial⟩
theorem wh_mkList {α : Type} {wh : α → Prop} {wt : α → Nat} {mk : α → Int → α} (h : ∀ a k, wh a → wh (mk a k)) : ∀ (l : List α) (k : Int), (∀ a ∈ l, wh a) → ∀ a ∈ mkList mk wt l k, wh a
  | [], _, _ => by simp [mkList]
  | a :: r, k, hl => by
    intro b hb
    simp only [mkList, List.mem_cons] at hb
    rcases hb with rfl | hb
    · exact h _ _ (hl a (by simp))
    · exact wh_mkList h r _ (fun a ha => hl a (by simp [ha])) b hb
theorem mdig_len : ∀ (n : Nat) (k : Int) (o : List UInt8), (mdig n k o).length ≤ n + o.length
  | 0, _, o => by simp [mdig]
  | n + 1, k, o => by
    simp only [mdig]
    split
    · have := mdig_len n (k.tdiv 10) (UInt8.ofNat (IntKind.u8.wrap (48 + k.tmod 10)).toNat :: o)
      simp only [List.length_cons] at this
      omega
    · omega
theorem ok_mkI (a : Int) (k : Int) (_ : okI a) : okI (mkI a k) := trivial
theorem ok_mkStr (a : List UInt8) (k : Int) (_ : okStr a) : okStr (mkStr a k) := by
  have := mdig_len 64 k []
  simp only [okStr, mkStr, mtext, List.length_cons, maxLen]
  simp only [List.length_nil] at this
  omega
theorem ok_mkList {α : Type} {ok : α → Prop} {wt : α → Nat} {mk : α → Int → α} (h : ∀ a k, ok a → ok (mk a k)) : ∀ (l : List α) (k : Int), (∀ a ∈ l, ok a) → ∀ a ∈ mkList mk wt l k, ok a
  | [], _, _ => by simp [mkList]
  | a :: r, k, hl => by
    intro b hb
    simp only [mkList, List.mem_cons] at hb
    rcases hb with rfl | hb
    · exact h _ _ (hl a (by simp))
    · exact ok_mkList h r _ (fun a ha => hl a (by simp [ha])) b hb
theorem ok_mkS {α : Type} {ok : α → Prop} {wt : α → Nat} {mk : α → Int → α} (h : ∀ a k, ok a → ok (mk a k)) (s : Sl α) (k : Int) (hs : okS ok s) : okS ok (mkS mk wt s k) :=
  ⟨by simpa [mkS] using hs.1, ok_mkList h _ _ hs.2⟩
theorem marksS {α : Type} {c : α → List D} {wh : α → Prop} {wt : α → Nat} {mk : α → Int → α} {hl : α → Int → Bool} (h : Marks c wh wt mk hl) : Marks (cS c) (whS wh) (wtS wt) (mkS mk wt) (hlS hl wt) :=
  ⟨fun s k => hl_mk h.hl h.wt _ _, fun s k => wt_mk h.wt _ _, fun s k => by simp only [cS, dSl, mkS, idsL, D.ids, ids_mk h.ids], fun _ _ => rfl,
    fun s k hs => ⟨hs.1.of (by simp), wh_mkList h.wh _ _ hs.2⟩⟩

structure File where
  name : List UInt8
  data : List UInt8
instance : Inhabited File := ⟨⟨default, default⟩⟩
abbrev PFile := List UInt8 × List UInt8
def cFile (a : File) : List D := cStr a.name ++ cStr a.data
def plFile (a : File) : PFile := (plStr a.name, plStr a.data)
def whFile (a : File) : Prop := whStr a.name ∧ whStr a.data
def wtFile (a : File) : Nat := wtStr a.name + wtStr a.data
def swFile (a : File) : Nat := swStr a.name + swStr a.data
def okFile (a : File) : Prop := okStr a.name ∧ okStr a.data
def mkFile (a : File) (k : Int) : File := ⟨mkStr a.name (k), mkStr a.data (k + wtStr a.name)⟩
def hlFile (a : File) (k : Int) : Bool := hlStr a.name (k) && hlStr a.data (k + wtStr a.name)
theorem marksFile : Marks cFile whFile wtFile mkFile hlFile :=
  ⟨fun a k => by simp only [hlFile, mkFile, marksStr.hl, marksStr.wt, marksStr.hl, marksStr.wt, Bool.and_self], fun a k => by simp only [wtFile, mkFile, marksStr.wt, marksStr.wt],
    fun a k => by simp only [cFile, mkFile, idsL_app, marksStr.ids, marksStr.ids], fun a b => by simp only [cFile, List.length_append, marksStr.len a.name b.name, marksStr.len a.data b.data],
    fun a k h => ⟨marksStr.wh _ _ h.1, marksStr.wh _ _ h.2⟩⟩
theorem ok_mkFile (a : File) (k : Int) (h : okFile a) : okFile (mkFile a k) := ⟨ok_mkStr _ _ h.1, ok_mkStr _ _ h.2⟩

structure Disk where
  files : Sl (File)
instance : Inhabited Disk := ⟨⟨default⟩⟩
abbrev PDisk := List (PFile)
def cDisk (a : Disk) : List D := cS cFile a.files
def plDisk (a : Disk) : PDisk := plS plFile a.files
def whDisk (a : Disk) : Prop := whS whFile a.files
def wtDisk (a : Disk) : Nat := wtS wtFile a.files
def swDisk (a : Disk) : Nat := swS swFile a.files
def okDisk (a : Disk) : Prop := okS okFile a.files
def mkDisk (a : Disk) (k : Int) : Disk := ⟨mkS (mkFile) (wtFile) a.files (k)⟩
def hlDisk (a : Disk) (k : Int) : Bool := hlS (hlFile) (wtFile) a.files (k)
theorem marksDisk : Marks cDisk whDisk wtDisk mkDisk hlDisk :=
  ⟨fun a k => by simp only [hlDisk, mkDisk, (marksS marksFile).hl, (marksS marksFile).wt, Bool.and_self], fun a k => by simp only [wtDisk, mkDisk, (marksS marksFile).wt],
    fun a k => by simp only [cDisk, mkDisk, idsL_app, (marksS marksFile).ids], fun a b => by simp only [cDisk, List.length_append, (marksS marksFile).len a.files b.files],
    fun a k h => (marksS marksFile).wh _ _ h⟩
theorem ok_mkDisk (a : Disk) (k : Int) (h : okDisk a) : okDisk (mkDisk a k) := (ok_mkS ok_mkFile) _ _ h
def wtTDisk (a : Disk) : Nat := wtS wtFile a.files
def mkTDisk (a : Disk) (k : Int) : Disk := ⟨mkS (mkFile) (wtFile) a.files (k)⟩
def hlTDisk (a : Disk) (k : Int) : Bool := hlS (hlFile) (wtFile) a.files (k)
theorem marksTDisk : Marks cDisk whDisk wtTDisk mkTDisk hlTDisk :=
  ⟨fun a k => by simp only [hlTDisk, mkTDisk, (marksS marksFile).hl, (marksS marksFile).wt, Bool.and_self], fun a k => by simp only [wtTDisk, mkTDisk, (marksS marksFile).wt],
    fun a k => by simp only [cDisk, mkTDisk, idsL_app, (marksS marksFile).ids], fun a b => by simp only [cDisk, List.length_append, (marksS marksFile).len a.files b.files],
    fun a k h => (marksS marksFile).wh _ _ h⟩
theorem ok_mkTDisk (a : Disk) (k : Int) (h : okDisk a) : okDisk (mkTDisk a k) := (ok_mkS ok_mkFile) _ _ h

structure Reln where
  ar : Int
  rows : Sl (Sl (Int))
instance : Inhabited Reln := ⟨⟨default, default⟩⟩
abbrev PReln := Int × List (List (Int))
def cReln (a : Reln) : List D := cI a.ar ++ cS (cS cI) a.rows
def plReln (a : Reln) : PReln := (plI a.ar, plS (plS plI) a.rows)
def whReln (a : Reln) : Prop := whI a.ar ∧ whS (whS whI) a.rows
def wtReln (a : Reln) : Nat := wtI a.ar + wtS (wtS wtI) a.rows
def swReln (a : Reln) : Nat := swS (swS swI) a.rows
def okReln (a : Reln) : Prop := okI a.ar ∧ okS (okS okI) a.rows
def mkReln (a : Reln) (k : Int) : Reln := ⟨mkI a.ar (k), mkS (mkS (mkI) (wtI)) (wtS wtI) a.rows (k + wtI a.ar)⟩
def hlReln (a : Reln) (k : Int) : Bool := hlI a.ar (k) && hlS (hlS (hlI) (wtI)) (wtS wtI) a.rows (k + wtI a.ar)
theorem marksReln : Marks cReln whReln wtReln mkReln hlReln :=
  ⟨fun a k => by simp only [hlReln, mkReln, marksI.hl, marksI.wt, (marksS (marksS marksI)).hl, (marksS (marksS marksI)).wt, Bool.and_self], fun a k => by simp only [wtReln, mkReln, marksI.wt, (marksS (marksS marksI)).wt],
    fun a k => by simp only [cReln, mkReln, idsL_app, marksI.ids, (marksS (marksS marksI)).ids], fun a b => by simp only [cReln, List.length_append, marksI.len a.ar b.ar, (marksS (marksS marksI)).len a.rows b.rows],
    fun a k h => ⟨marksI.wh _ _ h.1, (marksS (marksS marksI)).wh _ _ h.2⟩⟩
theorem ok_mkReln (a : Reln) (k : Int) (h : okReln a) : okReln (mkReln a k) := ⟨ok_mkI _ _ h.1, (ok_mkS (ok_mkS ok_mkI)) _ _ h.2⟩
def wtTReln (a : Reln) : Nat := wtS (wtS wtI) a.rows
def mkTReln (a : Reln) (k : Int) : Reln := ⟨a.ar, mkS (mkS (mkI) (wtI)) (wtS wtI) a.rows (k)⟩
def hlTReln (a : Reln) (k : Int) : Bool := hlS (hlS (hlI) (wtI)) (wtS wtI) a.rows (k)
theorem marksTReln : Marks cReln whReln wtTReln mkTReln hlTReln :=
  ⟨fun a k => by simp only [hlTReln, mkTReln, (marksS (marksS marksI)).hl, (marksS (marksS marksI)).wt, Bool.and_self], fun a k => by simp only [wtTReln, mkTReln, (marksS (marksS marksI)).wt],
    fun a k => by simp only [cReln, mkTReln, idsL_app, (marksS (marksS marksI)).ids], fun a b => by simp only [cReln, List.length_append, marksI.len a.ar b.ar, (marksS (marksS marksI)).len a.rows b.rows],
    fun a k h => ⟨h.1, (marksS (marksS marksI)).wh _ _ h.2⟩⟩
theorem ok_mkTReln (a : Reln) (k : Int) (h : okReln a) : okReln (mkTReln a k) := ⟨h.1, (ok_mkS (ok_mkS ok_mkI)) _ _ h.2⟩

structure Tab where
  name : List UInt8
  rel : Reln
instance : Inhabited Tab := ⟨⟨default, default⟩⟩
abbrev PTab := List UInt8 × PReln
def cTab (a : Tab) : List D := cStr a.name ++ cReln a.rel
def plTab (a : Tab) : PTab := (plStr a.name, plReln a.rel)
def whTab (a : Tab) : Prop := whStr a.name ∧ whReln a.rel
def wtTab (a : Tab) : Nat := wtStr a.name + wtReln a.rel
def swTab (a : Tab) : Nat := swStr a.name + swReln a.rel
def okTab (a : Tab) : Prop := okStr a.name ∧ okReln a.rel
def mkTab (a : Tab) (k : Int) : Tab := ⟨mkStr a.name (k), mkReln a.rel (k + wtStr a.name)⟩
def hlTab (a : Tab) (k : Int) : Bool := hlStr a.name (k) && hlReln a.rel (k + wtStr a.name)
theorem marksTab : Marks cTab whTab wtTab mkTab hlTab :=
  ⟨fun a k => by simp only [hlTab, mkTab, marksStr.hl, marksStr.wt, marksReln.hl, marksReln.wt, Bool.and_self], fun a k => by simp only [wtTab, mkTab, marksStr.wt, marksReln.wt],
    fun a k => by simp only [cTab, mkTab, idsL_app, marksStr.ids, marksReln.ids], fun a b => by simp only [cTab, List.length_append, marksStr.len a.name b.name, marksReln.len a.rel b.rel],
    fun a k h => ⟨marksStr.wh _ _ h.1, marksReln.wh _ _ h.2⟩⟩
theorem ok_mkTab (a : Tab) (k : Int) (h : okTab a) : okTab (mkTab a k) := ⟨ok_mkStr _ _ h.1, ok_mkReln _ _ h.2⟩
def wtTTab (a : Tab) : Nat := wtTReln a.rel
def mkTTab (a : Tab) (k : Int) : Tab := ⟨a.name, mkTReln a.rel (k)⟩
def hlTTab (a : Tab) (k : Int) : Bool := hlTReln a.rel (k)
theorem marksTTab : Marks cTab whTab wtTTab mkTTab hlTTab :=
  ⟨fun a k => by simp only [hlTTab, mkTTab, marksTReln.hl, marksTReln.wt, Bool.and_self], fun a k => by simp only [wtTTab, mkTTab, marksTReln.wt],
    fun a k => by simp only [cTab, mkTTab, idsL_app, marksTReln.ids], fun a b => by simp only [cTab, List.length_append, marksStr.len a.name b.name, marksReln.len a.rel b.rel],
    fun a k h => ⟨h.1, marksTReln.wh _ _ h.2⟩⟩
theorem ok_mkTTab (a : Tab) (k : Int) (h : okTab a) : okTab (mkTTab a k) := ⟨h.1, ok_mkTReln _ _ h.2⟩

structure Db where
  tabs : Sl (Tab)
instance : Inhabited Db := ⟨⟨default⟩⟩
abbrev PDb := List (PTab)
def cDb (a : Db) : List D := cS cTab a.tabs
def plDb (a : Db) : PDb := plS plTab a.tabs
def whDb (a : Db) : Prop := whS whTab a.tabs
def wtDb (a : Db) : Nat := wtS wtTab a.tabs
def swDb (a : Db) : Nat := swS swTab a.tabs
def okDb (a : Db) : Prop := okS okTab a.tabs
def mkDb (a : Db) (k : Int) : Db := ⟨mkS (mkTab) (wtTab) a.tabs (k)⟩
def hlDb (a : Db) (k : Int) : Bool := hlS (hlTab) (wtTab) a.tabs (k)
theorem marksDb : Marks cDb whDb wtDb mkDb hlDb :=
  ⟨fun a k => by simp only [hlDb, mkDb, (marksS marksTab).hl, (marksS marksTab).wt, Bool.and_self], fun a k => by simp only [wtDb, mkDb, (marksS marksTab).wt],
    fun a k => by simp only [cDb, mkDb, idsL_app, (marksS marksTab).ids], fun a b => by simp only [cDb, List.length_append, (marksS marksTab).len a.tabs b.tabs],
    fun a k h => (marksS marksTab).wh _ _ h⟩
theorem ok_mkDb (a : Db) (k : Int) (h : okDb a) : okDb (mkDb a k) := (ok_mkS ok_mkTab) _ _ h
def wtTDb (a : Db) : Nat := wtS wtTab a.tabs
def mkTDb (a : Db) (k : Int) : Db := ⟨mkS (mkTab) (wtTab) a.tabs (k)⟩
def hlTDb (a : Db) (k : Int) : Bool := hlS (hlTab) (wtTab) a.tabs (k)
theorem marksTDb : Marks cDb whDb wtTDb mkTDb hlTDb :=
  ⟨fun a k => by simp only [hlTDb, mkTDb, (marksS marksTab).hl, (marksS marksTab).wt, Bool.and_self], fun a k => by simp only [wtTDb, mkTDb, (marksS marksTab).wt],
    fun a k => by simp only [cDb, mkTDb, idsL_app, (marksS marksTab).ids], fun a b => by simp only [cDb, List.length_append, (marksS marksTab).len a.tabs b.tabs],
    fun a k h => (marksS marksTab).wh _ _ h⟩
theorem ok_mkTDb (a : Db) (k : Int) (h : okDb a) : okDb (mkTDb a k) := (ok_mkS ok_mkTab) _ _ h

structure Delta where
  name : List UInt8
  ins : Reln
  del : Reln
instance : Inhabited Delta := ⟨⟨default, default, default⟩⟩
abbrev PDelta := List UInt8 × PReln × PReln
def cDelta (a : Delta) : List D := cStr a.name ++ cReln a.ins ++ cReln a.del
def plDelta (a : Delta) : PDelta := (plStr a.name, plReln a.ins, plReln a.del)
def whDelta (a : Delta) : Prop := whStr a.name ∧ whReln a.ins ∧ whReln a.del
def wtDelta (a : Delta) : Nat := wtStr a.name + wtReln a.ins + wtReln a.del
def swDelta (a : Delta) : Nat := swStr a.name + swReln a.ins + swReln a.del
def okDelta (a : Delta) : Prop := okStr a.name ∧ okReln a.ins ∧ okReln a.del
def mkDelta (a : Delta) (k : Int) : Delta := ⟨mkStr a.name (k), mkReln a.ins (k + wtStr a.name), mkReln a.del (k + wtStr a.name + wtReln a.ins)⟩
def hlDelta (a : Delta) (k : Int) : Bool := hlStr a.name (k) && hlReln a.ins (k + wtStr a.name) && hlReln a.del (k + wtStr a.name + wtReln a.ins)
theorem marksDelta : Marks cDelta whDelta wtDelta mkDelta hlDelta :=
  ⟨fun a k => by simp only [hlDelta, mkDelta, marksStr.hl, marksStr.wt, marksReln.hl, marksReln.wt, marksReln.hl, marksReln.wt, Bool.and_self], fun a k => by simp only [wtDelta, mkDelta, marksStr.wt, marksReln.wt, marksReln.wt],
    fun a k => by simp only [cDelta, mkDelta, idsL_app, marksStr.ids, marksReln.ids, marksReln.ids], fun a b => by simp only [cDelta, List.length_append, marksStr.len a.name b.name, marksReln.len a.ins b.ins, marksReln.len a.del b.del],
    fun a k h => ⟨marksStr.wh _ _ h.1, marksReln.wh _ _ h.2.1, marksReln.wh _ _ h.2.2⟩⟩
theorem ok_mkDelta (a : Delta) (k : Int) (h : okDelta a) : okDelta (mkDelta a k) := ⟨ok_mkStr _ _ h.1, ok_mkReln _ _ h.2.1, ok_mkReln _ _ h.2.2⟩
def wtTDelta (a : Delta) : Nat := wtTReln a.ins + wtTReln a.del
def mkTDelta (a : Delta) (k : Int) : Delta := ⟨a.name, mkTReln a.ins (k), mkTReln a.del (k + wtTReln a.ins)⟩
def hlTDelta (a : Delta) (k : Int) : Bool := hlTReln a.ins (k) && hlTReln a.del (k + wtTReln a.ins)
theorem marksTDelta : Marks cDelta whDelta wtTDelta mkTDelta hlTDelta :=
  ⟨fun a k => by simp only [hlTDelta, mkTDelta, marksTReln.hl, marksTReln.wt, marksTReln.hl, marksTReln.wt, Bool.and_self], fun a k => by simp only [wtTDelta, mkTDelta, marksTReln.wt, marksTReln.wt],
    fun a k => by simp only [cDelta, mkTDelta, idsL_app, marksTReln.ids, marksTReln.ids], fun a b => by simp only [cDelta, List.length_append, marksStr.len a.name b.name, marksReln.len a.ins b.ins, marksReln.len a.del b.del],
    fun a k h => ⟨h.1, marksTReln.wh _ _ h.2.1, marksTReln.wh _ _ h.2.2⟩⟩
theorem ok_mkTDelta (a : Delta) (k : Int) (h : okDelta a) : okDelta (mkTDelta a k) := ⟨h.1, ok_mkTReln _ _ h.2.1, ok_mkTReln _ _ h.2.2⟩

structure Cnt where
  ar : Int
  rows : Sl (Sl (Int))
  cs : Sl (Int)
instance : Inhabited Cnt := ⟨⟨default, default, default⟩⟩
abbrev PCnt := Int × List (List (Int)) × List (Int)
def cCnt (a : Cnt) : List D := cI a.ar ++ cS (cS cI) a.rows ++ cS cI a.cs
def plCnt (a : Cnt) : PCnt := (plI a.ar, plS (plS plI) a.rows, plS plI a.cs)
def whCnt (a : Cnt) : Prop := whI a.ar ∧ whS (whS whI) a.rows ∧ whS whI a.cs
def wtCnt (a : Cnt) : Nat := wtI a.ar + wtS (wtS wtI) a.rows + wtS wtI a.cs
def swCnt (a : Cnt) : Nat := swS (swS swI) a.rows + swS swI a.cs
def okCnt (a : Cnt) : Prop := okI a.ar ∧ okS (okS okI) a.rows ∧ okS okI a.cs
def mkCnt (a : Cnt) (k : Int) : Cnt := ⟨mkI a.ar (k), mkS (mkS (mkI) (wtI)) (wtS wtI) a.rows (k + wtI a.ar), mkS (mkI) (wtI) a.cs (k + wtI a.ar + wtS (wtS wtI) a.rows)⟩
def hlCnt (a : Cnt) (k : Int) : Bool := hlI a.ar (k) && hlS (hlS (hlI) (wtI)) (wtS wtI) a.rows (k + wtI a.ar) && hlS (hlI) (wtI) a.cs (k + wtI a.ar + wtS (wtS wtI) a.rows)
theorem marksCnt : Marks cCnt whCnt wtCnt mkCnt hlCnt :=
  ⟨fun a k => by simp only [hlCnt, mkCnt, marksI.hl, marksI.wt, (marksS (marksS marksI)).hl, (marksS (marksS marksI)).wt, (marksS marksI).hl, (marksS marksI).wt, Bool.and_self], fun a k => by simp only [wtCnt, mkCnt, marksI.wt, (marksS (marksS marksI)).wt, (marksS marksI).wt],
    fun a k => by simp only [cCnt, mkCnt, idsL_app, marksI.ids, (marksS (marksS marksI)).ids, (marksS marksI).ids], fun a b => by simp only [cCnt, List.length_append, marksI.len a.ar b.ar, (marksS (marksS marksI)).len a.rows b.rows, (marksS marksI).len a.cs b.cs],
    fun a k h => ⟨marksI.wh _ _ h.1, (marksS (marksS marksI)).wh _ _ h.2.1, (marksS marksI).wh _ _ h.2.2⟩⟩
theorem ok_mkCnt (a : Cnt) (k : Int) (h : okCnt a) : okCnt (mkCnt a k) := ⟨ok_mkI _ _ h.1, (ok_mkS (ok_mkS ok_mkI)) _ _ h.2.1, (ok_mkS ok_mkI) _ _ h.2.2⟩
def wtTCnt (a : Cnt) : Nat := wtS (wtS wtI) a.rows + wtS wtI a.cs
def mkTCnt (a : Cnt) (k : Int) : Cnt := ⟨a.ar, mkS (mkS (mkI) (wtI)) (wtS wtI) a.rows (k), mkS (mkI) (wtI) a.cs (k + wtS (wtS wtI) a.rows)⟩
def hlTCnt (a : Cnt) (k : Int) : Bool := hlS (hlS (hlI) (wtI)) (wtS wtI) a.rows (k) && hlS (hlI) (wtI) a.cs (k + wtS (wtS wtI) a.rows)
theorem marksTCnt : Marks cCnt whCnt wtTCnt mkTCnt hlTCnt :=
  ⟨fun a k => by simp only [hlTCnt, mkTCnt, (marksS (marksS marksI)).hl, (marksS (marksS marksI)).wt, (marksS marksI).hl, (marksS marksI).wt, Bool.and_self], fun a k => by simp only [wtTCnt, mkTCnt, (marksS (marksS marksI)).wt, (marksS marksI).wt],
    fun a k => by simp only [cCnt, mkTCnt, idsL_app, (marksS (marksS marksI)).ids, (marksS marksI).ids], fun a b => by simp only [cCnt, List.length_append, marksI.len a.ar b.ar, (marksS (marksS marksI)).len a.rows b.rows, (marksS marksI).len a.cs b.cs],
    fun a k h => ⟨h.1, (marksS (marksS marksI)).wh _ _ h.2.1, (marksS marksI).wh _ _ h.2.2⟩⟩
theorem ok_mkTCnt (a : Cnt) (k : Int) (h : okCnt a) : okCnt (mkTCnt a k) := ⟨h.1, (ok_mkS (ok_mkS ok_mkI)) _ _ h.2.1, (ok_mkS ok_mkI) _ _ h.2.2⟩

structure Atom where
  rel : List UInt8
  vars : Sl (Int)
instance : Inhabited Atom := ⟨⟨default, default⟩⟩
abbrev PAtom := List UInt8 × List (Int)
def cAtom (a : Atom) : List D := cStr a.rel ++ cS cI a.vars
def plAtom (a : Atom) : PAtom := (plStr a.rel, plS plI a.vars)
def whAtom (a : Atom) : Prop := whStr a.rel ∧ whS whI a.vars
def wtAtom (a : Atom) : Nat := wtStr a.rel + wtS wtI a.vars
def swAtom (a : Atom) : Nat := swStr a.rel + swS swI a.vars
def okAtom (a : Atom) : Prop := okStr a.rel ∧ okS okI a.vars
def mkAtom (a : Atom) (k : Int) : Atom := ⟨mkStr a.rel (k), mkS (mkI) (wtI) a.vars (k + wtStr a.rel)⟩
def hlAtom (a : Atom) (k : Int) : Bool := hlStr a.rel (k) && hlS (hlI) (wtI) a.vars (k + wtStr a.rel)
theorem marksAtom : Marks cAtom whAtom wtAtom mkAtom hlAtom :=
  ⟨fun a k => by simp only [hlAtom, mkAtom, marksStr.hl, marksStr.wt, (marksS marksI).hl, (marksS marksI).wt, Bool.and_self], fun a k => by simp only [wtAtom, mkAtom, marksStr.wt, (marksS marksI).wt],
    fun a k => by simp only [cAtom, mkAtom, idsL_app, marksStr.ids, (marksS marksI).ids], fun a b => by simp only [cAtom, List.length_append, marksStr.len a.rel b.rel, (marksS marksI).len a.vars b.vars],
    fun a k h => ⟨marksStr.wh _ _ h.1, (marksS marksI).wh _ _ h.2⟩⟩
theorem ok_mkAtom (a : Atom) (k : Int) (h : okAtom a) : okAtom (mkAtom a k) := ⟨ok_mkStr _ _ h.1, (ok_mkS ok_mkI) _ _ h.2⟩
def wtTAtom (a : Atom) : Nat := wtS wtI a.vars
def mkTAtom (a : Atom) (k : Int) : Atom := ⟨a.rel, mkS (mkI) (wtI) a.vars (k)⟩
def hlTAtom (a : Atom) (k : Int) : Bool := hlS (hlI) (wtI) a.vars (k)
theorem marksTAtom : Marks cAtom whAtom wtTAtom mkTAtom hlTAtom :=
  ⟨fun a k => by simp only [hlTAtom, mkTAtom, (marksS marksI).hl, (marksS marksI).wt, Bool.and_self], fun a k => by simp only [wtTAtom, mkTAtom, (marksS marksI).wt],
    fun a k => by simp only [cAtom, mkTAtom, idsL_app, (marksS marksI).ids], fun a b => by simp only [cAtom, List.length_append, marksStr.len a.rel b.rel, (marksS marksI).len a.vars b.vars],
    fun a k h => ⟨h.1, (marksS marksI).wh _ _ h.2⟩⟩
theorem ok_mkTAtom (a : Atom) (k : Int) (h : okAtom a) : okAtom (mkTAtom a k) := ⟨h.1, (ok_mkS ok_mkI) _ _ h.2⟩

structure Query where
  n : Int
  atoms : Sl (Atom)
  out : Sl (Int)
instance : Inhabited Query := ⟨⟨default, default, default⟩⟩
abbrev PQuery := Int × List (PAtom) × List (Int)
def cQuery (a : Query) : List D := cI a.n ++ cS cAtom a.atoms ++ cS cI a.out
def plQuery (a : Query) : PQuery := (plI a.n, plS plAtom a.atoms, plS plI a.out)
def whQuery (a : Query) : Prop := whI a.n ∧ whS whAtom a.atoms ∧ whS whI a.out
def wtQuery (a : Query) : Nat := wtI a.n + wtS wtAtom a.atoms + wtS wtI a.out
def swQuery (a : Query) : Nat := swS swAtom a.atoms + swS swI a.out
def okQuery (a : Query) : Prop := okI a.n ∧ okS okAtom a.atoms ∧ okS okI a.out
def mkQuery (a : Query) (k : Int) : Query := ⟨mkI a.n (k), mkS (mkAtom) (wtAtom) a.atoms (k + wtI a.n), mkS (mkI) (wtI) a.out (k + wtI a.n + wtS wtAtom a.atoms)⟩
def hlQuery (a : Query) (k : Int) : Bool := hlI a.n (k) && hlS (hlAtom) (wtAtom) a.atoms (k + wtI a.n) && hlS (hlI) (wtI) a.out (k + wtI a.n + wtS wtAtom a.atoms)
theorem marksQuery : Marks cQuery whQuery wtQuery mkQuery hlQuery :=
  ⟨fun a k => by simp only [hlQuery, mkQuery, marksI.hl, marksI.wt, (marksS marksAtom).hl, (marksS marksAtom).wt, (marksS marksI).hl, (marksS marksI).wt, Bool.and_self], fun a k => by simp only [wtQuery, mkQuery, marksI.wt, (marksS marksAtom).wt, (marksS marksI).wt],
    fun a k => by simp only [cQuery, mkQuery, idsL_app, marksI.ids, (marksS marksAtom).ids, (marksS marksI).ids], fun a b => by simp only [cQuery, List.length_append, marksI.len a.n b.n, (marksS marksAtom).len a.atoms b.atoms, (marksS marksI).len a.out b.out],
    fun a k h => ⟨marksI.wh _ _ h.1, (marksS marksAtom).wh _ _ h.2.1, (marksS marksI).wh _ _ h.2.2⟩⟩
theorem ok_mkQuery (a : Query) (k : Int) (h : okQuery a) : okQuery (mkQuery a k) := ⟨ok_mkI _ _ h.1, (ok_mkS ok_mkAtom) _ _ h.2.1, (ok_mkS ok_mkI) _ _ h.2.2⟩
def wtTQuery (a : Query) : Nat := wtS wtAtom a.atoms + wtS wtI a.out
def mkTQuery (a : Query) (k : Int) : Query := ⟨a.n, mkS (mkAtom) (wtAtom) a.atoms (k), mkS (mkI) (wtI) a.out (k + wtS wtAtom a.atoms)⟩
def hlTQuery (a : Query) (k : Int) : Bool := hlS (hlAtom) (wtAtom) a.atoms (k) && hlS (hlI) (wtI) a.out (k + wtS wtAtom a.atoms)
theorem marksTQuery : Marks cQuery whQuery wtTQuery mkTQuery hlTQuery :=
  ⟨fun a k => by simp only [hlTQuery, mkTQuery, (marksS marksAtom).hl, (marksS marksAtom).wt, (marksS marksI).hl, (marksS marksI).wt, Bool.and_self], fun a k => by simp only [wtTQuery, mkTQuery, (marksS marksAtom).wt, (marksS marksI).wt],
    fun a k => by simp only [cQuery, mkTQuery, idsL_app, (marksS marksAtom).ids, (marksS marksI).ids], fun a b => by simp only [cQuery, List.length_append, marksI.len a.n b.n, (marksS marksAtom).len a.atoms b.atoms, (marksS marksI).len a.out b.out],
    fun a k h => ⟨h.1, (marksS marksAtom).wh _ _ h.2.1, (marksS marksI).wh _ _ h.2.2⟩⟩
theorem ok_mkTQuery (a : Query) (k : Int) (h : okQuery a) : okQuery (mkTQuery a k) := ⟨h.1, (ok_mkS ok_mkAtom) _ _ h.2.1, (ok_mkS ok_mkI) _ _ h.2.2⟩

structure View where
  q : Query
  r : Cnt
instance : Inhabited View := ⟨⟨default, default⟩⟩
abbrev PView := PQuery × PCnt
def cView (a : View) : List D := cQuery a.q ++ cCnt a.r
def plView (a : View) : PView := (plQuery a.q, plCnt a.r)
def whView (a : View) : Prop := whQuery a.q ∧ whCnt a.r
def wtView (a : View) : Nat := wtQuery a.q + wtCnt a.r
def swView (a : View) : Nat := swQuery a.q + swCnt a.r
def okView (a : View) : Prop := okQuery a.q ∧ okCnt a.r
def mkView (a : View) (k : Int) : View := ⟨mkQuery a.q (k), mkCnt a.r (k + wtQuery a.q)⟩
def hlView (a : View) (k : Int) : Bool := hlQuery a.q (k) && hlCnt a.r (k + wtQuery a.q)
theorem marksView : Marks cView whView wtView mkView hlView :=
  ⟨fun a k => by simp only [hlView, mkView, marksQuery.hl, marksQuery.wt, marksCnt.hl, marksCnt.wt, Bool.and_self], fun a k => by simp only [wtView, mkView, marksQuery.wt, marksCnt.wt],
    fun a k => by simp only [cView, mkView, idsL_app, marksQuery.ids, marksCnt.ids], fun a b => by simp only [cView, List.length_append, marksQuery.len a.q b.q, marksCnt.len a.r b.r],
    fun a k h => ⟨marksQuery.wh _ _ h.1, marksCnt.wh _ _ h.2⟩⟩
theorem ok_mkView (a : View) (k : Int) (h : okView a) : okView (mkView a k) := ⟨ok_mkQuery _ _ h.1, ok_mkCnt _ _ h.2⟩
def wtTView (a : View) : Nat := wtTQuery a.q + wtTCnt a.r
def mkTView (a : View) (k : Int) : View := ⟨mkTQuery a.q (k), mkTCnt a.r (k + wtTQuery a.q)⟩
def hlTView (a : View) (k : Int) : Bool := hlTQuery a.q (k) && hlTCnt a.r (k + wtTQuery a.q)
theorem marksTView : Marks cView whView wtTView mkTView hlTView :=
  ⟨fun a k => by simp only [hlTView, mkTView, marksTQuery.hl, marksTQuery.wt, marksTCnt.hl, marksTCnt.wt, Bool.and_self], fun a k => by simp only [wtTView, mkTView, marksTQuery.wt, marksTCnt.wt],
    fun a k => by simp only [cView, mkTView, idsL_app, marksTQuery.ids, marksTCnt.ids], fun a b => by simp only [cView, List.length_append, marksQuery.len a.q b.q, marksCnt.len a.r b.r],
    fun a k h => ⟨marksTQuery.wh _ _ h.1, marksTCnt.wh _ _ h.2⟩⟩
theorem ok_mkTView (a : View) (k : Int) (h : okView a) : okView (mkTView a k) := ⟨ok_mkTQuery _ _ h.1, ok_mkTCnt _ _ h.2⟩

structure Dec where
  bags : Sl (Sl (Int))
  par : Sl (Int)
instance : Inhabited Dec := ⟨⟨default, default⟩⟩
abbrev PDec := List (List (Int)) × List (Int)
def cDec (a : Dec) : List D := cS (cS cI) a.bags ++ cS cI a.par
def plDec (a : Dec) : PDec := (plS (plS plI) a.bags, plS plI a.par)
def whDec (a : Dec) : Prop := whS (whS whI) a.bags ∧ whS whI a.par
def wtDec (a : Dec) : Nat := wtS (wtS wtI) a.bags + wtS wtI a.par
def swDec (a : Dec) : Nat := swS (swS swI) a.bags + swS swI a.par
def okDec (a : Dec) : Prop := okS (okS okI) a.bags ∧ okS okI a.par
def mkDec (a : Dec) (k : Int) : Dec := ⟨mkS (mkS (mkI) (wtI)) (wtS wtI) a.bags (k), mkS (mkI) (wtI) a.par (k + wtS (wtS wtI) a.bags)⟩
def hlDec (a : Dec) (k : Int) : Bool := hlS (hlS (hlI) (wtI)) (wtS wtI) a.bags (k) && hlS (hlI) (wtI) a.par (k + wtS (wtS wtI) a.bags)
theorem marksDec : Marks cDec whDec wtDec mkDec hlDec :=
  ⟨fun a k => by simp only [hlDec, mkDec, (marksS (marksS marksI)).hl, (marksS (marksS marksI)).wt, (marksS marksI).hl, (marksS marksI).wt, Bool.and_self], fun a k => by simp only [wtDec, mkDec, (marksS (marksS marksI)).wt, (marksS marksI).wt],
    fun a k => by simp only [cDec, mkDec, idsL_app, (marksS (marksS marksI)).ids, (marksS marksI).ids], fun a b => by simp only [cDec, List.length_append, (marksS (marksS marksI)).len a.bags b.bags, (marksS marksI).len a.par b.par],
    fun a k h => ⟨(marksS (marksS marksI)).wh _ _ h.1, (marksS marksI).wh _ _ h.2⟩⟩
theorem ok_mkDec (a : Dec) (k : Int) (h : okDec a) : okDec (mkDec a k) := ⟨(ok_mkS (ok_mkS ok_mkI)) _ _ h.1, (ok_mkS ok_mkI) _ _ h.2⟩
def wtTDec (a : Dec) : Nat := wtS (wtS wtI) a.bags + wtS wtI a.par
def mkTDec (a : Dec) (k : Int) : Dec := ⟨mkS (mkS (mkI) (wtI)) (wtS wtI) a.bags (k), mkS (mkI) (wtI) a.par (k + wtS (wtS wtI) a.bags)⟩
def hlTDec (a : Dec) (k : Int) : Bool := hlS (hlS (hlI) (wtI)) (wtS wtI) a.bags (k) && hlS (hlI) (wtI) a.par (k + wtS (wtS wtI) a.bags)
theorem marksTDec : Marks cDec whDec wtTDec mkTDec hlTDec :=
  ⟨fun a k => by simp only [hlTDec, mkTDec, (marksS (marksS marksI)).hl, (marksS (marksS marksI)).wt, (marksS marksI).hl, (marksS marksI).wt, Bool.and_self], fun a k => by simp only [wtTDec, mkTDec, (marksS (marksS marksI)).wt, (marksS marksI).wt],
    fun a k => by simp only [cDec, mkTDec, idsL_app, (marksS (marksS marksI)).ids, (marksS marksI).ids], fun a b => by simp only [cDec, List.length_append, (marksS (marksS marksI)).len a.bags b.bags, (marksS marksI).len a.par b.par],
    fun a k h => ⟨(marksS (marksS marksI)).wh _ _ h.1, (marksS marksI).wh _ _ h.2⟩⟩
theorem ok_mkTDec (a : Dec) (k : Int) (h : okDec a) : okDec (mkTDec a k) := ⟨(ok_mkS (ok_mkS ok_mkI)) _ _ h.1, (ok_mkS ok_mkI) _ _ h.2⟩

structure VRel where
  vars : Sl (Int)
  rel : Reln
instance : Inhabited VRel := ⟨⟨default, default⟩⟩
abbrev PVRel := List (Int) × PReln
def cVRel (a : VRel) : List D := cS cI a.vars ++ cReln a.rel
def plVRel (a : VRel) : PVRel := (plS plI a.vars, plReln a.rel)
def whVRel (a : VRel) : Prop := whS whI a.vars ∧ whReln a.rel
def wtVRel (a : VRel) : Nat := wtS wtI a.vars + wtReln a.rel
def swVRel (a : VRel) : Nat := swS swI a.vars + swReln a.rel
def okVRel (a : VRel) : Prop := okS okI a.vars ∧ okReln a.rel
def mkVRel (a : VRel) (k : Int) : VRel := ⟨mkS (mkI) (wtI) a.vars (k), mkReln a.rel (k + wtS wtI a.vars)⟩
def hlVRel (a : VRel) (k : Int) : Bool := hlS (hlI) (wtI) a.vars (k) && hlReln a.rel (k + wtS wtI a.vars)
theorem marksVRel : Marks cVRel whVRel wtVRel mkVRel hlVRel :=
  ⟨fun a k => by simp only [hlVRel, mkVRel, (marksS marksI).hl, (marksS marksI).wt, marksReln.hl, marksReln.wt, Bool.and_self], fun a k => by simp only [wtVRel, mkVRel, (marksS marksI).wt, marksReln.wt],
    fun a k => by simp only [cVRel, mkVRel, idsL_app, (marksS marksI).ids, marksReln.ids], fun a b => by simp only [cVRel, List.length_append, (marksS marksI).len a.vars b.vars, marksReln.len a.rel b.rel],
    fun a k h => ⟨(marksS marksI).wh _ _ h.1, marksReln.wh _ _ h.2⟩⟩
theorem ok_mkVRel (a : VRel) (k : Int) (h : okVRel a) : okVRel (mkVRel a k) := ⟨(ok_mkS ok_mkI) _ _ h.1, ok_mkReln _ _ h.2⟩
def wtTVRel (a : VRel) : Nat := wtS wtI a.vars + wtTReln a.rel
def mkTVRel (a : VRel) (k : Int) : VRel := ⟨mkS (mkI) (wtI) a.vars (k), mkTReln a.rel (k + wtS wtI a.vars)⟩
def hlTVRel (a : VRel) (k : Int) : Bool := hlS (hlI) (wtI) a.vars (k) && hlTReln a.rel (k + wtS wtI a.vars)
theorem marksTVRel : Marks cVRel whVRel wtTVRel mkTVRel hlTVRel :=
  ⟨fun a k => by simp only [hlTVRel, mkTVRel, (marksS marksI).hl, (marksS marksI).wt, marksTReln.hl, marksTReln.wt, Bool.and_self], fun a k => by simp only [wtTVRel, mkTVRel, (marksS marksI).wt, marksTReln.wt],
    fun a k => by simp only [cVRel, mkTVRel, idsL_app, (marksS marksI).ids, marksTReln.ids], fun a b => by simp only [cVRel, List.length_append, (marksS marksI).len a.vars b.vars, marksReln.len a.rel b.rel],
    fun a k h => ⟨(marksS marksI).wh _ _ h.1, marksTReln.wh _ _ h.2⟩⟩
theorem ok_mkTVRel (a : VRel) (k : Int) (h : okVRel a) : okVRel (mkTVRel a k) := ⟨(ok_mkS ok_mkI) _ _ h.1, ok_mkTReln _ _ h.2⟩

structure Hist where
  first : Int
  dbs : Sl (Db)
instance : Inhabited Hist := ⟨⟨default, default⟩⟩
abbrev PHist := Int × List (PDb)
def cHist (a : Hist) : List D := cI a.first ++ cS cDb a.dbs
def plHist (a : Hist) : PHist := (plI a.first, plS plDb a.dbs)
def whHist (a : Hist) : Prop := whI a.first ∧ whS whDb a.dbs
def wtHist (a : Hist) : Nat := wtI a.first + wtS wtDb a.dbs
def swHist (a : Hist) : Nat := swS swDb a.dbs
def okHist (a : Hist) : Prop := okI a.first ∧ okS okDb a.dbs
def mkHist (a : Hist) (k : Int) : Hist := ⟨mkI a.first (k), mkS (mkDb) (wtDb) a.dbs (k + wtI a.first)⟩
def hlHist (a : Hist) (k : Int) : Bool := hlI a.first (k) && hlS (hlDb) (wtDb) a.dbs (k + wtI a.first)
theorem marksHist : Marks cHist whHist wtHist mkHist hlHist :=
  ⟨fun a k => by simp only [hlHist, mkHist, marksI.hl, marksI.wt, (marksS marksDb).hl, (marksS marksDb).wt, Bool.and_self], fun a k => by simp only [wtHist, mkHist, marksI.wt, (marksS marksDb).wt],
    fun a k => by simp only [cHist, mkHist, idsL_app, marksI.ids, (marksS marksDb).ids], fun a b => by simp only [cHist, List.length_append, marksI.len a.first b.first, (marksS marksDb).len a.dbs b.dbs],
    fun a k h => ⟨marksI.wh _ _ h.1, (marksS marksDb).wh _ _ h.2⟩⟩
theorem ok_mkHist (a : Hist) (k : Int) (h : okHist a) : okHist (mkHist a k) := ⟨ok_mkI _ _ h.1, (ok_mkS ok_mkDb) _ _ h.2⟩
def wtTHist (a : Hist) : Nat := wtS wtDb a.dbs
def mkTHist (a : Hist) (k : Int) : Hist := ⟨a.first, mkS (mkDb) (wtDb) a.dbs (k)⟩
def hlTHist (a : Hist) (k : Int) : Bool := hlS (hlDb) (wtDb) a.dbs (k)
theorem marksTHist : Marks cHist whHist wtTHist mkTHist hlTHist :=
  ⟨fun a k => by simp only [hlTHist, mkTHist, (marksS marksDb).hl, (marksS marksDb).wt, Bool.and_self], fun a k => by simp only [wtTHist, mkTHist, (marksS marksDb).wt],
    fun a k => by simp only [cHist, mkTHist, idsL_app, (marksS marksDb).ids], fun a b => by simp only [cHist, List.length_append, marksI.len a.first b.first, (marksS marksDb).len a.dbs b.dbs],
    fun a k h => ⟨h.1, (marksS marksDb).wh _ _ h.2⟩⟩
theorem ok_mkTHist (a : Hist) (k : Int) (h : okHist a) : okHist (mkTHist a k) := ⟨h.1, (ok_mkS ok_mkDb) _ _ h.2⟩

structure Rat where
  num : Int
  den : Int
instance : Inhabited Rat := ⟨⟨default, default⟩⟩
abbrev PRat := Int × Int
def cRat (a : Rat) : List D := cI a.num ++ cI a.den
def plRat (a : Rat) : PRat := (plI a.num, plI a.den)
def whRat (a : Rat) : Prop := whI a.num ∧ whI a.den
def wtRat (a : Rat) : Nat := wtI a.num + wtI a.den
def swRat (a : Rat) : Nat := 0
def okRat (a : Rat) : Prop := okI a.num ∧ okI a.den
def mkRat (a : Rat) (k : Int) : Rat := ⟨mkI a.num (k), mkI a.den (k + wtI a.num)⟩
def hlRat (a : Rat) (k : Int) : Bool := hlI a.num (k) && hlI a.den (k + wtI a.num)
theorem marksRat : Marks cRat whRat wtRat mkRat hlRat :=
  ⟨fun a k => by simp only [hlRat, mkRat, marksI.hl, marksI.wt, marksI.hl, marksI.wt, Bool.and_self], fun a k => by simp only [wtRat, mkRat, marksI.wt, marksI.wt],
    fun a k => by simp only [cRat, mkRat, idsL_app, marksI.ids, marksI.ids], fun a b => by simp only [cRat, List.length_append, marksI.len a.num b.num, marksI.len a.den b.den],
    fun a k h => ⟨marksI.wh _ _ h.1, marksI.wh _ _ h.2⟩⟩
theorem ok_mkRat (a : Rat) (k : Int) (h : okRat a) : okRat (mkRat a k) := ⟨ok_mkI _ _ h.1, ok_mkI _ _ h.2⟩

end Go.Vs
