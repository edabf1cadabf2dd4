/-
  Q3A4: a part of a proof of this seat: the value-level semantics of Go code without maps, its walk rules, the frame of a row, facts of types, schedules, walks, plain lemmas (Pl21 Pl22 Pl23 Pl24 Pl25 Pl26 Pl27 Pl28 Pl29 Pl30 Pl31 Pl32 Pl33 Pl34 Pl35 Pl36 Pl37 Pl38 Pl39 Pl40 Pl41 Pl42 Pl43 Pl44 Pl45 Pl46 Pl47 Pl48 Pl49 Pl50 Pl51 Pl52 Pl53 Pl54 Pl55 Pl56 Pl58 Pl64 Pl65 Pl66 Pl67 Pl68 Pl69 Pl71 Pl72 Pl73). It holds of every program and state that its hypotheses name.
-/
import Derived.Test.YtmgphabeodaokaaGreatQ3A3
set_option linter.unusedSimpArgs false
set_option linter.unusedVariables false
set_option linter.unnecessarySimpa false
namespace Go.Vs
theorem VC.er {P : Program} {f : FuncId} {As Ps : List V} {post : Nat -> V -> Prop} (h : VC P f Ps post) (hp : rpL (fun _ => none) As = some Ps) : VC P f As post :=
  ⟨h.1, fun w vals A hLR => h.2 w vals A (LR.er _ _ _ hLR hp)⟩
structure CopI {α β : Type} (c : α -> List D) (wh : α -> Prop) (ok : α -> Prop) (pl : α -> β) (l : List β) (B : Nat) (p : Nat × List α) (h : Nat) : Prop where
  le : p.1 <= l.length
  pl : p.2.map pl = l.take p.1
  ok : ∀ y ∈ p.2, ok y
  good : GoodL c wh B h p.2
section
variable {α β : Type} {c : α -> List D} {wh : α -> Prop} {ok : α -> Prop} {pl : α -> β} {l : List β} {B : Nat}
theorem CopI.zero {h : Nat} : CopI c wh ok pl l B (0, []) h := ⟨by simp, by simp, by simp, GoodL.nil⟩
theorem CopI.len {h i : Nat} {ys : List α} (H : CopI c wh ok pl l B (i, ys) h) : ys.length = i := by
  have := congrArg List.length H.pl
  have hl := H.le
  simp only [List.length_map, List.length_take] at this hl
  omega
theorem CopI.snoc {h m h' i : Nat} {ys : List α} {y : α} (H : CopI c wh ok pl l B (i, ys) h) (hi : i < l.length) (hy : pl y = l[i]) (hok : ok y) (hb : B <= m /\ h <= m) (hm : m <= h') (G : Good (c y) (wh y) m) (hr : ∀ g ∈ idsL (c y), g < h') : CopI c wh ok pl l B (i + 1, ys ++ [y]) h' := by
  refine ⟨hi, ?_, fun z hz => ?_, GoodL.snoc H.good hb hm G hr⟩
  · have := H.pl
    simp only at this
    simp only [List.map_append, List.map_cons, List.map_nil]
    rw [this, hy, List.take_succ_eq_append_getElem hi]
  · rcases List.mem_append.1 hz with h | h
    · exact H.ok z h
    · rw [List.mem_singleton.1 h]; exact hok
theorem CopI.all {h i : Nat} {ys : List α} (H : CopI c wh ok pl l B (i, ys) h) (hi : l.length <= i) : ys.map pl = l := by
  have := H.pl
  simp only at this
  rwa [List.take_of_length_le hi] at this
end
theorem good_Tab {n : Nat} {nm : List UInt8} {r : Reln} (G : Good (cReln r) (whReln r) n) : Good (cTab ⟨nm, r⟩) (whTab ⟨nm, r⟩) n :=
  Good.app (good_Str n nm) G fun g h h' => by simp [cStr, idsL, D.ids] at h
def szRel (r : PReln) : Prop := r.rows.length <= 4294967296 /\ ∀ x ∈ r.rows, x.length <= 4294967296
def szDb (d : PDb) : Prop := d.tabs.length <= 4294967296 /\ ∀ t ∈ d.tabs, szRel t.rel
theorem szDb_ok {d : PDb} (h : dbOk d = true) : szDb d := ⟨by have := dbOk_len h; omega, fun t ht => tabOk_rel (dbOk_tab h ht)⟩
theorem szRel_ok {r : PReln} (h : rowsOk r.ar r.rows = true) : szRel r := ⟨by have := rowsOk_len h; omega, fun x hx => by have := rowsOk_row h x hx; omega⟩
def uniB (a b : PReln) : Bool := difB a b && newB a.ar (a.rows ++ b.rows)
def uniR (a b : PReln) : PReln := if difB a b then newR a.ar (a.rows ++ b.rows) else ⟨0, []⟩
theorem difB_len {a b : PReln} (h : difB a b = true) : szRel a /\ szRel b /\ a.rows.length <= 4000 /\ b.rows.length <= 4000 := by
  simp only [difB, Bool.and_eq_true] at h
  exact ⟨szRel_ok h.1.1, szRel_ok h.1.2, rowsOk_len h.1.1, rowsOk_len h.1.2⟩
end Go.Vs
namespace Go.Vs
structure MJ (rows a b out : List (List Int)) : Prop where
  sa : Srt a
  sb : Srt b
  so : Srt out
  lt : ∀ y ∈ out, ∀ z, z ∈ a \/ z ∈ b -> cmpL y z < 0
  mem : ∀ x, (x ∈ out \/ x ∈ a \/ x ∈ b) ↔ x ∈ rows
  len : out.length + a.length + b.length <= rows.length
theorem MJ.start (rows : List (List Int)) (m : Nat) : MJ rows (srtU (rows.take m)) (srtU (rows.drop m)) [] := by
  have h := MI.start rows m
  exact ⟨h.sa, h.sb, h.so, by simp, h.mem, h.len⟩
theorem MJ.swap {rows a b out : List (List Int)} (h : MJ rows a b out) : MJ rows b a out :=
  ⟨h.sb, h.sa, h.so, fun y hy z hz => h.lt y hy z hz.symm, fun x => by rw [<- h.mem x, or_comm (a := x ∈ a)], by have := h.len; omega⟩
theorem MJ.done {rows out : List (List Int)} (h : MJ rows [] [] out) : out = srtU rows := srtU_uniq h.so fun x => by rw [<- h.mem x]; simp
theorem MJ.left {rows a b out : List (List Int)} {x : List Int} (h : MJ rows (x :: a) b out) (hb : ∀ z ∈ b, cmpL x z < 0) : MJ rows a b (out ++ [x]) := by
  have ha := List.pairwise_cons.1 h.sa
  have hl := h.len
  simp only [List.length_cons] at hl
  refine ⟨ha.2, h.sb, List.pairwise_append.2 ⟨h.so, by simp, fun y hy z hz => ?_⟩, fun y hy z hz => ?_, fun y => ?_, by simp only [List.length_append, List.length_cons, List.length_nil]; omega⟩
  · rw [List.mem_singleton.1 hz]; exact h.lt y hy x (by simp)
  · rcases List.mem_append.1 hy with hy | hy
    · exact h.lt y hy z (hz.imp (fun hz => by simp [hz]) id)
    · rw [List.mem_singleton.1 hy]
      rcases hz with hz | hz
      · exact ha.1 z hz
      · exact hb z hz
  · rw [<- h.mem y]
    simp only [List.mem_append, List.mem_cons, List.not_mem_nil, or_false]
    constructor
    · rintro ((h1 | h1) | h1 | h1) <;> simp [h1]
    · rintro (h1 | (h1 | h1) | h1) <;> simp [h1]
theorem MJ.both {rows a b out : List (List Int)} {x : List Int} (h : MJ rows (x :: a) (x :: b) out) : MJ rows a b (out ++ [x]) := by
  have hb := List.pairwise_cons.1 h.sb
  have hl := h.len
  simp only [List.length_cons] at hl
  refine MJ.left (x := x) ⟨h.sa, hb.2, h.so, fun y hy z hz => h.lt y hy z (hz.imp id fun hz => by simp [hz]), fun y => ?_, by simp only [List.length_cons]; omega⟩ hb.1
  rw [<- h.mem y]
  simp only [List.mem_cons]
  constructor
  · rintro (h1 | h1 | h1)
    · exact .inl h1
    · exact .inr (.inl h1)
    · exact .inr (.inr (.inr h1))
  · rintro (h1 | h1 | h1 | h1)
    · exact .inl h1
    · exact .inr (.inl h1)
    · exact .inr (.inl (.inl h1))
    · exact .inr (.inr h1)
theorem MJ.less {rows a b out : List (List Int)} {x y : List Int} (h : MJ rows (x :: a) (y :: b) out) (hc : cmpL x y < 0) : ∀ z ∈ y :: b, cmpL x z < 0 := fun z hz => by
  rcases List.mem_cons.1 hz with rfl | hz
  · exact hc
  · exact cmpL_trans hc ((List.pairwise_cons.1 h.sb).1 z hz)
structure OwnR (B : Nat) (L : List Ints) : Prop where
  nd : (idsLL (L.map (cS cI))).Nodup
  lo : ∀ g ∈ idsLL (L.map (cS cI)), B <= g
  wh : ∀ r ∈ L, whS whI r
  ok : ∀ r ∈ L, okS okI r
theorem ids_perm {L L' : List Ints} (h : L'.Perm L) : (idsLL (L'.map (cS cI))).Perm (idsLL (L.map (cS cI))) := by
  induction h with
  | nil => exact .refl _
  | cons a _ ih => simp only [List.map_cons, idsLL]; exact (List.Perm.refl _).append ih
  | swap a b l => simp only [List.map_cons, idsLL]; exact List.perm_append_comm_assoc _ _ _
  | trans _ _ h1 h2 => exact h1.trans h2
theorem OwnR.perm {B : Nat} {L L' : List Ints} (H : OwnR B L) (h : L'.Perm L) : OwnR B L' :=
  ⟨(ids_perm h).nodup_iff.2 H.nd, fun g hg => H.lo g ((ids_perm h).mem_iff.1 hg), fun r hr => H.wh r (h.mem_iff.1 hr), fun r hr => H.ok r (h.mem_iff.1 hr)⟩
theorem OwnR.sub {B : Nat} {L L' : List Ints} (H : OwnR B L) (h : L'.Sublist L) : OwnR B L' :=
  ⟨H.nd.sublist (ids_sub h), fun g hg => H.lo g ((ids_sub h).subset hg), fun r hr => H.wh r (h.subset hr), fun r hr => H.ok r (h.subset hr)⟩
structure SrtI (rows : List (List Int)) (B : Nat) (p : List Ints × List Ints × List Ints × Option (TypeId × Nat) × Option (TypeId × Nat)) : Prop where
  mj : MJ rows (p.1.map (plS plI)) (p.2.1.map (plS plI)) (p.2.2.1.map (plS plI))
  own : OwnR B (p.2.2.1 ++ (p.1 ++ p.2.1))
theorem SrtI.left {rows : List (List Int)} {B : Nat} {x : Ints} {a b o : List Ints} {Ta Tb Ta' : Option (TypeId × Nat)} (H : SrtI rows B (x :: a, b, o, Ta, Tb)) (hb : ∀ z ∈ b.map (plS plI), cmpL (plS plI x) z < 0) : SrtI rows B (a, b, o ++ [x], Ta', Tb) := by
  have h1 := H.mj
  simp only [List.map_cons] at h1
  refine ⟨by simp only [List.map_append, List.map_cons, List.map_nil]; exact h1.left hb, ?_⟩
  have h2 := H.own
  simp only at h2 ⊢
  simpa using h2
theorem SrtI.right {rows : List (List Int)} {B : Nat} {y : Ints} {a b o : List Ints} {Ta Tb Tb' : Option (TypeId × Nat)} (H : SrtI rows B (a, y :: b, o, Ta, Tb)) (ha : ∀ z ∈ a.map (plS plI), cmpL (plS plI y) z < 0) : SrtI rows B (a, b, o ++ [y], Ta, Tb') := by
  have h1 := H.mj
  simp only [List.map_cons] at h1
  refine ⟨by simp only [List.map_append, List.map_cons, List.map_nil]; exact (h1.swap.left ha).swap, ?_⟩
  refine H.own.perm ?_
  simp only [List.append_assoc, List.singleton_append]
  exact (List.Perm.refl o).append List.perm_middle.symm
theorem SrtI.both {rows : List (List Int)} {B : Nat} {x y : Ints} {a b o : List Ints} {Ta Tb Ta' Tb' : Option (TypeId × Nat)} (H : SrtI rows B (x :: a, y :: b, o, Ta, Tb)) (e : plS plI x = plS plI y) : SrtI rows B (a, b, o ++ [x], Ta', Tb') := by
  have h1 := H.mj
  simp only [List.map_cons, <- e] at h1
  refine ⟨by simp only [List.map_append, List.map_cons, List.map_nil]; exact h1.both, ?_⟩
  refine H.own.sub ?_
  simp only [List.append_assoc, List.singleton_append]
  exact (List.Sublist.refl o).append ((((List.Sublist.refl a).append (List.sublist_cons_self y b))).cons_cons x)
structure ToN (ar : Int) (l : List (List Int)) (i : Nat) : Prop where
  le : i <= l.length
  ok : AllTo (fun r : List Int => decide ((r.length : Int) = ar) && valsOk r) l i
theorem ToN.zero {ar : Int} {l : List (List Int)} : ToN ar l 0 := ⟨by omega, allTo_zero⟩
theorem ToN.step {ar : Int} {l : List (List Int)} {i : Nat} (h : ToN ar l i) (hi : i < l.length) (e : (decide ((l[i].length : Int) = ar) && valsOk l[i]) = true) : ToN ar l (i + 1) := ⟨hi, allTo_step h.ok hi e⟩
theorem ToN.done {ar : Int} {l : List (List Int)} {i : Nat} (h : ToN ar l i) (hi : l.length <= i) : (l.all fun r : List Int => decide ((r.length : Int) = ar) && valsOk r) = true := allTo_done h.ok hi
theorem ToN.bad {ar : Int} {l : List (List Int)} {i : Nat} (_ : ToN ar l i) (hi : i < l.length) (e : (decide ((l[i].length : Int) = ar) && valsOk l[i]) = false) : newB ar l = false := by
  have : (l.all fun r : List Int => decide ((r.length : Int) = ar) && valsOk r) = false := all_bad (p := fun r : List Int => decide ((r.length : Int) = ar) && valsOk r) hi e
  rw [newB, this, Bool.false_and]
theorem VC.weak {P : Program} {f : FuncId} {As : List V} {post post' : Nat -> V -> Prop} (h : VC P f As post) (hp : ∀ n r, post n r -> post' n r) : VC P f As post' :=
  ⟨h.1, fun w vals A hLR => (h.2 w vals A hLR).mono fun e w' he => by
    obtain ⟨v, r, h1, h2, h3, h4, h5⟩ := he
    exact ⟨v, r, h1, h2, h3, h4, hp _ _ h5⟩⟩
theorem call_own {P : Program} {E : Md} {args : List Operand} {f : FuncId} {vs : List V} {dst : Option Tmp} {K : St -> Prop} {σ : St} {post : Nat -> V -> Prop} (hk : keysVL vs ≠ [])
    (hc : ∀ γ n, σ.hs <= n -> Gam σ γ n -> ∃ As, rdL γ σ.m vs = some As /\ VC P f As post) (hi : ∀ n r, post n r -> (∀ i ∈ r.ids, n <= i) /\ r.hp = false)
    (hK : ∀ n hs' r, σ.hs <= n -> n <= hs' -> post n r -> (∀ i ∈ r.ids, i < hs') -> K ({ σ with hs := hs' }.put dst r)) : vcallA P E f args vs dst K σ := by
  refine .inl ?_
  unfold vcall
  split
  · rename_i h; exact (hk h).elim
  · intro γ n a b
    obtain ⟨As, h1, h2⟩ := hc γ n a b
    exact ⟨As, post, h1, h2, fun r hs' c d e => ⟨(hi n r d).1, (hi n r d).2, hK n hs' r a c d e⟩⟩
theorem bl_irr : ∀ (a : List UInt8), Op.bytesLess a a = false
  | [] => rfl
  | x :: r => by simp [Op.bytesLess, bl_irr r, UInt8.lt_irrefl]
theorem bl_trans : ∀ {a b c : List UInt8}, Op.bytesLess a b = true -> Op.bytesLess b c = true -> Op.bytesLess a c = true
  | _, [], _, h, _ => by cases ‹List UInt8› <;> simp [Op.bytesLess] at h
  | _, _ :: _, [], _, h => by simp [Op.bytesLess] at h
  | [], _ :: _, _ :: _, _, _ => rfl
  | x :: a, y :: b, z :: c, h1, h2 => by
    simp only [Op.bytesLess, Bool.or_eq_true, Bool.and_eq_true, decide_eq_true_eq, beq_iff_eq] at h1 h2 ⊢
    rcases h1 with h1 | ⟨rfl, h1⟩
    · rcases h2 with h2 | ⟨rfl, h2⟩
      · exact .inl (UInt8.lt_trans h1 h2)
      · exact .inl h1
    · rcases h2 with h2 | ⟨rfl, h2⟩
      · exact .inl h2
      · exact .inr ⟨rfl, bl_trans h1 h2⟩
def SrtT (l : List PTab) : Prop := l.Pairwise fun a b => Op.bytesLess a.name b.name = true
theorem dbOk_srt {l : List PTab} (h : dbOk ⟨l⟩ = true) : SrtT l := by
  simp only [dbOk, Bool.and_eq_true, List.all_eq_true, List.mem_range] at h
  have key : ∀ n i, i + n + 1 < l.length -> Op.bytesLess (l.getD i default).name (l.getD (i + n + 1) default).name = true := by
    intro n
    induction n with
    | zero =>
      intro i hi
      have := h.2 (i + 1) (by omega)
      simp only [dbAt, Bool.and_eq_true, Bool.or_eq_true, decide_eq_true_eq] at this
      simpa using this.1
    | succ n ih =>
      intro i hi
      have h1 := ih i (by omega)
      have := h.2 (i + n + 1 + 1) (by omega)
      simp only [dbAt, Bool.and_eq_true, Bool.or_eq_true, decide_eq_true_eq] at this
      have h2 : Op.bytesLess (l.getD (i + n + 1) default).name (l.getD (i + n + 1 + 1) default).name = true := by simpa using this.1
      exact bl_trans h1 h2
  refine List.pairwise_iff_getElem.2 fun i j hi hj hij => ?_
  have := key (j - i - 1) i (by omega)
  rw [show i + (j - i - 1) + 1 = j by omega, getD_el _ hi, getD_el _ hj] at this
  exact this
def setK (l : List PTab) (nm : List UInt8) : Nat := (l.takeWhile fun t => Op.bytesLess t.name nm).length
def hitK (l : List PTab) (nm : List UInt8) : Bool := decide (setK l nm < l.length) && decide ((l.getD (setK l nm) default).name = nm)
def setL (l : List PTab) (nm : List UInt8) (r : PReln) : List PTab := l.take (setK l nm) ++ ⟨nm, r⟩ :: l.drop (if hitK l nm then setK l nm + 1 else setK l nm)
def stS (nm : List UInt8) (r : PReln) (s : List PTab × Bool) (t : PTab) : List PTab × Bool :=
  let s1 := if !s.2 && !(Op.bytesLess t.name nm) then (s.1 ++ [⟨nm, r⟩], true) else s
  if t.name = nm then s1 else (s1.1 ++ [t], s1.2)
def setS (l : List PTab) (nm : List UInt8) (r : PReln) : List PTab :=
  let s := l.foldl (stS nm r) ([], false)
  if s.2 then s.1 else s.1 ++ [⟨nm, r⟩]
theorem stS_after {nm : List UInt8} {r : PReln} : ∀ (l : List PTab) (o : List PTab), (∀ t ∈ l, t.name ≠ nm) -> l.foldl (stS nm r) (o, true) = (o ++ l, true)
  | [], o, _ => by simp
  | t :: l, o, h => by
    have h1 := h t (by simp)
    rw [List.foldl_cons]
    have : stS nm r (o, true) t = (o ++ [t], true) := by simp [stS, h1]
    rw [this, stS_after l _ fun u hu => h u (by simp [hu])]
    simp
theorem setS_eq {nm : List UInt8} {r : PReln} : ∀ (l : List PTab) (o : List PTab), SrtT l ->
    (let s := l.foldl (stS nm r) (o, false); if s.2 then s.1 else s.1 ++ [⟨nm, r⟩]) = o ++ setL l nm r
  | [], o, _ => by simp [setL, setK, hitK]
  | t :: l, o, hs => by
    have hp := List.pairwise_cons.1 hs
    rw [List.foldl_cons]
    cases hb : Op.bytesLess t.name nm
    · have hrest : ∀ u ∈ l, u.name ≠ nm := fun u hu e => by
        have h1 := hp.1 u hu
        rw [e, hb] at h1; cases h1
      have hk : setK (t :: l) nm = 0 := by simp [setK, hb]
      by_cases he : t.name = nm
      · have e1 : stS nm r (o, false) t = (o ++ [⟨nm, r⟩], true) := by simp [stS, hb, he, bl_irr]
        rw [e1, stS_after l _ hrest]
        simp [setL, hk, hitK, he]
      · have e1 : stS nm r (o, false) t = (o ++ [⟨nm, r⟩] ++ [t], true) := by simp [stS, hb, he]
        rw [e1, stS_after l _ hrest]
        simp [setL, hk, hitK, he]
    · have he : ¬ t.name = nm := fun e => by rw [e, bl_irr] at hb; cases hb
      have e1 : stS nm r (o, false) t = (o ++ [t], false) := by simp [stS, hb, he]
      rw [e1, setS_eq l _ hp.2]
      have hk : setK (t :: l) nm = setK l nm + 1 := by simp [setK, hb]
      have hh : hitK (t :: l) nm = hitK l nm := by
        simp only [hitK, hk, List.length_cons, List.getD_cons_succ]
        congr 2
        apply propext; omega
      simp only [setL, hk, hh, List.take_succ_cons, List.append_assoc, List.cons_append, List.nil_append]
      cases hitK l nm <;> simp
theorem setS_L {l : List PTab} {nm : List UInt8} {r : PReln} (h : dbOk ⟨l⟩ = true) : setS l nm r = setL l nm r := by
  have := setS_eq (nm := nm) (r := r) l [] (dbOk_srt h)
  simpa [setS] using this
def setB (d : PDb) (nm : List UInt8) (r : PReln) : Bool := dbOk d && dbOk ⟨setL d.tabs nm r⟩
def setP (d : PDb) (nm : List UInt8) (r : PReln) : PDb := if setB d nm r then ⟨setL d.tabs nm r⟩ else d
theorem stS_len (nm : List UInt8) (r : PReln) (s : List PTab × Bool) (t : PTab) : (stS nm r s t).1.length <= s.1.length + 2 := by
  simp only [stS]
  repeat' split
  all_goals simp
theorem foldS_len (nm : List UInt8) (r : PReln) : ∀ (l : List PTab) (s : List PTab × Bool), (l.foldl (stS nm r) s).1.length <= s.1.length + 2 * l.length
  | [], s => by simp
  | t :: l, s => by
    have h1 := foldS_len nm r l (stS nm r s t)
    have h2 := stS_len nm r s t
    simp only [List.foldl_cons, List.length_cons]; omega
theorem foldS_mem (nm : List UInt8) (r : PReln) : ∀ (l : List PTab) (s : List PTab × Bool) (t : PTab), t ∈ (l.foldl (stS nm r) s).1 -> t ∈ s.1 \/ t ∈ l \/ t = ⟨nm, r⟩
  | [], s, t, h => .inl h
  | u :: l, s, t, h => by
    rcases foldS_mem nm r l (stS nm r s u) t h with h | h | h
    · have : t ∈ s.1 \/ t = u \/ t = ⟨nm, r⟩ := by
        obtain ⟨so, sb⟩ := s
        have key : ∀ o' : List PTab × Bool, (t ∈ o'.1 -> t ∈ so \/ t = u \/ t = ⟨nm, r⟩) -> t ∈ (if u.name = nm then o' else (o'.1 ++ [u], o'.2)).1 -> t ∈ so \/ t = u \/ t = ⟨nm, r⟩ := fun o' h1 h2 => by
          split at h2
          · exact h1 h2
          · rcases List.mem_append.1 h2 with h2 | h2
            · exact h1 h2
            · exact .inr (.inl (List.mem_singleton.1 h2))
        refine key _ (fun h1 => ?_) h
        split at h1
        · rcases List.mem_append.1 h1 with h2 | h2
          · exact .inl h2
          · exact .inr (.inr (List.mem_singleton.1 h2))
        · exact .inl h1
      rcases this with h | h | h
      · exact .inl h
      · exact .inr (.inl (by simp [h]))
      · exact .inr (.inr h)
    · exact .inr (.inl (by simp [h]))
    · exact .inr (.inr h)
theorem setS_mem {l : List PTab} {nm : List UInt8} {r : PReln} {t : PTab} (h : t ∈ setS l nm r) : t ∈ l \/ t = ⟨nm, r⟩ := by
  simp only [setS] at h
  have key := foldS_mem nm r l ([], false) t
  split at h
  · simpa using key h
  · rcases List.mem_append.1 h with h | h
    · simpa using key h
    · exact .inr (List.mem_singleton.1 h)
structure StI (nm : List UInt8) (r : PReln) (l : List PTab) (p : Nat × List PTab × Bool) : Prop where
  le : p.1 <= l.length
  eq : (l.take p.1).foldl (stS nm r) ([], false) = p.2
theorem StI.zero {nm : List UInt8} {r : PReln} {l : List PTab} : StI nm r l (0, [], false) := ⟨by simp, rfl⟩
theorem StI.step {nm : List UInt8} {r : PReln} {l : List PTab} {i : Nat} {s s' : List PTab × Bool} (h : StI nm r l (i, s)) (hi : i < l.length) (e : stS nm r s l[i] = s') : StI nm r l (i + 1, s') := by
  refine ⟨hi, ?_⟩
  have := h.eq
  simp only at this ⊢
  rw [List.take_succ_eq_append_getElem hi, List.foldl_append, this, List.foldl_cons, List.foldl_nil, e]
theorem StI.len {nm : List UInt8} {r : PReln} {l : List PTab} {i : Nat} {s : List PTab × Bool} (h : StI nm r l (i, s)) : s.1.length <= 2 * i := by
  have h1 := foldS_len nm r (l.take i) ([], false)
  have h2 := h.eq
  simp only at h2
  rw [h2] at h1
  simp only [List.length_nil, List.length_take] at h1
  omega
theorem StI.done {nm : List UInt8} {r : PReln} {l : List PTab} {i : Nat} {s : List PTab × Bool} (h : StI nm r l (i, s)) (hi : l.length <= i) : setS l nm r = if s.2 then s.1 else s.1 ++ [⟨nm, r⟩] := by
  have h2 := h.eq
  simp only [List.take_of_length_le hi] at h2
  simp only [setS, h2]
end Go.Vs
namespace Go.Vs
theorem setK_le (l : List PTab) (nm : List UInt8) : setK l nm <= l.length := by
  unfold setK; exact (List.takeWhile_sublist _).length_le
theorem setK_lt : ∀ {l : List PTab} {nm : List UInt8} {i : Nat} (hi : i < l.length), i < setK l nm -> Op.bytesLess l[i].name nm = true
  | t :: l, nm, 0, _, h => by
    cases hb : Op.bytesLess t.name nm
    · simp [setK, hb] at h
    · exact hb
  | t :: l, nm, i + 1, hi, h => by
    cases hb : Op.bytesLess t.name nm
    · simp [setK, hb] at h
    · simp only [List.getElem_cons_succ]
      refine setK_lt (by simpa using hi) ?_
      have hk : setK (t :: l) nm = setK l nm + 1 := by simp [setK, hb]
      omega
theorem setK_at : ∀ {l : List PTab} {nm : List UInt8} (hi : setK l nm < l.length), Op.bytesLess l[setK l nm].name nm = false
  | t :: l, nm, h => by
    cases hb : Op.bytesLess t.name nm
    · have hk : setK (t :: l) nm = 0 := by simp [setK, hb]
      simp only [hk, List.getElem_cons_zero]; exact hb
    · have hk : setK (t :: l) nm = setK l nm + 1 := by simp [setK, hb]
      simp only [hk, List.getElem_cons_succ]
      exact setK_at (by simp only [hk, List.length_cons] at h; omega)
section
variable {α : Type} {c : α -> List D} {wh : α -> Prop}
theorem good_put {xs : List α} {y : α} {k j n m : Nat} (hk : k <= j) (h1 : (idsLL (xs.map c)).Nodup) (h2 : ∀ g ∈ idsLL (xs.map c), n <= g /\ g < m) (h3 : ∀ a ∈ xs, wh a) (G : Good (c y) (wh y) m) (hn : n <= m) :
    ((idsLL ((xs.take k ++ y :: xs.drop j).map c)).Nodup /\ ∀ g ∈ idsLL ((xs.take k ++ y :: xs.drop j).map c), n <= g) /\ (∀ a ∈ xs.take k ++ y :: xs.drop j, wh a) := by
  have hs : (xs.take k ++ xs.drop j).Sublist xs := by
    have h := List.Sublist.append (List.Sublist.refl (xs.take k)) (List.drop_sublist_drop_left xs hk)
    rwa [List.take_append_drop] at h
  have hsi := ids_sub (c := c) hs
  have hp : (idsLL ((xs.take k ++ y :: xs.drop j).map c)).Perm (idsL (c y) ++ idsLL ((xs.take k ++ xs.drop j).map c)) := by
    simp only [List.map_append, List.map_cons, idsLL_append, idsLL]
    exact List.perm_append_comm_assoc _ _ _
  refine ⟨⟨hp.nodup_iff.2 (List.nodup_append.2 ⟨G.nd, h1.sublist hsi, fun a ha b hb e => ?_⟩), fun g hg => ?_⟩, fun a ha => ?_⟩
  · have := G.lo a ha
    have := (h2 b (hsi.subset hb)).2
    omega
  · rcases List.mem_append.1 (hp.mem_iff.1 hg) with h | h
    · have := G.lo g h; omega
    · exact (h2 g (hsi.subset h)).1
  · rcases List.mem_append.1 ha with h | h
    · exact h3 a (List.mem_of_mem_take h)
    · rcases List.mem_cons.1 h with rfl | h
      · exact G.wh
      · exact h3 a (List.mem_of_mem_drop h)
end
theorem map_put {α β : Type} (f : α -> β) (xs : List α) (y : α) (k j : Nat) : (xs.take k ++ y :: xs.drop j).map f = (xs.map f).take k ++ f y :: (xs.map f).drop j := by
  simp [List.map_take, List.map_drop]
structure KTo (l : List PTab) (nm : List UInt8) (i : Nat) : Prop where
  le : i <= setK l nm
theorem KTo.zero {l : List PTab} {nm : List UInt8} : KTo l nm 0 := ⟨by omega⟩
end Go.Vs
namespace Go.Vs
theorem okDb_st {d : Db} (h : okDb d) : ∀ t ∈ (plDb d).tabs, t.name.length <= maxLen := fun t ht => by
  obtain ⟨⟨id, T, xs⟩⟩ := d
  simp only [plDb, plS, List.mem_map] at ht
  obtain ⟨a, ha, rfl⟩ := ht
  exact (h.2 a ha).1
def difD (d : PDb) (x : PDelta) : PReln := difR (lkR d x.name) (norP d x).del
def appU (d : PDb) (x : PDelta) : PReln := uniR (difD d x) (norP d x).ins
def appG (d : PDb) (x : PDelta) : Bool := fitB d x && uniB (difD d x) (norP d x).ins
def appB (d : PDb) (x : PDelta) : Bool := appG d x && setB d x.name (appU d x)
def appP (d : PDb) (x : PDelta) : PDb := if appG d x then setP d x.name (appU d x) else d
theorem uniR_ok {a b : PReln} (h : uniB a b = true) : szRel (uniR a b) := by
  simp only [uniB, Bool.and_eq_true] at h
  have h2 := h.2
  simp only [newB, Bool.and_eq_true] at h2
  simp only [uniR, h.1, if_true, newR, h.2]
  exact szRel_ok h2.2
def runB : PDb -> List PDelta -> Nat -> Option PDb × Nat
  | c, [], k => (some c, k)
  | c, x :: r, k => if appB c x then runB (appP c x) r (k + 1) else (none, k)
def batG (d : PDb) (xs : List PDelta) : Bool := decide (xs.length <= 5) && dbOk d
def batT (d : PDb) (xs : List PDelta) : PDb × Nat × Bool :=
  if batG d xs then match runB d xs 0 with
    | (some c, k) => (c, k, true)
    | (none, k) => (d, k, false)
  else (d, 0, false)
def batB (d : PDb) (xs : List PDelta) : Bool := (batT d xs).2.2
theorem app_ok {d : PDb} {x : PDelta} (h : appB d x = true) : dbOk (appP d x) = true := by
  simp only [appB, Bool.and_eq_true] at h
  have h2 := h.2
  simp only [setB, Bool.and_eq_true] at h2
  simp only [appP, h.1, if_true, setP, h.2]
  exact h2.2
theorem dbOk_st {d : PDb} (h : dbOk d = true) : ∀ t ∈ d.tabs, t.name.length <= maxLen := fun t ht => by
  have h1 := dbOk_tab h ht
  simp only [tabOk, nameOk, Bool.and_eq_true, decide_eq_true_eq] at h1
  have := h1.1.1.1.1.2
  simp only [maxLen]; omega
structure RunI (d : PDb) (xs : List PDelta) (i : Nat) (c : PDb) : Prop where
  le : i <= xs.length
  ok : dbOk c = true
  eq : runB c (xs.drop i) i = runB d xs 0
theorem RunI.zero {d : PDb} {xs : List PDelta} (h : dbOk d = true) : RunI d xs 0 d := ⟨by omega, h, rfl⟩
theorem RunI.step {d c : PDb} {xs : List PDelta} {i : Nat} (h : RunI d xs i c) (hi : i < xs.length) (e : appB c xs[i] = true) : RunI d xs (i + 1) (appP c xs[i]) := by
  refine ⟨hi, app_ok e, ?_⟩
  have := h.eq
  rwa [List.drop_eq_getElem_cons hi, runB, e, if_pos rfl] at this
theorem RunI.bad {d c : PDb} {xs : List PDelta} {i : Nat} (h : RunI d xs i c) (hi : i < xs.length) (e : appB c xs[i] = false) : runB d xs 0 = (none, i) := by
  have := h.eq
  rw [List.drop_eq_getElem_cons hi, runB, e] at this
  exact this.symm
theorem RunI.done {d c : PDb} {xs : List PDelta} {i : Nat} (h : RunI d xs i c) (hi : xs.length <= i) : runB d xs 0 = (some c, i) := by
  have := h.eq
  rw [List.drop_of_length_le hi, runB] at this
  exact this.symm
def invD (x : PDelta) : PDelta := ⟨x.name, x.del, x.ins⟩
def invL : PDb -> List PDelta -> List PDelta -> List PDelta
  | _, [], acc => acc
  | c, x :: r, acc => invL (appP c x) r (invD (norP c x) :: acc)
def invP (d : PDb) (xs : List PDelta) : List PDelta := if batB d xs then invL d xs [] else []
theorem batB_run {d : PDb} {xs : List PDelta} (h : batB d xs = true) : batG d xs = true /\ ∃ c k, runB d xs 0 = (some c, k) := by
  unfold batB batT at h
  split at h
  · rename_i hg
    refine ⟨hg, ?_⟩
    split at h
    · rename_i c k e; exact ⟨c, k, e⟩
    · simp at h
  · simp at h
structure InvI (d : PDb) (xs : List PDelta) (i : Nat) (c : PDb) (acc : List PDelta) : Prop where
  run : RunI d xs i c
  eq : invL c (xs.drop i) acc = invL d xs []
  len : acc.length = i
theorem InvI.zero {d : PDb} {xs : List PDelta} (h : batB d xs = true) : InvI d xs 0 d [] := by
  have h1 := (batB_run h).1
  simp only [batG, Bool.and_eq_true] at h1
  exact ⟨.zero h1.2, rfl, rfl⟩
theorem InvI.ap {d c : PDb} {xs acc : List PDelta} {i : Nat} (hb : batB d xs = true) (h : InvI d xs i c acc) (hi : i < xs.length) : appB c xs[i] = true := by
  cases e : appB c xs[i]
  · have h1 := h.run.bad hi e
    obtain ⟨_, c', k, h2⟩ := batB_run hb
    rw [h1] at h2
    simp at h2
  · rfl
theorem InvI.step {d c : PDb} {xs acc : List PDelta} {i : Nat} (hb : batB d xs = true) (h : InvI d xs i c acc) (hi : i < xs.length) : InvI d xs (i + 1) (appP c xs[i]) (invD (norP c xs[i]) :: acc) := by
  refine ⟨h.run.step hi (h.ap hb hi), ?_, by simp [h.len]⟩
  have := h.eq
  rwa [List.drop_eq_getElem_cons hi, invL] at this
theorem InvI.done {d c : PDb} {xs acc : List PDelta} {i : Nat} (hb : batB d xs = true) (h : InvI d xs i c acc) (hi : xs.length <= i) : acc = invP d xs := by
  have := h.eq
  rw [List.drop_of_length_le hi, invL] at this
  rw [invP, if_pos hb, this]
theorem good_nilS {α : Type} {c : α -> List D} {wh : α -> Prop} (n : Nat) : Good (cS c nilS) (whS wh nilS) n :=
  ⟨by simp [cS, nilS, dSl, idsL, D.ids, idsLL], by simp [cS, nilS, dSl, idsL, D.ids, idsLL], ⟨fun _ => rfl, fun h => absurd rfl h⟩, by simp [nilS]⟩
theorem rpL_cons {a : V} {l : List V} {x : List V} (h : rpL (fun _ => none) (a :: l) = some x) : ∃ y z, x = y :: z /\ rp (fun _ => none) a = some y /\ rpL (fun _ => none) l = some z := by
  simp only [rpL] at h
  cases h1 : rp (fun _ => none) a <;> cases h2 : rpL (fun _ => none) l <;> simp [h1, h2] at h
  exact ⟨_, _, h.symm, rfl, rfl⟩
def cutA (c : UInt8) (acc : List UInt8) : List UInt8 -> List (List UInt8)
  | [] => [acc]
  | x :: r => if x = c then acc :: cutA c [] r else cutA c (acc ++ [x]) r
def cutB (c : UInt8) (s : List UInt8) : List (List UInt8) := cutA c [] s
theorem cutA_len (c : UInt8) : ∀ (s acc : List UInt8), (cutA c acc s).length <= s.length + 1 /\ cutA c acc s ≠ []
  | [], acc => by simp [cutA]
  | x :: r, acc => by
    rw [cutA]
    split
    · have := cutA_len c r []; simp; exact this.1
    · have := cutA_len c r (acc ++ [x]); simp only [List.length_cons]; exact ⟨by omega, this.2⟩
theorem cutB_len (c : UInt8) (s : List UInt8) : (cutB c s).length <= s.length + 1 := (cutA_len c s []).1
theorem cutA_sum (c : UInt8) : ∀ (s acc : List UInt8), ((cutA c acc s).map List.length).sum <= acc.length + s.length
  | [], acc => by simp [cutA]
  | x :: r, acc => by
    rw [cutA]
    split
    · have := cutA_sum c r []; simp only [List.map_cons, List.sum_cons, List.length_cons, List.length_nil] at this ⊢; omega
    · have := cutA_sum c r (acc ++ [x]); simp only [List.length_append, List.length_cons, List.length_nil] at this ⊢; omega
theorem sum_mem : ∀ {l : List Nat} {x : Nat}, x ∈ l -> x <= l.sum
  | a :: r, x, h => by
    simp only [List.sum_cons]
    rcases List.mem_cons.1 h with rfl | h
    · omega
    · have := sum_mem h; omega
theorem cutB_mem {c : UInt8} {s x : List UInt8} (h : x ∈ cutB c s) : x.length <= s.length := by
  have h1 := cutA_sum c s []
  have h2 : x.length <= ((cutB c s).map List.length).sum := sum_mem (List.mem_map.2 ⟨x, h, rfl⟩)
  simp only [cutB, List.length_nil] at h1 h2; omega
structure CutI (c : UInt8) (s : List UInt8) (p : Nat × Nat × List (List UInt8)) : Prop where
  fr : p.1 <= p.2.1
  le : p.2.1 <= s.length
  eq : cutB c s = p.2.2 ++ cutA c ((s.drop p.1).take (p.2.1 - p.1)) (s.drop p.2.1)
  len : p.2.2.length <= p.2.1
theorem CutI.zero {c : UInt8} {s : List UInt8} : CutI c s (0, 0, []) := ⟨by simp, by simp, by simp [cutB], by simp⟩
theorem CutI.hit {c : UInt8} {s : List UInt8} {f i : Nat} {out : List (List UInt8)} (h : CutI c s (f, i, out)) (hi : i < s.length) (e : s[i] = c) : CutI c s (i + 1, i + 1, out ++ [(s.drop f).take (i - f)]) := by
  refine ⟨Nat.le_refl _, hi, ?_, ?_⟩
  · have := h.eq
    simp only at this ⊢
    rw [this, List.drop_eq_getElem_cons hi, cutA, if_pos e]
    simp
  · have := h.len; simp only [List.length_append, List.length_singleton] at this ⊢; omega
theorem CutI.miss {c : UInt8} {s : List UInt8} {f i : Nat} {out : List (List UInt8)} (h : CutI c s (f, i, out)) (hi : i < s.length) (e : s[i] ≠ c) : CutI c s (f, i + 1, out) := by
  have hf := h.fr
  simp only at hf
  refine ⟨by simp only; omega, hi, ?_, ?_⟩
  · have := h.eq
    simp only at this ⊢
    rw [this, List.drop_eq_getElem_cons hi, cutA, if_neg e]
    have : (s.drop f).take (i + 1 - f) = (s.drop f).take (i - f) ++ [s[i]] := by
      rw [show i + 1 - f = (i - f) + 1 by omega, List.take_succ_eq_append_getElem (by rw [List.length_drop]; omega), List.getElem_drop]
      simp only [show f + (i - f) = i by omega]
    rw [this]
  · have := h.len; simp only at this ⊢; omega
theorem CutI.done {c : UInt8} {s : List UInt8} {f i : Nat} {out : List (List UInt8)} (h : CutI c s (f, i, out)) (hi : s.length <= i) : out ++ [(s.drop f).take (i - f)] = cutB c s /\ (s.drop f).take (i - f) = s.drop f /\ i = s.length := by
  have hl := h.le
  have := h.eq
  simp only at hl this
  rw [List.drop_of_length_le hi, cutA] at this
  exact ⟨this.symm, List.take_of_length_le (by rw [List.length_drop]; omega), by omega⟩
def isDg (b : UInt8) : Bool := decide (48 <= b.toNat) && decide (b.toNat <= 57)
def digF (p : Int × Nat) (b : UInt8) : Int × Nat := if isDg b then (p.1 * 10 + ((b.toNat : Int) - 48), p.2 + 1) else p
def digs (s : List UInt8) : Int × Nat := s.foldl digF (0, 0)
def prsV (s : List UInt8) : Int := if s.head? = some 45 then -(digs (s.take 11)).1 else (digs (s.take 11)).1
def prsZ (s : List UInt8) : Option Int := if (digs (s.take 11)).2 <= 9 /\ s.length <= 10 /\ decZ (prsV s) = s then some (prsV s) else none
def prsN (s : List UInt8) : Int := (prsZ s).getD 0
def inTx (x : List UInt8) : List UInt8 := (x.drop 1).take (x.length - 2)
def rowTx (x : List UInt8) : List Int := if 2 < x.length then (cutB 44 (inTx x)).map prsN else []
def preRel (s : List UInt8) : PReln :=
  ⟨prsN ((cutB 58 s).getD 0 []), if (cutB 58 s).length = 2 /\ (cutB 58 s).getD 1 [] ≠ [] then (cutB 32 ((cutB 58 s).getD 1 [])).map rowTx else []⟩
def prsB (s : List UInt8) : Bool := decide (fmtRel (preRel s) = s) && decide (s ≠ [])
def prsR (s : List UInt8) : PReln := if prsB s then preRel s else ⟨0, []⟩
def rdF (k : List PFile) (nm : List UInt8) : Option (List UInt8) := (k.find? fun f => decide (f.name = nm)).map (·.data)
def rdD (k : List PFile) (nm : List UInt8) : List UInt8 := (rdF k nm).getD []
def rdB (k : List PFile) (nm : List UInt8) : Bool := (rdF k nm).isSome
structure RdI (k : List PFile) (nm : List UInt8) (i : Nat) : Prop where
  le : i <= k.length
  eq : rdF (k.drop i) nm = rdF k nm
theorem RdI.zero {k : List PFile} {nm : List UInt8} : RdI k nm 0 := ⟨by omega, rfl⟩
theorem RdI.miss {k : List PFile} {nm : List UInt8} {i : Nat} (h : RdI k nm i) (hi : i < k.length) (e : k[i].name ≠ nm) : RdI k nm (i + 1) := by
  refine ⟨hi, ?_⟩
  rw [<- h.eq, List.drop_eq_getElem_cons hi, rdF, rdF, List.find?_cons_of_neg (by simpa using e)]
theorem RdI.hit {k : List PFile} {nm : List UInt8} {i : Nat} (h : RdI k nm i) (hi : i < k.length) (e : k[i].name = nm) : rdF k nm = some k[i].data := by
  rw [<- h.eq, List.drop_eq_getElem_cons hi, rdF, List.find?_cons_of_pos (by simpa using e)]; rfl
theorem RdI.done {k : List PFile} {nm : List UInt8} {i : Nat} (h : RdI k nm i) (hi : k.length <= i) : rdF k nm = none := by
  rw [<- h.eq, List.drop_of_length_le hi]; rfl
def dskAt (l : List PFile) (j : Nat) : Bool := decide (j = 0) || Op.bytesLess (l.getD (j - 1) default).name (l.getD j default).name
def dskOk (l : List PFile) : Bool := (List.range l.length).all (dskAt l)
structure DskI (l : List PFile) (i : Nat) : Prop where
  lo : 1 <= i
  ok : ∀ j, j < i -> j < l.length -> dskAt l j = true
theorem DskI.one {l : List PFile} : DskI l 1 := ⟨by omega, fun j h1 _ => by simp [dskAt, show j = 0 by omega]⟩
theorem DskI.step {l : List PFile} {i : Nat} (h : DskI l i) (e : dskAt l i = true) : DskI l (i + 1) :=
  ⟨by omega, fun j h1 h2 => by
    by_cases hj : j < i
    · exact h.ok j hj h2
    · rw [show j = i by omega]; exact e⟩
theorem DskI.done {l : List PFile} {i : Nat} (h : DskI l i) (hi : l.length <= i) : dskOk l = true := by
  simp only [dskOk, List.all_eq_true, List.mem_range]
  exact fun j hj => h.ok j (by omega) hj
def hdNm (v : Int) : List UInt8 := [109] ++ decZ v
def lnNm (ln : List UInt8) : List UInt8 := (cutB 61 ln).getD 0 []
def tabO (k : List PFile) (v : Int) (ln : List UInt8) : Option PTab := if rdB k (runNm v (lnNm ln)) && prsB (rdD k (runNm v (lnNm ln))) then some ⟨lnNm ln, prsR (rdD k (runNm v (lnNm ln)))⟩ else none
def lnCk (ln s : List UInt8) : Bool := decide ((cutB 61 ln).length = 2) && decide (decZ (ckS s) = (cutB 61 ln).getD 1 [])
def tabS (k : List PFile) (v : Int) (ln : List UInt8) : Option PTab := if lnCk ln (rdD k (runNm v (lnNm ln))) then tabO k v ln else none
def tabsM (f : List UInt8 -> Option PTab) : List (List UInt8) -> Option (List PTab)
  | [] => some []
  | x :: r => match f x with
    | none => none
    | some t => (tabsM f r).map (t :: ·)
structure TbI (f : List UInt8 -> Option PTab) (ls : List (List UInt8)) (i : Nat) (acc : List PTab) : Prop where
  le : i <= ls.length
  eq : tabsM f ls = (tabsM f (ls.drop i)).map (acc ++ ·)
  len : acc.length = i
theorem TbI.zero {f : List UInt8 -> Option PTab} {ls : List (List UInt8)} : TbI f ls 0 [] := ⟨by omega, by simp, rfl⟩
theorem TbI.step {f : List UInt8 -> Option PTab} {ls : List (List UInt8)} {i : Nat} {acc : List PTab} (h : TbI f ls i acc) (hi : i < ls.length) {t : PTab} (e : f ls[i] = some t) : TbI f ls (i + 1) (acc ++ [t]) := by
  refine ⟨hi, ?_, by simp [h.len]⟩
  rw [h.eq, List.drop_eq_getElem_cons hi, tabsM, e]
  simp only [Option.map_map, Function.comp_def, List.append_assoc, List.singleton_append]
theorem TbI.bad {f : List UInt8 -> Option PTab} {ls : List (List UInt8)} {i : Nat} {acc : List PTab} (h : TbI f ls i acc) (hi : i < ls.length) (e : f ls[i] = none) : tabsM f ls = none := by
  rw [h.eq, List.drop_eq_getElem_cons hi, tabsM, e]; rfl
theorem TbI.done {f : List UInt8 -> Option PTab} {ls : List (List UInt8)} {i : Nat} {acc : List PTab} (h : TbI f ls i acc) (hi : ls.length <= i) : tabsM f ls = some acc := by
  rw [h.eq, List.drop_of_length_le hi, tabsM]; simp
def lns (h : List UInt8) : List (List UInt8) := (cutB 10 h).dropLast
def headEq (ts : List PTab) (h : List UInt8) : Bool := decide (headTx ts ++ decZ (ckS (headTx ts)) = h)
def loadS (k : List PFile) (v : Int) : Option PDb :=
  if rdB k (hdNm v) then match tabsM (tabS k v) (lns (rdD k (hdNm v))) with
    | none => none
    | some ts => if verB ⟨ts⟩ v && headEq ts (rdD k (hdNm v)) then some ⟨ts⟩ else none
  else none
def newF (k : List PFile) : Nat -> Nat
  | 0 => 0
  | n + 1 => if (loadS k ((n + 1 : Nat) : Int)).isSome then n + 1 else newF k n
def newV (k : List PFile) : Nat := newF k 99
def recP (k : List PFile) : PDb := if newV k = 0 then ⟨[]⟩ else (loadS k (newV k)).getD ⟨[]⟩
def recB (k : List PFile) : Bool := decide (newV k ≠ 0)
structure NewI (k : List PFile) (v : Nat) : Prop where
  le : v <= 99
  eq : newF k v = newV k
theorem NewI.hit {k : List PFile} {v : Nat} (h : NewI k (v + 1)) {d : PDb} (e : loadS k ((v + 1 : Nat) : Int) = some d) : newV k = v + 1 /\ recP k = d /\ recB k = true := by
  have h1 : newV k = v + 1 := by rw [<- h.eq, newF, e]; rfl
  exact ⟨h1, by rw [recP, if_neg (by omega), h1, e]; rfl, by simp [recB, h1]⟩
theorem NewI.zero {k : List PFile} (h : NewI k 0) : newV k = 0 /\ recP k = ⟨[]⟩ /\ recB k = false := by
  have h1 : newV k = 0 := by rw [<- h.eq]; rfl
  exact ⟨h1, by rw [recP, if_pos h1], by simp [recB, h1]⟩
def wrA (n : PFile) : Bool -> List PFile -> List PFile
  | done, [] => if done then [] else [n]
  | done, f :: r => (if !done && !Op.bytesLess f.name n.name then [n] else []) ++ (if f.name = n.name then [] else [f]) ++ wrA n (done || !Op.bytesLess f.name n.name) r
def wrF (k : List PFile) (n : PFile) : List PFile := wrA n false k
structure WrI (k : List PFile) (n : PFile) (p : Nat × Bool × List PFile) : Prop where
  le : p.1 <= k.length
  eq : wrF k n = p.2.2 ++ wrA n p.2.1 (k.drop p.1)
  len : p.2.2.length <= p.1 + (if p.2.1 then 1 else 0)
theorem WrI.zero {k : List PFile} {n : PFile} : WrI k n (0, false, []) := ⟨by simp, by simp [wrF], by simp⟩
theorem WrI.step {k : List PFile} {n : PFile} {i : Nat} {b : Bool} {out : List PFile} (h : WrI k n (i, b, out)) (hi : i < k.length) :
    WrI k n (i + 1, b || !Op.bytesLess k[i].name n.name, out ++ ((if !b && !Op.bytesLess k[i].name n.name then [n] else []) ++ (if k[i].name = n.name then [] else [k[i]]))) := by
  refine ⟨hi, ?_, ?_⟩
  · have := h.eq
    simp only at this ⊢
    rw [this, List.drop_eq_getElem_cons hi, wrA]
    simp only [List.append_assoc]
  · have := h.len
    simp only [List.length_append] at this ⊢
    have h2 : (if k[i].name = n.name then ([] : List PFile) else [k[i]]).length <= 1 := by split <;> simp
    cases b <;> cases Op.bytesLess k[i].name n.name <;> simp at this ⊢ <;> omega
theorem WrI.done {k : List PFile} {n : PFile} {i : Nat} {b : Bool} {out : List PFile} (h : WrI k n (i, b, out)) (hi : k.length <= i) : wrF k n = out ++ (if b then [] else [n]) := by
  have := h.eq
  simp only at this
  rw [this, List.drop_of_length_le hi, wrA]
def negP (z : PCnt) : PCnt := ⟨z.ar, z.rows, z.cs.map fun n => -n⟩
structure Cz (rows : List (List Int)) (cs : List Int) : Prop where
  srt : Srt rows
  len : cs.length = rows.length
  nz : ∀ n ∈ cs, n ≠ 0
theorem cz_ok {z : PCnt} (h : cntsOk z = true) : Cz z.rows z.cs := by
  simp only [cntsOk, Bool.and_eq_true, decide_eq_true_eq, List.all_eq_true] at h
  refine ⟨rowsOk_srt h.1.2, h.1.1.symm, fun n hn e => ?_⟩
  have := h.2 n hn
  simp [cntOk, e] at this
theorem cz_mem {rows : List (List Int)} {cs : List Int} (h : Cz rows cs) (y : List Int) : y ∈ rows ↔ lkC rows cs y ≠ 0 := by
  constructor
  · intro hy
    have e := look_all h.srt h.len
    have : lkC rows cs y ∈ cs := by
      have h2 : lkC rows cs y ∈ rows.map (lkC rows cs) := List.mem_map.2 ⟨y, hy, rfl⟩
      rwa [<- e] at h2
    exact h.nz _ this
  · intro hn
    exact Classical.byContradiction fun hy => hn (look_none hy)
theorem cz_ext {r r' : List (List Int)} {c c' : List Int} (h : Cz r c) (h' : Cz r' c') (e : ∀ y, lkC r c y = lkC r' c' y) : r = r' /\ c = c' := by
  have hr : r = r' := srt_ext h.srt h'.srt fun x => by rw [cz_mem h, cz_mem h', e]
  refine ⟨hr, ?_⟩
  rw [look_all h.srt h.len, look_all h'.srt h'.len, hr]
  exact List.map_congr_left fun y _ => by rw [<- hr]; rw [e, hr]
theorem sttl_cons {α : Type} (x : α) (r : List α) (c : Int) (s : List Int) : sttl (x :: r) (c :: s) = if c = 0 then sttl r s else (x, c) :: sttl r s := by
  simp only [sttl, List.zip_cons_cons, List.filter_cons]
  by_cases h : c = 0 <;> simp [h]
theorem look_sttl (y : List Int) : ∀ (R : List (List Int)) (cs : List Int), lkC ((sttl R cs).map Prod.fst) ((sttl R cs).map Prod.snd) y = lkC R cs y
  | [], cs => by simp [sttl, lkC]
  | _ :: _, [] => by simp [sttl, lkC]
  | x :: r, c :: s => by
    have ih := look_sttl y r s
    rw [sttl_cons]
    by_cases h : c = 0
    · rw [if_pos h, ih]; simp [lkC, h]
    · rw [if_neg h, List.map_cons, List.map_cons, lkC, ih]; rfl
theorem look_map {y : List Int} {f : List Int -> Int} : ∀ {R : List (List Int)}, Srt R -> lkC R (R.map f) y = if y ∈ R then f y else 0
  | [], _ => by simp [lkC]
  | x :: r, h => by
    simp only [Srt, List.pairwise_cons] at h
    have hx : x ∉ r := fun hm => by have := h.1 x hm; simp [cmpL_self] at this
    have ih := look_map (y := y) (f := f) h.2
    simp only [List.map_cons, lkC, ih, List.mem_cons]
    by_cases e : x = y
    · subst e; simp [hx]
    · have e' : ¬ y = x := fun h => e h.symm
      simp [e, e']
theorem look_sum {ar : Int} {rows : List (List Int)} {cs : List Int} (y : List Int) : lkC (sumOf ar rows cs).rows (sumOf ar rows cs).cs y = lkC rows cs y := by
  show lkC ((sttl (srtU rows) (sumsOf rows cs)).map Prod.fst) ((sttl (srtU rows) (sumsOf rows cs)).map Prod.snd) y = _
  rw [look_sttl, sumsOf, look_map (srtU_srt rows)]
  split
  · rfl
  · rename_i h
    rw [look_none fun hm => h ((srtU_mem rows y).2 hm)]
theorem sttl_subl {α : Type} : ∀ (R : List α) (cs : List Int), ((sttl R cs).map Prod.fst).Sublist R
  | [], cs => by simp [sttl]
  | _ :: _, [] => by simp [sttl]
  | x :: r, c :: s => by
    have ih := sttl_subl r s
    rw [sttl_cons]
    by_cases h : c = 0
    · rw [if_pos h]; exact ih.cons x
    · rw [if_neg h, List.map_cons]; exact ih.cons_cons x
theorem cz_sum {ar : Int} {rows : List (List Int)} {cs : List Int} : Cz (sumOf ar rows cs).rows (sumOf ar rows cs).cs := by
  refine ⟨?_, by simp [sumOf], fun n hn => ?_⟩
  · exact List.Pairwise.sublist (sttl_subl (srtU rows) (sumsOf rows cs)) (srtU_srt rows)
  · simp only [sumOf, List.mem_map, sttl, List.mem_filter] at hn
    obtain ⟨p, hp, rfl⟩ := hn
    simpa using hp.2
theorem srt_sub_len {l l' : List (List Int)} (h : Srt l) (h' : Srt l') (hs : ∀ x ∈ l, x ∈ l') : l.length <= l'.length := by
  have e : l = l'.filter fun x => decide (x ∈ l) := srt_ext h (List.Pairwise.filter _ h') fun x => by
    simp only [List.mem_filter, decide_eq_true_eq]
    exact ⟨fun hx => ⟨hs x hx, hx⟩, fun hx => hx.2⟩
  rw [e]; exact List.length_filter_le _ _
theorem addC_ok {a b : PCnt} (h : addCB a b = true) : cntsOk (addCP a b) = true /\ (addCP a b).ar = a.ar /\ (∀ y, lkC (addCP a b).rows (addCP a b).cs y = lkC a.rows a.cs y + lkC b.rows b.cs y) /\ (srtU (a.rows ++ b.rows)).length <= 4000 /\ cntsOk a = true /\ cntsOk b = true /\ a.ar = b.ar := by
  have h0 := h
  simp only [addCB, sumB, Bool.and_eq_true, decide_eq_true_eq] at h
  obtain ⟨⟨⟨ha, hb⟩, har⟩, hl, hs⟩ := h
  rw [addCP, if_pos h0]
  exact ⟨hs, rfl, fun y => by rw [look_sum, look_app (cz_ok ha).len.symm], hl, ha, hb, har⟩
theorem addC_of {a b w : PCnt} (ha : cntsOk a = true) (hb : cntsOk b = true) (har : a.ar = b.ar) (hl : (srtU (a.rows ++ b.rows)).length <= 4000) (hw : cntsOk w = true) (hwa : w.ar = a.ar)
    (h : ∀ y, lkC w.rows w.cs y = lkC a.rows a.cs y + lkC b.rows b.cs y) : addCB a b = true /\ addCP a b = w := by
  have hc := cz_ext (cz_sum (ar := a.ar) (rows := a.rows ++ b.rows) (cs := a.cs ++ b.cs)) (cz_ok hw) fun y => by rw [look_sum, look_app (cz_ok ha).len.symm, h]
  have he : sumOf a.ar (a.rows ++ b.rows) (a.cs ++ b.cs) = w := by
    obtain ⟨war, wr, wc⟩ := w
    simp only at hc hwa
    have h1 : sumOf a.ar (a.rows ++ b.rows) (a.cs ++ b.cs) = ⟨(sumOf a.ar (a.rows ++ b.rows) (a.cs ++ b.cs)).ar, (sumOf a.ar (a.rows ++ b.rows) (a.cs ++ b.cs)).rows, (sumOf a.ar (a.rows ++ b.rows) (a.cs ++ b.cs)).cs⟩ := rfl
    rw [h1, hc.1, hc.2, hwa]; rfl
  have hB : addCB a b = true := by
    simp only [addCB, sumB, Bool.and_eq_true, decide_eq_true_eq, he]
    exact ⟨⟨⟨ha, hb⟩, har⟩, hl, hw⟩
  exact ⟨hB, by rw [addCP, if_pos hB, he]⟩
theorem negP_ok {z : PCnt} (h : cntsOk z = true) : cntsOk (negP z) = true := by
  simp only [cntsOk, negP, Bool.and_eq_true, decide_eq_true_eq, List.all_eq_true, List.length_map] at h ⊢
  refine ⟨h.1, fun n hn => ?_⟩
  obtain ⟨m, hm, rfl⟩ := List.mem_map.1 hn
  have := h.2 m hm
  simp only [cntOk, inR, Bool.and_eq_true, Bool.not_eq_true', beq_eq_false_iff_ne, decide_eq_true_eq] at this ⊢
  exact ⟨by omega, by omega⟩
theorem look_neg (y : List Int) : ∀ (R : List (List Int)) (cs : List Int), lkC R (cs.map fun n => -n) y = - lkC R cs y
  | [], cs => by simp [look_nil]
  | _ :: _, [] => by simp [lkC]
  | x :: r, c :: s => by
    simp only [List.map_cons, lkC, look_neg y r s]
    split <;> omega
theorem look_idx {rows : List (List Int)} {cs : List Int} (h : Cz rows cs) {i : Nat} (hi : i < rows.length) : lkC rows cs rows[i] = cs[i]'(by rw [h.len]; exact hi) := by
  have e := look_all h.srt h.len
  have : cs[i]'(by rw [h.len]; exact hi) = (rows.map (lkC rows cs))[i]'(by simpa using hi) := by congr 1
  rw [this, List.getElem_map]
theorem projP_ok {z : PCnt} {cols : List Int} (h : projB z cols = true) : cntsOk (projP z cols) = true := by
  rw [projP, if_pos h]
  simp only [projB, sumB, Bool.and_eq_true] at h
  exact h.2.2
theorem bl_ne {a b : List UInt8} (h : Op.bytesLess a b = true) : a ≠ b := fun e => by rw [e, bl_irr] at h; cases h
structure SplT (l A B : List PTab) (nm : List UInt8) (r : PReln) : Prop where
  eq : l = A ++ ⟨nm, r⟩ :: B
  lo : ∀ t ∈ A, Op.bytesLess t.name nm = true
  hi : ∀ t ∈ B, Op.bytesLess nm t.name = true
theorem lk_db {d : PDb} {nm : List UInt8} (h : lkB d nm = true) : dbOk d = true := by
  cases hd : dbOk d
  · rw [(lk_no hd).1] at h; cases h
  · rfl
theorem lk_split {d : PDb} {nm : List UInt8} (h : lkB d nm = true) : ∃ A B, SplT d.tabs A B nm (lkR d nm) := by
  have hd := lk_db h
  cases hT : lkT d nm with
  | none => rw [lkB, hT] at h; cases h
  | some r =>
    have hr : lkR d nm = r := by rw [lkR, hT]; rfl
    rw [hr]
    rw [lkT, if_pos hd] at hT
    obtain ⟨t, ht, rfl⟩ := Option.map_eq_some_iff.1 hT
    have hn : t.name = nm := by simpa using List.find?_some ht
    obtain ⟨A, B, hl⟩ := List.append_of_mem (List.mem_of_find?_eq_some ht)
    have hs := dbOk_srt (l := d.tabs) hd
    rw [hl] at hs
    have hp := List.pairwise_append.1 hs
    refine ⟨A, B, ?_, fun u hu => ?_, fun u hu => ?_⟩
    · rw [hl, <- hn]
    · rw [<- hn]; exact hp.2.2 u hu t (by simp)
    · rw [<- hn]; exact (List.pairwise_cons.1 hp.2.1).1 u hu
theorem tw_app {α : Type} {p : α -> Bool} {A B : List α} {t : α} (hA : ∀ a ∈ A, p a = true) (ht : p t = false) : (A ++ t :: B).takeWhile p = A := by
  induction A with
  | nil => simp [ht]
  | cons a r ih => rw [List.cons_append, List.takeWhile_cons, hA a (by simp), if_pos rfl, ih fun b hb => hA b (List.mem_cons_of_mem _ hb)]
theorem SplT.set {l A B : List PTab} {nm : List UInt8} {r : PReln} (h : SplT l A B nm r) (u : PReln) : setL l nm u = A ++ ⟨nm, u⟩ :: B := by
  have hk : setK l nm = A.length := by rw [setK, h.eq, tw_app h.lo (bl_irr nm)]
  have hh : hitK l nm = true := by
    rw [hitK, hk, h.eq]
    simp [List.getD]
  rw [setL, hk, hh, h.eq]
  simp
theorem SplT.lk {l A B : List PTab} {nm : List UInt8} {r : PReln} (h : SplT l A B nm r) (hd : dbOk ⟨l⟩ = true) : lkB ⟨l⟩ nm = true /\ lkR ⟨l⟩ nm = r := by
  have hA : A.find? (fun t => t.name == nm) = none := by
    rw [List.find?_eq_none]; intro t ht e
    exact bl_ne (h.lo t ht) (by simpa using e)
  have hT : lkT ⟨l⟩ nm = some r := by
    rw [lkT, if_pos hd]
    simp only
    rw [h.eq, List.find?_append, hA]
    simp
  exact ⟨by rw [lkB, hT]; rfl, by rw [lkR, hT]; rfl⟩
theorem SplT.put {l A B : List PTab} {nm : List UInt8} {r : PReln} (h : SplT l A B nm r) (u : PReln) : SplT (setL l nm u) A B nm u := ⟨h.set u, h.lo, h.hi⟩
theorem dbOk_of {l : List PTab} (h1 : l.length <= 6) (h2 : SrtT l) (h3 : ∀ t ∈ l, tabOk t = true) : dbOk ⟨l⟩ = true := by
  simp only [dbOk, Bool.and_eq_true, decide_eq_true_eq, List.all_eq_true, List.mem_range]
  refine ⟨h1, fun i hi => ?_⟩
  rw [dbAt_eq hi, h3 _ (List.getElem_mem hi), Bool.and_true]
  by_cases h0 : i = 0
  · simp [h0]
  · have := List.pairwise_iff_getElem.1 h2 (i - 1) i (by omega) hi (by omega)
    simp [this]
theorem SplT.ok {l A B : List PTab} {nm : List UInt8} {r u : PReln} (h : SplT l A B nm r) (hd : dbOk ⟨l⟩ = true) (hu : tabOk ⟨nm, u⟩ = true) : dbOk ⟨setL l nm u⟩ = true := by
  have hlen := dbOk_len hd
  have hs := dbOk_srt hd
  have hm : ∀ t ∈ l, tabOk t = true := fun t ht => dbOk_tab hd ht
  have e := h.eq
  rw [h.set u]
  rw [e] at hs hm hlen
  simp only at hlen
  refine dbOk_of (by simpa using hlen) ?_ fun t ht => ?_
  · have hp := List.pairwise_append.1 hs
    refine List.pairwise_append.2 ⟨hp.1, List.pairwise_cons.2 ⟨fun t ht => h.hi t ht, (List.pairwise_cons.1 hp.2.1).2⟩, fun a ha b hb => ?_⟩
    rcases List.mem_cons.1 hb with hb | hb
    · subst hb; exact h.lo a ha
    · exact hp.2.2 a ha b (List.mem_cons_of_mem _ hb)
  · rcases List.mem_append.1 ht with ht | ht
    · exact hm t (by simp [ht])
    · rcases List.mem_cons.1 ht with ht | ht
      · subst ht; exact hu
      · exact hm t (by simp [ht])
theorem SplT.tab {l A B : List PTab} {nm : List UInt8} {r : PReln} (h : SplT l A B nm r) (hd : dbOk ⟨l⟩ = true) : tabOk ⟨nm, r⟩ = true :=
  dbOk_tab hd (t := ⟨nm, r⟩) (by rw [h.eq]; simp)
theorem hasR_iff {r : PReln} (h : rowsOk r.ar r.rows = true) (row : List Int) : hasR r row = true ↔ row ∈ r.rows := by
  rw [hasR, h, Bool.true_and, placeB_iff (rowsOk_srt h)]
theorem hasR_no {r : PReln} (h : rowsOk r.ar r.rows = true) (row : List Int) : hasR r row = false ↔ row ∉ r.rows := by
  rw [<- hasR_iff h]; cases hasR r row <;> simp
structure Fit (d : PDb) (x : PDelta) : Prop where
  lk : lkB d x.name = true
  ins : rowsOk x.ins.ar x.ins.rows = true
  del : rowsOk x.del.ar x.del.rows = true
  ai : x.ins.ar = (lkR d x.name).ar
  ad : x.del.ar = (lkR d x.name).ar
theorem fit_of {d : PDb} {x : PDelta} : fitB d x = true ↔ Fit d x := by
  simp only [fitB, Bool.and_eq_true, decide_eq_true_eq]
  exact ⟨fun h => ⟨h.1.1.1.1, h.1.1.1.2, h.1.1.2, h.1.2, h.2⟩, fun h => ⟨⟨⟨⟨h.lk, h.ins⟩, h.del⟩, h.ai⟩, h.ad⟩⟩
theorem nor_eq {d : PDb} {x : PDelta} (h : fitB d x = true) : norP d x = ⟨x.name, ⟨(lkR d x.name).ar, norI (lkR d x.name) x.ins.rows⟩, ⟨(lkR d x.name).ar, norD (lkR d x.name) x.ins x.del.rows⟩⟩ := by rw [norP, if_pos h]
theorem mem_norI {r : PReln} (h : rowsOk r.ar r.rows = true) {l : List (List Int)} (y : List Int) : y ∈ norI r l ↔ y ∈ l /\ y ∉ r.rows := by
  rw [norI, List.mem_filter, Bool.not_eq_true', hasR_no h]
theorem mem_norD {r i : PReln} (h : rowsOk r.ar r.rows = true) (hi : rowsOk i.ar i.rows = true) {l : List (List Int)} (y : List Int) : y ∈ norD r i l ↔ y ∈ l /\ y ∈ r.rows /\ y ∉ i.rows := by
  rw [norD, List.mem_filter, Bool.and_eq_true, Bool.not_eq_true', hasR_iff h, hasR_no hi]
theorem nor_fit {d : PDb} {x : PDelta} (h : fitB d x = true) : fitB d (norP d x) = true /\ norP d (norP d x) = norP d x := by
  have f := fit_of.1 h
  have hr := lk_ok f.lk
  have hI : rowsOk (lkR d x.name).ar (norI (lkR d x.name) x.ins.rows) = true := by rw [<- f.ai]; exact rowsOk_filter f.ins
  have hD : rowsOk (lkR d x.name).ar (norD (lkR d x.name) x.ins x.del.rows) = true := by rw [<- f.ad]; exact rowsOk_filter f.del
  have h2 : fitB d (norP d x) = true := by rw [nor_eq h]; exact fit_of.2 ⟨f.lk, hI, hD, rfl, rfl⟩
  refine ⟨h2, ?_⟩
  rw [nor_eq h2]
  have e : norP d x = _ := nor_eq h
  rw [e]
  simp only
  have e1 : norI (lkR d x.name) (norI (lkR d x.name) x.ins.rows) = norI (lkR d x.name) x.ins.rows := by simp [norI]
  have e2 : norD (lkR d x.name) ⟨(lkR d x.name).ar, norI (lkR d x.name) x.ins.rows⟩ (norD (lkR d x.name) x.ins x.del.rows) = norD (lkR d x.name) x.ins x.del.rows := by
    rw [norD]
    refine List.filter_eq_self.2 fun y hy => ?_
    have hm := (mem_norD hr f.ins y).1 hy
    rw [Bool.and_eq_true, Bool.not_eq_true', hasR_iff hr, hasR_no (r := ⟨(lkR d x.name).ar, norI (lkR d x.name) x.ins.rows⟩) hI]
    exact ⟨hm.2.1, fun h' => ((mem_norI hr y).1 h').2 hm.2.1⟩
  rw [e1, e2]
theorem app_mem {d : PDb} {x : PDelta} (h : appG d x = true) : fitB d x = true /\ rowsOk (appU d x).ar (appU d x).rows = true /\ (appU d x).ar = (lkR d x.name).ar /\
    ∀ y, y ∈ (appU d x).rows ↔ (y ∈ (lkR d x.name).rows /\ y ∉ (norP d x).del.rows) \/ y ∈ (norP d x).ins.rows := by
  have h0 := h
  simp only [appG, uniB, Bool.and_eq_true] at h
  obtain ⟨hf, e3, e5⟩ := h
  have f := fit_of.1 hf
  have f2 := fit_of.1 (nor_fit hf).1
  have hn : (norP d x).name = x.name := by rw [nor_eq hf]
  have hr := lk_ok f.lk
  have e1 : difB (lkR d x.name) (norP d x).del = true := by
    simp only [difB, Bool.and_eq_true, decide_eq_true_eq]
    exact ⟨⟨hr, f2.del⟩, by have := f2.ad; rw [hn] at this; exact this.symm⟩
  have e2 : difD d x = ⟨(lkR d x.name).ar, difL (lkR d x.name).rows (norP d x).del.rows⟩ := by rw [difD, difR, if_pos e1]
  have eU : appU d x = ⟨(lkR d x.name).ar, srtU ((difD d x).rows ++ (norP d x).ins.rows)⟩ := by rw [appU, uniR, if_pos e3, newR, if_pos e5, e2]
  have hrow : rowsOk (difD d x).ar (srtU ((difD d x).rows ++ (norP d x).ins.rows)) = true := by
    simp only [newB, Bool.and_eq_true] at e5; exact e5.2
  refine ⟨hf, ?_, by rw [eU], fun y => ?_⟩
  · rw [eU]; rw [e2] at hrow ⊢; exact hrow
  · rw [eU]
    simp only
    rw [srtU_mem, List.mem_append, e2]
    simp only
    rw [difL, List.mem_filter, Bool.not_eq_true', <- Bool.not_eq_true, placeB_iff (rowsOk_srt f2.del)]
theorem app_no {d : PDb} {x : PDelta} (h : appB d x = false) : appP d x = d := by
  rw [appP]
  split
  · rename_i h1
    rw [appB, h1, Bool.true_and] at h
    rw [setP, h]; rfl
  · rfl
theorem app_eq {d : PDb} {x : PDelta} (h : appB d x = true) : appP d x = ⟨setL d.tabs x.name (appU d x)⟩ := by
  simp only [appB, Bool.and_eq_true] at h
  rw [appP, if_pos h.1, setP, if_pos h.2]
def lookV (a r : List Int) (v : Int) : Int := r.getD (idxL a v).toNat 0
def aVars (vs : List Int) : List Int := (rangeI 5).filter fun v => vs.contains v
def fitR (vs row : List Int) : Bool := decide (vs.map (lookV vs row) = row)
def valL (vs row : List Int) : List Int := (vs.zip row).foldl (fun val p => val.set p.1.toNat p.2) (List.replicate 5 0)
def abL (vs : List Int) (rows : List (List Int)) : List (List Int) := (rows.filter (fitR vs)).map fun row => pickR (aVars vs) (valL vs row)
def abR (d : PDb) (a : PAtom) : List (List Int) := srtU (abL a.vars (lkR d a.rel).rows)
def insI (l : List Int) (n : Int) : List Int :=
  if (l.getD (l.takeWhile fun x => decide (x < n)).length (n + 1)) = n then l else l.take (l.takeWhile fun x => decide (x < n)).length ++ n :: l.drop (l.takeWhile fun x => decide (x < n)).length
def uniL (a b : List Int) : List Int := b.foldl insI a
def glV (a r b s : List Int) (v : Int) : Bool := !(a.contains v && b.contains v && !decide (lookV a r v = lookV b s v))
def glB (u a r b s : List Int) : Bool := u.all (glV a r b s)
def glR (u a r b s : List Int) : List Int := u.map fun v => if a.contains v then lookV a r v else lookV b s v
def glO (u a r b s : List Int) : Option (List Int) := if glB u a r b s then some (glR u a r b s) else none
def joinL (u a : List Int) (rows : List (List Int)) (b : List Int) (list : List (List Int)) : List (List Int) := rows.flatMap fun r => list.filterMap fun s => glO u a r b s
def joinS (d : PDb) (p : List Int × List (List Int)) (a : PAtom) : List Int × List (List Int) := (uniL p.1 (aVars a.vars), joinL (uniL p.1 (aVars a.vars)) p.1 p.2 (aVars a.vars) (abR d a))
def binds (d : PDb) (l : List PAtom) : List Int × List (List Int) := l.foldl (joinS d) ([], [[]])
def qryFor (d : PDb) (q : PQuery) : Bool := queryOk q && dbOk d && q.atoms.all fun a => lkB d a.rel && decide ((lkR d a.rel).ar = a.vars.length)
def bdB (d : PDb) (q : PQuery) : Bool := qryFor d q && rowsOk q.n (srtU (binds d q.atoms).2)
def bdP (d : PDb) (q : PQuery) : PReln := if bdB d q then ⟨q.n, srtU (binds d q.atoms).2⟩ else ⟨0, []⟩
def asgO : List Int -> List (Int × Int) -> Option (List Int)
  | x, [] => some x
  | x, (v, y) :: r => if x.getD v.toNat 0 = -1 \/ x.getD v.toNat 0 = y then asgO (x.set v.toNat y) r else none
theorem idxL_mem {l : List Int} {v : Int} (h : v ∈ l) : (idxL l v).toNat < l.length /\ l.getD (idxL l v).toNat 0 = v := by
  rw [idxL, if_pos h]
  simp only [Int.toNat_natCast]
  induction l with
  | nil => cases h
  | cons x r ih =>
    by_cases hx : x = v
    · subst hx; simp
    · have hr : v ∈ r := (List.mem_cons.1 h).resolve_left fun e => hx e.symm
      have := ih hr
      have hb : (!(x == v)) = true := by simp [hx]
      have e : (x :: r).takeWhile (fun x => !(x == v)) = x :: r.takeWhile (fun x => !(x == v)) := by rw [List.takeWhile_cons, if_pos hb]
      rw [e]
      simp only [List.length_cons, List.getD_cons_succ]
      exact ⟨by omega, this.2⟩
theorem lookV_map {a : List Int} (β : Int -> Int) {v : Int} (h : v ∈ a) : lookV a (a.map β) v = β v := by
  obtain ⟨h1, h2⟩ := idxL_mem h
  rw [lookV]
  have : (a.map β).getD (idxL a v).toNat 0 = β (a.getD (idxL a v).toNat 0) := by
    simp [List.getD, h1]
  rw [this, h2]
theorem idxL_self : ∀ {a : List Int}, a.Nodup -> ∀ i (h : i < a.length), (idxL a a[i]).toNat = i := by
  intro a ha i h
  obtain ⟨h1, h2⟩ := idxL_mem (List.getElem_mem h)
  have h3 : a[(idxL a a[i]).toNat] = a[i] := by
    have := h2
    rwa [getD_el _ h1] at this
  exact (List.getElem_inj ha).1 h3
theorem map_lookV {a r : List Int} (ha : a.Nodup) (hl : r.length = a.length) : a.map (lookV a r) = r := by
  refine List.ext_getElem (by simp [hl]) fun i h1 h2 => ?_
  rw [List.getElem_map, lookV, idxL_self ha i (by simpa using h1), getD_el _ h2]
theorem map_congr_mem {a : List Int} {f g : Int -> Int} : a.map f = a.map g ↔ ∀ v ∈ a, f v = g v := List.map_inj_left
theorem aVars_mem {vs : List Int} {v : Int} : v ∈ aVars vs ↔ v ∈ vs /\ 0 <= v /\ v < 5 := by
  rw [aVars, List.mem_filter]
  simp only [rangeI, List.mem_map, List.mem_range, List.contains_iff_mem]
  constructor
  · rintro ⟨⟨k, hk, rfl⟩, h⟩; exact ⟨h, by omega, by omega⟩
  · rintro ⟨h, h0, h1⟩; exact ⟨⟨v.toNat, by omega, by omega⟩, h⟩
theorem rangeI_pw (n : Nat) : (rangeI n).Pairwise (· < ·) := by
  rw [rangeI, List.pairwise_map]
  exact List.pairwise_lt_range.imp fun h => by omega
theorem aVars_pw (vs : List Int) : (aVars vs).Pairwise (· < ·) := List.Pairwise.filter _ (rangeI_pw 5)
theorem pw_nodup {l : List Int} (h : l.Pairwise (· < ·)) : l.Nodup := h.imp fun h => by omega
theorem val_step {vs row : List Int} (val : List Int) (β : Int -> Int) (hr : row = vs.map β) (hv : ∀ v ∈ vs, 0 <= v /\ v < 5) (hl : val.length = 5) :
    ((vs.zip row).foldl (fun val p => val.set p.1.toNat p.2) val).length = 5 /\ ∀ u : Int, 0 <= u -> u < 5 -> ((vs.zip row).foldl (fun val p => val.set p.1.toNat p.2) val).getD u.toNat 0 = if u ∈ vs then β u else val.getD u.toNat 0 := by
  subst hr
  induction vs generalizing val with
  | nil => simp [hl]
  | cons w r ih =>
    simp only [List.map_cons, List.zip_cons_cons, List.foldl_cons]
    have hw := hv w (by simp)
    have := ih (val.set w.toNat (β w)) (fun v hm => hv v (List.mem_cons_of_mem _ hm)) (by simp [hl])
    refine ⟨this.1, fun u h0 h5 => ?_⟩
    rw [this.2 u h0 h5]
    by_cases h1 : u ∈ r
    · simp [h1]
    · by_cases h2 : u = w
      · subst h2
        simp only [h1, if_false, List.mem_cons, true_or, if_true]
        simp [List.getD, List.getElem?_set, hl, show u.toNat < 5 by omega]
      · have h3 : u ∉ w :: r := by simp [h1, h2]
        rw [if_neg h1, if_neg h3]
        have : w.toNat ≠ u.toNat := by omega
        simp [List.getD, List.getElem?_set, this]
theorem val_pick {vs row : List Int} (β : Int -> Int) (hr : row = vs.map β) (hv : ∀ v ∈ vs, 0 <= v /\ v < 5) : pickR (aVars vs) (valL vs row) = (aVars vs).map β := by
  rw [pickR]
  refine map_congr_mem.2 fun u hu => ?_
  obtain ⟨h1, h2, h3⟩ := aVars_mem.1 hu
  rw [valL, (val_step (List.replicate 5 0) β hr hv (by simp)).2 u h2 h3, if_pos h1]
theorem ab_mem {vs : List Int} {rows : List (List Int)} (hv : ∀ v ∈ vs, 0 <= v /\ v < 5) (β : Int -> Int) : (aVars vs).map β ∈ srtU (abL vs rows) ↔ vs.map β ∈ rows := by
  rw [srtU_mem, abL, List.mem_map]
  constructor
  · rintro ⟨row, hrow, e⟩
    obtain ⟨h1, h2⟩ := List.mem_filter.1 hrow
    have hf : row = vs.map (lookV vs row) := (of_decide_eq_true h2).symm
    rw [val_pick (lookV vs row) hf hv] at e
    have he := map_congr_mem.1 e
    have : vs.map β = row := by
      rw [hf]
      refine map_congr_mem.2 fun v hm => ?_
      exact (he v (aVars_mem.2 ⟨hm, hv v hm⟩)).symm
    rw [this]; exact h1
  · intro h
    refine ⟨vs.map β, List.mem_filter.2 ⟨h, decide_eq_true ?_⟩, val_pick β rfl hv⟩
    exact map_congr_mem.2 fun v hm => lookV_map β hm
theorem ab_len {vs : List Int} {rows : List (List Int)} : ∀ s ∈ srtU (abL vs rows), s.length = (aVars vs).length := fun s hs => by
  rw [srtU_mem, abL, List.mem_map] at hs
  obtain ⟨row, _, rfl⟩ := hs
  exact pickR_len _ _
theorem insI_pw {l : List Int} (h : l.Pairwise (· < ·)) (n : Int) : (insI l n).Pairwise (· < ·) /\ ∀ x, x ∈ insI l n ↔ x ∈ l \/ x = n := by
  induction l with
  | nil =>
    have e : insI [] n = [n] := by
      have : ([] : List Int).getD 0 (n + 1) ≠ n := by simp [List.getD]; omega
      simp only [insI, List.takeWhile_nil, List.length_nil, if_neg this, List.take_nil, List.drop_nil, List.nil_append]
    rw [e]; simp
  | cons a r ih =>
    have hp := List.pairwise_cons.1 h
    have ih := ih hp.2
    by_cases h1 : a < n
    · have e : insI (a :: r) n = a :: insI r n := by
        simp only [insI, List.takeWhile_cons, decide_eq_true h1, if_true, List.length_cons, List.getD_cons_succ, List.take_succ_cons, List.drop_succ_cons]
        split <;> simp
      rw [e]
      refine ⟨List.pairwise_cons.2 ⟨fun x hx => ?_, ih.1⟩, fun x => ?_⟩
      · rcases (ih.2 x).1 hx with hx | hx
        · exact hp.1 x hx
        · omega
      · rw [List.mem_cons, ih.2, List.mem_cons, or_assoc]
    · have e0 : (List.takeWhile (fun x => decide (x < n)) (a :: r)).length = 0 := by simp [List.takeWhile_cons, h1]
      by_cases h2 : a = n
      · subst h2
        have e : insI (a :: r) a = a :: r := by simp [insI, e0]
        rw [e]
        exact ⟨h, fun x => by simp; intro hx; exact .inl hx⟩
      · have e : insI (a :: r) n = n :: a :: r := by simp [insI, e0, h2]
        rw [e]
        refine ⟨List.pairwise_cons.2 ⟨fun x hx => ?_, h⟩, fun x => by simp [or_comm]⟩
        rcases List.mem_cons.1 hx with hx | hx
        · omega
        · have := hp.1 x hx; omega
theorem uniL_pw : ∀ (b : List Int) {a : List Int}, a.Pairwise (· < ·) -> (uniL a b).Pairwise (· < ·) /\ ∀ x, x ∈ uniL a b ↔ x ∈ a \/ x ∈ b
  | [], a, h => ⟨h, by simp [uniL]⟩
  | n :: b, a, h => by
    have h1 := insI_pw h n
    have h2 := uniL_pw b h1.1
    refine ⟨h2.1, fun x => ?_⟩
    have : uniL a (n :: b) = uniL (insI a n) b := rfl
    rw [this, h2.2, h1.2, List.mem_cons, or_assoc]
theorem pw_ext : ∀ {l l' : List Int}, l.Pairwise (· < ·) -> l'.Pairwise (· < ·) -> (∀ x, x ∈ l ↔ x ∈ l') -> l = l'
  | [], [], _, _, _ => rfl
  | [], b :: s, _, _, h => by have := (h b).2 (by simp); simp at this
  | a :: r, [], _, _, h => by have := (h a).1 (by simp); simp at this
  | a :: r, b :: s, h1, h2, h => by
    have p1 := List.pairwise_cons.1 h1
    have p2 := List.pairwise_cons.1 h2
    have hab : a = b := by
      rcases List.mem_cons.1 ((h a).1 (by simp)) with e | e
      · exact e
      · rcases List.mem_cons.1 ((h b).2 (by simp)) with e' | e'
        · exact e'.symm
        · have := p2.1 a e; have := p1.1 b e'; omega
    subst hab
    congr 1
    refine pw_ext p1.2 p2.2 fun x => ?_
    have hx := h x
    simp only [List.mem_cons] at hx
    constructor
    · intro hm
      rcases hx.1 (.inr hm) with e | e
      · have := p1.1 x hm; omega
      · exact e
    · intro hm
      rcases hx.2 (.inr hm) with e | e
      · have := p2.1 x hm; omega
      · exact e
theorem join_mem {u a b : List Int} {rows list : List (List Int)} (ha : a.Nodup) (hb : b.Nodup) (hu : ∀ x, x ∈ u ↔ x ∈ a \/ x ∈ b) (hr : ∀ r ∈ rows, r.length = a.length) (hs : ∀ s ∈ list, s.length = b.length) (β : Int -> Int) :
    u.map β ∈ joinL u a rows b list ↔ a.map β ∈ rows /\ b.map β ∈ list := by
  simp only [joinL, List.mem_flatMap, List.mem_filterMap, glO]
  constructor
  · rintro ⟨r, hrm, s, hsm, h⟩
    split at h
    · rename_i hg
      simp only [Option.some.injEq, glR] at h
      have he := map_congr_mem.1 h
      have hgv : ∀ v ∈ u, v ∈ a -> v ∈ b -> lookV a r v = lookV b s v := fun v h1 h2 h3 => by
        have := (List.all_eq_true.1 hg) v h1
        simpa [glV, List.contains_iff_mem, h2, h3] using this
      have e1 : ∀ v ∈ a, lookV a r v = β v := fun v hv => by
        have := he v ((hu v).2 (.inl hv))
        simpa [List.contains_iff_mem, hv] using this
      have e2 : ∀ v ∈ b, lookV b s v = β v := fun v hv => by
        by_cases hva : v ∈ a
        · rw [<- hgv v ((hu v).2 (.inr hv)) hva hv]; exact e1 v hva
        · have := he v ((hu v).2 (.inr hv))
          simpa [List.contains_iff_mem, hva] using this
      have f1 : a.map β = r := by rw [<- map_lookV ha (hr r hrm)]; exact map_congr_mem.2 fun v hv => (e1 v hv).symm
      have f2 : b.map β = s := by rw [<- map_lookV hb (hs s hsm)]; exact map_congr_mem.2 fun v hv => (e2 v hv).symm
      rw [f1, f2]; exact ⟨hrm, hsm⟩
    · cases h
  · rintro ⟨h1, h2⟩
    refine ⟨a.map β, h1, b.map β, h2, ?_⟩
    rw [if_pos]
    · simp only [Option.some.injEq, glR]
      refine map_congr_mem.2 fun v hv => ?_
      by_cases hva : v ∈ a
      · simp only [List.contains_iff_mem, hva, if_true]; exact lookV_map β hva
      · have hvb := ((hu v).1 hv).resolve_left hva
        simp only [List.contains_iff_mem, hva, if_false]; exact lookV_map β hvb
    · refine List.all_eq_true.2 fun v hv => ?_
      by_cases hva : v ∈ a
      · by_cases hvb : v ∈ b
        · simp [glV, lookV_map β hva, lookV_map β hvb]
        · simp [glV, List.contains_iff_mem, hvb]
      · simp [glV, List.contains_iff_mem, hva]
theorem join_len {u a b : List Int} {rows list : List (List Int)} : ∀ x ∈ joinL u a rows b list, x.length = u.length := fun x hx => by
  simp only [joinL, List.mem_flatMap, List.mem_filterMap, glO] at hx
  obtain ⟨r, _, s, _, h⟩ := hx
  split at h
  · simp only [Option.some.injEq] at h
    rw [<- h, glR, List.length_map]
  · cases h
structure Jn (d : PDb) (as : List PAtom) (p : List Int × List (List Int)) : Prop where
  pw : p.1.Pairwise (· < ·)
  mem : ∀ x, x ∈ p.1 ↔ x ∈ varsIn as
  len : ∀ r ∈ p.2, r.length = p.1.length
  iff : ∀ β : Int -> Int, p.1.map β ∈ p.2 ↔ ∀ a ∈ as, a.vars.map β ∈ (lkR d a.rel).rows
theorem Jn.zero (d : PDb) : Jn d [] ([], [[]]) := ⟨.nil, by simp [varsIn], by simp, by simp⟩
theorem Jn.step {d : PDb} {as : List PAtom} {p : List Int × List (List Int)} (h : Jn d as p) {a : PAtom} (hv : ∀ v ∈ a.vars, 0 <= v /\ v < 5) : Jn d (as ++ [a]) (joinS d p a) := by
  have hu := uniL_pw (aVars a.vars) h.pw
  have hab : ∀ x, x ∈ uniL p.1 (aVars a.vars) ↔ x ∈ p.1 \/ x ∈ aVars a.vars := hu.2
  refine ⟨hu.1, fun x => ?_, join_len, fun β => ?_⟩
  · show x ∈ uniL p.1 (aVars a.vars) ↔ _
    rw [hab, h.mem, varsIn, varsIn, List.flatMap_append, List.mem_append, aVars_mem]
    simp only [List.flatMap_cons, List.flatMap_nil, List.append_nil]
    constructor
    · rintro (h | h)
      · exact .inl h
      · exact .inr h.1
    · rintro (h | h)
      · exact .inl h
      · exact .inr ⟨h, hv x h⟩
  · show (uniL p.1 (aVars a.vars)).map β ∈ joinL (uniL p.1 (aVars a.vars)) p.1 p.2 (aVars a.vars) (abR d a) ↔ _
    have hl : ∀ s ∈ abR d a, s.length = (aVars a.vars).length := ab_len
    rw [join_mem (pw_nodup h.pw) (pw_nodup (aVars_pw a.vars)) hab h.len hl, h.iff, abR, ab_mem hv]
    simp only [List.mem_append, List.mem_singleton]
    constructor
    · rintro ⟨h1, h2⟩ b (hb | rfl)
      · exact h1 b hb
      · exact h2
    · exact fun h => ⟨fun b hb => h b (.inl hb), h a (.inr rfl)⟩
theorem Jn.all {d : PDb} : ∀ (l as : List PAtom) (p : List Int × List (List Int)), Jn d as p -> (∀ a ∈ l, ∀ v ∈ a.vars, 0 <= v /\ v < 5) -> Jn d (as ++ l) (l.foldl (joinS d) p)
  | [], as, p, h, _ => by simpa using h
  | a :: l, as, p, h, hv => by
    have := Jn.all l (as ++ [a]) (joinS d p a) (h.step (hv a (by simp))) fun b hb => hv b (List.mem_cons_of_mem _ hb)
    simpa using this
theorem getD_set_eq {x : List Int} {i : Nat} {y : Int} (h : i < x.length) : (x.set i y).getD i 0 = y := by simp [List.getD, List.getElem?_set, h]
theorem getD_set_ne {x : List Int} {i j : Nat} {y : Int} (h : i ≠ j) : (x.set i y).getD j 0 = x.getD j 0 := by simp [List.getD, List.getElem?_set, h]
theorem asg_iff : ∀ (vs t x z : List Int), t.length = vs.length -> (∀ v ∈ vs, 0 <= v /\ v < x.length) -> (∀ y ∈ t, y ≠ -1) ->
    (asgO x (vs.zip t) = some z ↔ z.length = x.length /\ pickR vs z = t /\ (∀ j : Nat, (j : Int) ∉ vs -> z.getD j 0 = x.getD j 0) /\ ∀ j : Nat, x.getD j 0 ≠ -1 -> z.getD j 0 = x.getD j 0)
  | [], [], x, z, _, _, _ => by
    simp only [List.zip_nil_left, asgO, Option.some.injEq, pickR, List.map_nil, true_and, List.not_mem_nil, not_false_eq_true, forall_const]
    constructor
    · rintro rfl; exact ⟨rfl, fun _ => rfl, fun _ _ => rfl⟩
    · rintro ⟨h1, h2, _⟩
      refine List.ext_getElem h1.symm fun i a b => ?_
      have := h2 i
      rw [getD_el _ b, getD_el _ a] at this
      exact this.symm
  | [], _ :: _, _, _, h, _, _ => by simp at h
  | _ :: _, [], _, _, h, _, _ => by simp at h
  | v :: vs, y :: t, x, z, hl, hv, hy => by
    have hv0 := hv v (by simp)
    have hy0 := hy y (by simp)
    have hvn : v.toNat < x.length := by omega
    rw [List.zip_cons_cons, asgO]
    by_cases hc : x.getD v.toNat 0 = -1 \/ x.getD v.toNat 0 = y
    · rw [if_pos hc, asg_iff vs t (x.set v.toNat y) z (by simpa using hl) (fun u hu => by have := hv u (List.mem_cons_of_mem _ hu); simpa using this) fun w hw => hy w (List.mem_cons_of_mem _ hw)]
      simp only [List.length_set]
      have hp : pickR (v :: vs) z = y :: t ↔ z.getD v.toNat 0 = y /\ pickR vs z = t := by simp [pickR]
      rw [hp]
      constructor
      · rintro ⟨h1, h2, h3, h4⟩
        have h5 : z.getD v.toNat 0 = y := by
          have := h4 v.toNat (by rw [getD_set_eq hvn]; exact hy0)
          rwa [getD_set_eq hvn] at this
        refine ⟨h1, ⟨h5, h2⟩, fun j hj => ?_, fun j hj => ?_⟩
        · have hne : v.toNat ≠ j := fun e => hj (by rw [<- e, Int.toNat_of_nonneg hv0.1]; simp)
          rw [h3 j fun hm => hj (List.mem_cons_of_mem _ hm), getD_set_ne hne]
        · by_cases e : v.toNat = j
          · subst e
            rcases hc with hc | hc
            · exact absurd hc hj
            · rw [h5, hc]
          · have := h4 j (by rw [getD_set_ne e]; exact hj)
            rwa [getD_set_ne e] at this
      · rintro ⟨h1, ⟨h5, h2⟩, h3, h4⟩
        refine ⟨h1, h2, fun j hj => ?_, fun j hj => ?_⟩
        · by_cases e : v.toNat = j
          · subst e; rw [getD_set_eq hvn, h5]
          · rw [getD_set_ne e]
            refine h3 j fun hm => ?_
            rcases List.mem_cons.1 hm with hm | hm
            · exact e (by rw [<- hm]; simp)
            · exact hj hm
        · by_cases e : v.toNat = j
          · subst e; rw [getD_set_eq hvn, h5]
          · rw [getD_set_ne e] at hj ⊢; exact h4 j hj
    · rw [if_neg hc]
      constructor
      · intro h; cases h
      · rintro ⟨h1, h2, h3, h4⟩
        have h5 : z.getD v.toNat 0 = y := by
          simp only [pickR, List.map_cons, List.cons.injEq] at h2; exact h2.1
        have := h4 v.toNat fun e => hc (.inl e)
        exact absurd (this ▸ h5) fun e => hc (.inr e)
structure Qf (d : PDb) (q : PQuery) : Prop where
  qok : queryOk q = true
  dok : dbOk d = true
  n5 : 1 <= q.n /\ q.n <= 5
  a4 : 1 <= q.atoms.length /\ q.atoms.length <= 4
  vin : ∀ a ∈ q.atoms, ∀ v ∈ a.vars, 0 <= v /\ v < q.n
  vlen : ∀ a ∈ q.atoms, 1 <= a.vars.length /\ a.vars.length <= 5
  lk : ∀ a ∈ q.atoms, lkB d a.rel = true
  ar : ∀ a ∈ q.atoms, (lkR d a.rel).ar = a.vars.length
  all : ∀ j : Int, 0 <= j -> j < q.n -> j ∈ varsIn q.atoms
theorem qf_of {d : PDb} {q : PQuery} (h : qryFor d q = true) : Qf d q := by
  simp only [qryFor, Bool.and_eq_true, List.all_eq_true, decide_eq_true_eq] at h
  obtain ⟨⟨h1, h2⟩, h3⟩ := h
  have h0 := h1
  simp only [queryOk, Bool.and_eq_true, inR, decide_eq_true_eq, List.all_eq_true] at h1
  obtain ⟨⟨⟨⟨hn, ha⟩, ho⟩, hat⟩, hu⟩ := h1
  refine ⟨h0, h2, hn, by omega, fun a hm v hv => ?_, fun a hm => ?_, fun a hm => (h3 a hm).1, fun a hm => (h3 a hm).2, fun j hj0 hj => ?_⟩
  · have := hat a hm
    simp only [atomOk, Bool.and_eq_true, List.all_eq_true] at this
    have := this.2 v hv
    rw [wrap64_of (by omega) (by omega)] at this
    simp only [inR, Bool.and_eq_true, decide_eq_true_eq] at this
    omega
  · have := hat a hm
    simp only [atomOk, Bool.and_eq_true, inR, decide_eq_true_eq] at this
    omega
  · simp only [usesAll, List.all_eq_true, List.mem_range, List.contains_iff_mem] at hu
    have := hu j.toNat (by omega)
    rwa [Int.toNat_of_nonneg hj0] at this
theorem lk_rows {d : PDb} {nm : List UInt8} (h : lkB d nm = true) : (lkR d nm).rows.length <= 16 := by
  obtain ⟨A, B, sp⟩ := lk_split h
  have := sp.tab (lk_db h)
  simp only [tabOk, Bool.and_eq_true, decide_eq_true_eq] at this
  exact this.2
theorem rangeI_mem {n : Nat} {x : Int} : x ∈ rangeI n ↔ 0 <= x /\ x < n := by
  simp only [rangeI, List.mem_map, List.mem_range]
  constructor
  · rintro ⟨k, hk, rfl⟩; omega
  · rintro ⟨h0, h1⟩; exact ⟨x.toNat, by omega, by omega⟩
theorem rangeI_len (n : Nat) : (rangeI n).length = n := by simp [rangeI]
theorem rangeI_map {n : Nat} {z : List Int} (h : z.length = n) : (rangeI n).map (fun v => z.getD v.toNat 0) = z := by
  refine List.ext_getElem (by simp [rangeI_len, h]) fun i h1 h2 => ?_
  simp only [rangeI, List.map_map, List.getElem_map, List.getElem_range, Function.comp_apply, Int.toNat_natCast]
  exact getD_el _ h2
theorem binds_jn {d : PDb} {q : PQuery} (f : Qf d q) : Jn d q.atoms (binds d q.atoms) := by
  have := Jn.all q.atoms [] ([], [[]]) (Jn.zero d) fun a ha v hv => by have := f.vin a ha v hv; have := f.n5; omega
  simpa [binds] using this
theorem binds_vars {d : PDb} {q : PQuery} (f : Qf d q) : (binds d q.atoms).1 = rangeI q.n.toNat := by
  have j := binds_jn f
  refine pw_ext j.pw (rangeI_pw _) fun x => ?_
  rw [j.mem, rangeI_mem]
  constructor
  · intro h
    simp only [varsIn, List.mem_flatMap] at h
    obtain ⟨a, ha, hx⟩ := h
    have := f.vin a ha x hx; omega
  · rintro ⟨h0, h1⟩; exact f.all x h0 (by omega)
theorem binds_mem {d : PDb} {q : PQuery} (f : Qf d q) (z : List Int) : z ∈ (binds d q.atoms).2 ↔ z.length = q.n.toNat /\ ∀ a ∈ q.atoms, pickR a.vars z ∈ (lkR d a.rel).rows := by
  have j := binds_jn f
  have hv := binds_vars f
  have key : z.length = q.n.toNat -> (z ∈ (binds d q.atoms).2 ↔ ∀ a ∈ q.atoms, pickR a.vars z ∈ (lkR d a.rel).rows) := fun hl => by
    have := j.iff fun v => z.getD v.toNat 0
    rw [hv, rangeI_map hl] at this
    exact this
  constructor
  · intro h
    have hl : z.length = q.n.toNat := by rw [j.len z h, hv, rangeI_len]
    exact ⟨hl, (key hl).1 h⟩
  · rintro ⟨hl, h⟩; exact (key hl).2 h
theorem join_size {u a b : List Int} {rows list : List (List Int)} : (joinL u a rows b list).length <= rows.length * list.length := by
  simp only [joinL]
  induction rows with
  | nil => simp
  | cons r rs ih =>
    rw [List.flatMap_cons, List.length_append, List.length_cons, Nat.add_mul, Nat.one_mul]
    have := List.length_filterMap_le (fun s => glO u a r b s) list
    omega
theorem abR_size {d : PDb} {q : PQuery} (f : Qf d q) {a : PAtom} (ha : a ∈ q.atoms) : (abR d a).length <= 16 := by
  have h1 := srtU_len (abL a.vars (lkR d a.rel).rows)
  have h2 := List.length_filter_le (fitR a.vars) (lkR d a.rel).rows
  have h3 := lk_rows (f.lk a ha)
  simp only [abR]
  simp only [abL, List.length_map] at h1
  simp only [abL]
  omega
theorem binds_snoc (d : PDb) (l : List PAtom) (a : PAtom) : binds d (l ++ [a]) = joinS d (binds d l) a := by simp [binds]
theorem binds_size {d : PDb} {q : PQuery} (f : Qf d q) : ∀ i, i <= q.atoms.length -> (binds d (q.atoms.take i)).2.length <= 16 ^ i
  | 0, _ => by simp [binds]
  | i + 1, hi => by
    have ih := binds_size f i (by omega)
    rw [List.take_succ_eq_append_getElem (by omega), binds_snoc]
    show (joinL _ _ (binds d (q.atoms.take i)).2 _ (abR d q.atoms[i])).length <= _
    refine Nat.le_trans join_size ?_
    rw [Nat.pow_succ]
    exact Nat.mul_le_mul ih (abR_size f (List.getElem_mem _))
theorem binds_le {d : PDb} {q : PQuery} (f : Qf d q) {i : Nat} (hi : i <= q.atoms.length) : (binds d (q.atoms.take i)).2.length <= 65536 := by
  refine Nat.le_trans (binds_size f i hi) ?_
  have : 16 ^ i <= 16 ^ 4 := Nat.pow_le_pow_right (by omega) (by have := f.a4; omega)
  simpa using this
def nvB (d : PDb) (q : PQuery) : Bool := bdB d q && projB (cntOf (bdP d q)) q.out
def nvR (d : PDb) (q : PQuery) : PCnt := if nvB d q then projP (cntOf (bdP d q)) q.out else ⟨0, [], []⟩
def nvP (d : PDb) (q : PQuery) : PView := if nvB d q then ⟨q, nvR d q⟩ else ⟨⟨0, [], []⟩, ⟨0, [], []⟩⟩
def fitJ (vs row : List Int) (j : Nat) : Bool := (List.range j).all fun i => decide (lookV vs row (vs.getD i 0) = row.getD i 0)
theorem fitJ_zero (vs row : List Int) : fitJ vs row 0 = true := rfl
theorem fitJ_succ (vs row : List Int) (j : Nat) : fitJ vs row (j + 1) = (fitJ vs row j && decide (lookV vs row (vs.getD j 0) = row.getD j 0)) := by
  simp only [fitJ, List.range_succ, List.all_append, List.all_cons, List.all_nil, Bool.and_true]
theorem fitJ_all {vs row : List Int} (h : row.length = vs.length) : fitJ vs row vs.length = fitR vs row := by
  have : fitJ vs row vs.length = true ↔ fitR vs row = true := by
    simp only [fitJ, List.all_eq_true, List.mem_range, decide_eq_true_eq, fitR]
    constructor
    · intro hh
      refine List.ext_getElem (by simp [h]) fun i h1 h2 => ?_
      have := hh i (by omega)
      rw [getD_el _ (by omega), getD_el _ h2] at this
      rw [List.getElem_map]; exact this
    · intro hh i hi
      have : (vs.map (lookV vs row))[i]'(by simpa using hi) = row[i]'(by omega) := by congr 1
      rw [getD_el _ hi, getD_el _ (by omega)]
      rw [List.getElem_map] at this; exact this
  cases h1 : fitJ vs row vs.length <;> cases h2 : fitR vs row <;> simp_all
def valJ (vs row : List Int) (j : Nat) : List Int := ((vs.take j).zip (row.take j)).foldl (fun val p => val.set p.1.toNat p.2) (List.replicate 5 0)
theorem valJ_zero (vs row : List Int) : valJ vs row 0 = List.replicate 5 0 := by simp [valJ]
theorem valJ_succ {vs row : List Int} {j : Nat} (h1 : j < vs.length) (h2 : j < row.length) : valJ vs row (j + 1) = (valJ vs row j).set vs[j].toNat row[j] := by
  rw [valJ, List.take_succ_eq_append_getElem h1, List.take_succ_eq_append_getElem h2, List.zip_append (by simp; omega), List.foldl_append]
  rfl
theorem valJ_len (vs row : List Int) (j : Nat) : (valJ vs row j).length = 5 := by
  rw [valJ]
  generalize (vs.take j).zip (row.take j) = l
  have : ∀ (l : List (Int × Int)) (v : List Int), (l.foldl (fun val p => val.set p.1.toNat p.2) v).length = v.length := fun l => by
    induction l with
    | nil => simp
    | cons p r ih => intro v; rw [List.foldl_cons, ih]; simp
  rw [this]; simp
theorem valJ_all {vs row : List Int} (h : row.length = vs.length) : valJ vs row vs.length = valL vs row := by
  rw [valJ, List.take_of_length_le (Nat.le_refl _), List.take_of_length_le (by omega)]; rfl
theorem abL_succ {vs : List Int} {rows : List (List Int)} {i : Nat} (h : i < rows.length) : abL vs (rows.take (i + 1)) = abL vs (rows.take i) ++ if fitR vs rows[i] then [pickR (aVars vs) (valL vs rows[i])] else [] := by
  rw [List.take_succ_eq_append_getElem h]
  simp only [abL, List.filter_append, List.map_append]
  cases hf : fitR vs rows[i] <;> simp [hf]
theorem abL_len (vs : List Int) (rows : List (List Int)) : (abL vs rows).length <= rows.length := by
  simp only [abL, List.length_map]; exact List.length_filter_le _ _
theorem abL_el {vs : List Int} {rows : List (List Int)} : ∀ x ∈ abL vs rows, x.length <= 5 := fun x hx => by
  simp only [abL, List.mem_map] at hx
  obtain ⟨row, _, rfl⟩ := hx
  rw [pickR_len]
  have := List.length_filter_le (fun v => vs.contains v) (rangeI 5)
  rw [rangeI_len] at this
  exact this
theorem VC.plain {P : Program} {f : FuncId} {As : List V} {post : Nat -> V -> Prop} {v : V} (h : VC P f As post) (hq : ∀ n r, post n r -> rp (fun _ => none) r = some v) (hv : rd (fun _ => none) (fun _ => none) v = some v) :
    VC P f As (fun _ r => r = v) := by
  refine ⟨h.1, fun w vals A hLR => ?_⟩
  refine (h.2 w vals A hLR).mono fun e w' he => ?_
  obtain ⟨v', r, rfl, hb, hvr, _, hp⟩ := he
  exact ⟨v', v, rfl, hb, VR.er _ _ _ hvr (hq _ _ hp), hv, rfl⟩
theorem VC.untrack {P : Program} {f : FuncId} {Ps As0 : List V} {post post0 : Nat -> V -> Prop} (h0 : VC P f As0 post0) (hv : pnVL Ps = true)
    (h : ∀ As, rpL (fun _ => none) As = some Ps -> tkVL As = true -> lnVL As -> VC P f As post) : VC P f Ps post := by
  refine ⟨h0.1, fun w vals A hLR => ?_⟩
  obtain ⟨ys, h3, h4, h5, _⟩ := LR.track Ps vals hv hLR
  exact (h ys h4 h5 (LR.ln _ _ h3)).2 w vals A h3
theorem rp_args1 {As : List V} {a : V} (h : rpL (fun _ => none) As = some [a]) (ht : tkVL As = true) (hl : lnVL As) : ∃ x, As = [x] /\ rp (fun _ => none) x = some a /\ x.tk = true /\ x.ln := by
  match As, h, ht, hl with
  | [], h, _, _ => simp [rpL] at h
  | x :: r, h, ht, hl =>
    simp only [rpL] at h
    cases hx : rp (fun _ => none) x with
    | none => simp [hx] at h
    | some y =>
      cases hs : rpL (fun _ => none) r with
      | none => simp [hx, hs] at h
      | some ys =>
        simp only [hx, hs, Option.some.injEq, List.cons.injEq] at h
        obtain ⟨rfl, rfl⟩ := h
        simp only [tkVL, Bool.and_eq_true] at ht
        cases r with
        | nil => exact ⟨x, rfl, hx, ht.1, hl.1⟩
        | cons z s =>
          simp only [rpL] at hs
          cases h1 : rp (fun _ => none) z <;> cases h2 : rpL (fun _ => none) s <;> simp [h1, h2] at hs
theorem rp_args2 {As : List V} {a b : V} (h : rpL (fun _ => none) As = some [a, b]) (ht : tkVL As = true) (hl : lnVL As) :
    ∃ x y, As = [x, y] /\ (rp (fun _ => none) x = some a /\ x.tk = true /\ x.ln) /\ rp (fun _ => none) y = some b /\ y.tk = true /\ y.ln := by
  match As, h, ht, hl with
  | [], h, _, _ => simp [rpL] at h
  | x :: r, h, ht, hl =>
    simp only [rpL] at h
    cases hx : rp (fun _ => none) x with
    | none => simp [hx] at h
    | some y =>
      cases hs : rpL (fun _ => none) r with
      | none => simp [hx, hs] at h
      | some ys =>
        simp only [hx, hs, Option.some.injEq, List.cons.injEq] at h
        obtain ⟨rfl, rfl⟩ := h
        simp only [tkVL, Bool.and_eq_true] at ht
        obtain ⟨z, rfl, h1, h2, h3⟩ := rp_args1 hs ht.2 hl.2
        exact ⟨x, z, rfl, ⟨hx, ht.1, hl.1⟩, h1, h2, h3⟩
theorem lnLL_mem {α : Type} {c : α -> List D} {l : List α} (h : lnLL (l.map c)) : ∀ a ∈ l, lnL (c a) := by
  induction l with
  | nil => simp
  | cons x r ih =>
    simp only [List.map_cons, lnLL] at h
    intro a ha
    rcases List.mem_cons.1 ha with rfl | h'
    · exact h.1
    · exact ih h.2 a h'
theorem ok_ln {α : Type} {c : α -> List D} {ok : α -> Prop} (hc : ∀ a, lnL (c a) -> ok a) {s : Sl α} (h : lnL (cS c s)) : okS ok s := by
  simp only [cS, dSl, lnL, D.ln, List.length_map] at h
  exact ⟨h.1.1, fun a ha => hc a (lnLL_mem h.1.2 a ha)⟩
theorem ok_lnI (n : Int) (_ : lnL (cI n)) : okI n := trivial
theorem okReln_ln {a : Reln} (h : lnL (cReln a)) : okReln a := by
  rw [cReln, lnL_app] at h
  exact ⟨trivial, ok_ln (fun _ => ok_ln ok_lnI) h.2⟩
theorem okCnt_ln {a : Cnt} (h : lnL (cCnt a)) : okCnt a := by
  rw [cCnt, lnL_app, lnL_app] at h
  exact ⟨trivial, ok_ln (fun _ => ok_ln ok_lnI) h.1.2, ok_ln ok_lnI h.2⟩
theorem pn_agg {l : List D} (h : pnL l = true) : pnVL [V.agg (l.map V.d)] = true := by
  have : ∀ l : List D, pnL l = true -> pnVL (l.map V.d) = true := by
    intro l
    induction l with
    | nil => intro _; rfl
    | cons x r ih => intro h; simp only [pnL, Bool.and_eq_true] at h; simp only [List.map_cons, pnVL, V.pn, h.1, ih h.2, Bool.and_self]
  simp only [pnVL, V.pn, this l h, Bool.and_self]
theorem queryOk_a4 {q : PQuery} (h : queryOk q = true) : q.atoms.length <= 4 := by
  simp only [queryOk, Bool.and_eq_true, inR, decide_eq_true_eq] at h
  omega
theorem binds_jn_take {d : PDb} {q : PQuery} (f : Qf d q) (i : Nat) : Jn d (q.atoms.take i) (binds d (q.atoms.take i)) := by
  have := Jn.all (q.atoms.take i) [] ([], [[]]) (Jn.zero d) fun a ha v hv => by have := f.vin a (List.mem_of_mem_take ha) v hv; have := f.n5; omega
  simpa [binds] using this
theorem pw_len5 {l : List Int} (h : l.Pairwise (· < ·)) (hm : ∀ x ∈ l, 0 <= x /\ x < 5) : l.length <= 5 := by
  have : l = (rangeI 5).filter fun v => l.contains v := by
    refine pw_ext h (List.Pairwise.filter _ (rangeI_pw 5)) fun x => ?_
    rw [List.mem_filter, rangeI_mem, List.contains_iff_mem]
    exact ⟨fun h => ⟨hm x h, h⟩, fun h => h.2⟩
  rw [this]
  have := List.length_filter_le (fun v => l.contains v) (rangeI 5)
  rw [rangeI_len] at this
  exact this
theorem jn_len5 {d : PDb} {q : PQuery} (f : Qf d q) {as : List PAtom} {p : List Int × List (List Int)} (h : Jn d as p) (hs : ∀ a ∈ as, a ∈ q.atoms) : p.1.length <= 5 := by
  refine pw_len5 h.pw fun x hx => ?_
  rw [h.mem] at hx
  simp only [varsIn, List.mem_flatMap] at hx
  obtain ⟨a, ha, hx⟩ := hx
  have := f.vin a (hs a ha) x hx; have := f.n5; omega
theorem binds_len5 {d : PDb} {q : PQuery} (f : Qf d q) (i : Nat) : (binds d (q.atoms.take i)).1.length <= 5 :=
  jn_len5 f (binds_jn_take f i) fun _ h => List.mem_of_mem_take h
theorem binds_succ (d : PDb) {l : List PAtom} {i : Nat} (h : i < l.length) : binds d (l.take (i + 1)) = joinS d (binds d (l.take i)) l[i] := by
  rw [List.take_succ_eq_append_getElem h, binds_snoc]
theorem aVars_len5 (vs : List Int) : (aVars vs).length <= 5 := by
  have := List.length_filter_le (fun v => vs.contains v) (rangeI 5)
  rw [rangeI_len] at this
  exact this
def jnI (u a : List Int) (rows : List (List Int)) (b : List Int) (list : List (List Int)) (k : Nat) (j : Nat) : List (List Int) :=
  joinL u a (rows.take k) b list ++ (list.take j).filterMap fun s => glO u a (rows.getD k []) b s
theorem jnI_zero (u a : List Int) (rows : List (List Int)) (b : List Int) (list : List (List Int)) (k : Nat) : jnI u a rows b list k 0 = joinL u a (rows.take k) b list := by simp [jnI]
theorem jnI_all {u a : List Int} {rows : List (List Int)} {b : List Int} {list : List (List Int)} {k : Nat} (h : k < rows.length) : jnI u a rows b list k list.length = joinL u a (rows.take (k + 1)) b list := by
  rw [jnI, List.take_of_length_le (Nat.le_refl _), List.take_succ_eq_append_getElem h, joinL, joinL, List.flatMap_append]
  simp [List.getElem?_eq_getElem h]
theorem jnI_succ {u a : List Int} {rows : List (List Int)} {b : List Int} {list : List (List Int)} {k j : Nat} (h : j < list.length) :
    jnI u a rows b list k (j + 1) = jnI u a rows b list k j ++ if glB u a (rows.getD k []) b list[j] then [glR u a (rows.getD k []) b list[j]] else [] := by
  rw [jnI, jnI, List.take_succ_eq_append_getElem h, List.filterMap_append, List.append_assoc]
  congr 1
  cases hg : glB u a (rows.getD k []) b list[j] <;> simp only [List.getD_eq_getElem?_getD] at hg <;> simp [glO, hg]
theorem jnI_len {u a : List Int} {rows : List (List Int)} {b : List Int} {list : List (List Int)} {k j : Nat} (hk : k <= 65536) (hl : list.length <= 16) : (jnI u a rows b list k j).length <= 65536 * 16 + 16 := by
  have h1 := join_size (u := u) (a := a) (rows := rows.take k) (b := b) (list := list)
  have h2 := List.length_filterMap_le (fun s => glO u a (rows.getD k []) b s) (list.take j)
  have h3 : (rows.take k).length * list.length <= 65536 * 16 := Nat.mul_le_mul (by rw [List.length_take]; omega) hl
  rw [jnI, List.length_append]
  rw [List.length_take] at h2
  omega
theorem joinL_nil (u a b : List Int) (list : List (List Int)) : joinL u a [] b list = [] := rfl
theorem asgO_app : ∀ (l : List (Int × Int)) (x : List Int) (v y : Int), asgO x (l ++ [(v, y)]) = (asgO x l).bind fun z => if z.getD v.toNat 0 = -1 \/ z.getD v.toNat 0 = y then some (z.set v.toNat y) else none
  | [], x, v, y => by simp [asgO]
  | (u, w) :: r, x, v, y => by
    rw [List.cons_append, asgO, asgO]
    split
    · exact asgO_app r _ v y
    · rfl
theorem asgO_none : ∀ (l r : List (Int × Int)) (x : List Int), asgO x l = none -> asgO x (l ++ r) = none
  | [], _, _, h => by simp [asgO] at h
  | (u, w) :: l, r, x, h => by
    rw [List.cons_append, asgO]
    rw [asgO] at h
    split at h
    · rename_i hc
      rw [if_pos hc]
      exact asgO_none l r _ h
    · rename_i hc
      rw [if_neg hc]
structure AsS (row vs t : List Int) (j : Nat) (x : List Int) (fits : Bool) : Prop where
  le : j <= vs.length
  len : x.length = row.length
  yes : fits = true -> asgO row ((vs.zip t).take j) = some x
  no : fits = false -> asgO row (vs.zip t) = none
theorem AsS.zero {row vs t : List Int} : AsS row vs t 0 row true := ⟨by omega, rfl, fun _ => by simp [asgO], fun h => by cases h⟩
theorem zip_take {vs t : List Int} {j : Nat} (h1 : j < vs.length) (h2 : j < t.length) : (vs.zip t).take (j + 1) = (vs.zip t).take j ++ [(vs[j], t[j])] := by
  rw [List.take_succ_eq_append_getElem (by simp; omega)]
  simp
theorem AsS.step {row vs t x : List Int} {j : Nat} (h : AsS row vs t j x true) (h1 : j < vs.length) (h2 : j < t.length) :
    AsS row vs t (j + 1) (x.set vs[j].toNat t[j]) (decide (x.getD vs[j].toNat 0 = -1 \/ x.getD vs[j].toNat 0 = t[j])) := by
  have hy := h.yes rfl
  have hz : asgO row ((vs.zip t).take (j + 1)) = if x.getD vs[j].toNat 0 = -1 \/ x.getD vs[j].toNat 0 = t[j] then some (x.set vs[j].toNat t[j]) else none := by
    rw [zip_take h1 h2, asgO_app, hy]; rfl
  refine ⟨by omega, by rw [List.length_set]; exact h.len, fun hd => ?_, fun hd => ?_⟩
  · rw [hz, if_pos (of_decide_eq_true hd)]
  · rw [if_neg (of_decide_eq_false hd)] at hz
    have := asgO_none _ ((vs.zip t).drop (j + 1)) _ hz
    rwa [List.take_append_drop] at this
theorem AsS.done {row vs t x : List Int} {j : Nat} {fits : Bool} (h : AsS row vs t j x fits) (hj : fits = true -> vs.length <= j) : asgO row (vs.zip t) = if fits then some x else none := by
  cases fits with
  | false => simpa using h.no rfl
  | true =>
    have h2 := hj rfl
    have h3 := h.yes rfl
    rw [List.take_of_length_le (by simp; omega)] at h3
    simpa using h3
theorem flatMap_succ {α β : Type} {f : α -> List β} {l : List α} {i : Nat} (h : i < l.length) : (l.take (i + 1)).flatMap f = (l.take i).flatMap f ++ f l[i] := by
  rw [List.take_succ_eq_append_getElem h, List.flatMap_append]; simp
theorem setOf_len5 {l : List Int} {n : Int} (h : setOf l n = true) (h1 : 1 <= n) (hn : n <= 5) : l.length <= 5 := by
  simp only [setOf, Bool.and_eq_true, List.all_eq_true, decide_eq_true_eq] at h
  refine nodup_len 5 l h.2 fun x hx => ?_
  have := h.1 x hx
  rw [wrap64_of (by omega) (by omega)] at this
  simp only [inR, Bool.and_eq_true, decide_eq_true_eq] at this
  omega
theorem Qf.out5 {d : PDb} {q : PQuery} (f : Qf d q) : q.out.length <= 5 := by
  have h := f.qok
  have hn := f.n5
  simp only [queryOk, Bool.and_eq_true] at h
  exact setOf_len5 h.1.1.2 hn.1 hn.2
theorem rpL_d : ∀ l : List D, rpL (fun _ => none) (l.map V.d) = some ((erL l).map V.d)
  | [] => rfl
  | x :: r => by simp only [List.map_cons, rpL, rp, rpL_d r, erL]
theorem rdL_dd : ∀ l : List D, rdL (fun _ => none) (fun _ => none) (l.map V.d) = some (l.map V.d)
  | [] => rfl
  | x :: r => by simp only [List.map_cons, rdL, rd, rdL_dd r]
theorem rp_agg_d (l : List D) : rp (fun _ => none) (.agg (l.map V.d)) = some (.agg ((erL l).map V.d)) := by simp only [rp, rpL_d, Option.map_some]
theorem rd_agg_d (l : List D) : rd (fun _ => none) (fun _ => none) (.agg (l.map V.d)) = some (.agg (l.map V.d)) := by simp only [rd, rdL_dd, Option.map_some]
theorem VC.plain2 {P : Program} {f : FuncId} {As : List V} {α β : Type} {c : α -> List D} {e : β -> List D} {pl : α -> β} (he : ∀ a, erL (c a) = e (pl a)) {b : Bool} {p : β} {Q : Nat -> α -> Prop}
    (h : VC P f As (fun n v => ∃ y : α, v = .tup [.agg ((c y).map V.d), .d (.bool b)] /\ pl y = p /\ Q n y)) : VC P f As (fun _ v => v = .tup [.agg ((e p).map V.d), .d (.bool b)]) := by
  refine VC.plain h (fun n r hr => ?_) ?_
  · obtain ⟨y, rfl, hp, _⟩ := hr
    simp only [rp, rpL, rpL_d, he, hp, Option.map_some, D.er]
  · simp only [rd, rdL, rdL_dd, Option.map_some]
theorem VC.plain1 {P : Program} {f : FuncId} {As : List V} {α β : Type} {c : α -> List D} {e : β -> List D} {pl : α -> β} (he : ∀ a, erL (c a) = e (pl a)) {p : β} {Q : Nat -> α -> Prop}
    (h : VC P f As (fun n v => ∃ y : α, v = .agg ((c y).map V.d) /\ pl y = p /\ Q n y)) : VC P f As (fun _ v => v = .agg ((e p).map V.d)) := by
  refine VC.plain h (fun n r hr => ?_) ?_
  · obtain ⟨y, rfl, hp, _⟩ := hr
    simp only [rp_agg_d, he, hp]
  · exact rd_agg_d _
theorem app_strs {d : PDb} {x : PDelta} (h : ∀ t ∈ d.tabs, t.name.length <= maxLen) : ∀ t ∈ (appP d x).tabs, t.name.length <= maxLen := by
  cases hb : appB d x
  · rw [app_no hb]; exact h
  · exact dbOk_st (app_ok hb)
theorem nvR_ok {d : PDb} {q : PQuery} (h : nvB d q = true) : cntsOk (nvR d q) = true := by
  have h2 := h
  simp only [nvB, Bool.and_eq_true] at h2
  rw [nvR, if_pos h]
  exact projP_ok h2.2
theorem cnts_small {z : PCnt} (h : cntsOk z = true) : z.rows.length <= 4294967296 /\ (∀ r ∈ z.rows, r.length <= 4294967296) /\ z.cs.length <= 4294967296 := by
  have h1 := rowsOk_len (cntsOk_rows h)
  have h2 := cntsOk_len h
  exact ⟨by omega, fun r hr => by have := rowsOk_row (cntsOk_rows h) r hr; omega, by omega⟩
theorem nvR_small {d : PDb} {q : PQuery} (h : nvB d q = true) : (nvR d q).rows.length <= 4294967296 /\ (∀ r ∈ (nvR d q).rows, r.length <= 4294967296) /\ (nvR d q).cs.length <= 4294967296 := cnts_small (nvR_ok h)
theorem okDb_ln {a : Db} (h : lnL (cDb a)) (hs : ∀ t ∈ (plDb a).tabs, t.name.length <= maxLen) : okDb a := by
  rw [cDb] at h
  have h2 : okS (fun t : Tab => lnL (cTab t)) a.tabs := ok_ln (fun _ h => h) h
  refine ⟨h2.1, fun t ht => ⟨hs (plTab t) (List.mem_map_of_mem ht), ?_⟩⟩
  have h3 : lnL (cStr t.name ++ cReln t.rel) := h2.2 t ht
  exact okReln_ln ((lnL_app _ _).1 h3).2
theorem okDelta_ln {a : Delta} (h : lnL (cDelta a)) (hs : (plDelta a).name.length <= maxLen) : okDelta a := by
  rw [cDelta, lnL_app, lnL_app] at h
  exact ⟨hs, okReln_ln h.1.2, okReln_ln h.2⟩
end Go.Vs
namespace Go.Vs
def sW : List (List Int × Int) -> List Int -> Int
  | [], _ => 0
  | p :: P, r => (if p.1 = r then p.2 else 0) + sW P r
theorem sW_app (P Q : List (List Int × Int)) (r : List Int) : sW (P ++ Q) r = sW P r + sW Q r := by
  induction P with
  | nil => simp [sW]
  | cons p P ih => simp only [List.cons_append, sW, ih]; omega
theorem sW_lkC (r : List Int) : ∀ (P : List (List Int × Int)), lkC (P.map Prod.fst) (P.map Prod.snd) r = sW P r
  | [] => by simp [lkC, sW]
  | p :: P => by simp only [List.map_cons, lkC, sW, sW_lkC r P]
theorem sW_zip (r : List Int) : ∀ (R : List (List Int)) (cs : List Int), sW (R.zip cs) r = lkC R cs r
  | [], cs => by simp [lkC, sW]
  | x :: R, [] => by simp [lkC, sW]
  | x :: R, c :: cs => by simp only [List.zip_cons_cons, sW, lkC, sW_zip r R cs]
theorem sW_none {P : List (List Int × Int)} {r : List Int} (h : r ∉ P.map Prod.fst) : sW P r = 0 := by
  induction P with
  | nil => rfl
  | cons p P ih =>
    simp only [List.map_cons, List.mem_cons, not_or] at h
    rw [sW, if_neg (fun e => h.1 e.symm), ih h.2]; omega
def sumL {α : Type} (f : α -> Int) : List α -> Int
  | [] => 0
  | a :: l => f a + sumL f l
theorem sumL_congr {α : Type} {f g : α -> Int} {l : List α} (h : ∀ a ∈ l, f a = g a) : sumL f l = sumL g l := by
  induction l with
  | nil => rfl
  | cons a l ih => rw [sumL, sumL, h a (by simp), ih fun b hb => h b (List.mem_cons_of_mem _ hb)]
theorem sumL_mul {α : Type} (f : α -> Int) (k : Int) (l : List α) : sumL (fun a => f a * k) l = sumL f l * k := by
  induction l with
  | nil => simp [sumL]
  | cons a l ih => simp only [sumL, ih, Int.add_mul]
theorem sW_flat {α : Type} (f : α -> List (List Int × Int)) (r : List Int) (l : List α) : sW (l.flatMap f) r = sumL (fun a => sW (f a) r) l := by
  induction l with
  | nil => rfl
  | cons a l ih => simp only [List.flatMap_cons, sW_app, sumL, ih]
theorem sW_sumL (P : List (List Int × Int)) (r : List Int) : sW P r = sumL (fun p => if p.1 = r then p.2 else 0) P := by
  induction P with
  | nil => rfl
  | cons p P ih => rw [sW, sumL, ih]
def joinW (u a : List Int) (P : List (List Int × Int)) (b : List Int) (L : List (List Int × Int)) : List (List Int × Int) :=
  P.flatMap fun r => L.filterMap fun s => (glO u a r.1 b s.1).map fun x => (x, r.2 * s.2)
theorem joinW_fst (u a : List Int) (P : List (List Int × Int)) (b : List Int) (L : List (List Int × Int)) : (joinW u a P b L).map Prod.fst = joinL u a (P.map Prod.fst) b (L.map Prod.fst) := by
  rw [joinW, joinL, List.map_flatMap, List.flatMap_map]
  refine congrArg (fun f => List.flatMap f P) (funext fun r => ?_)
  rw [List.map_filterMap, List.filterMap_map]
  refine congrArg (fun f => List.filterMap f L) (funext fun s => ?_)
  simp only [Function.comp_apply, Option.map_map]
  cases glO u a r.1 b s.1 <;> rfl
theorem gl_iff {u a b : List Int} (ha : a.Nodup) (hb : b.Nodup) (hu : ∀ x, x ∈ u ↔ x ∈ a \/ x ∈ b) {r s : List Int} (hr : r.length = a.length) (hs : s.length = b.length) (β : Int -> Int) :
    glO u a r b s = some (u.map β) ↔ r = a.map β /\ s = b.map β := by
  have h := join_mem (rows := [r]) (list := [s]) ha hb hu (fun x hx => by rw [List.mem_singleton.1 hx]; exact hr) (fun x hx => by rw [List.mem_singleton.1 hx]; exact hs) β
  simp only [joinL, List.flatMap_cons, List.flatMap_nil, List.append_nil, List.mem_filterMap, List.mem_singleton, exists_eq_left] at h
  rw [h]
  constructor
  · rintro ⟨h1, h2⟩; exact ⟨h1.symm, h2.symm⟩
  · rintro ⟨h1, h2⟩; exact ⟨h1.symm, h2.symm⟩
theorem sW_fm {u a b : List Int} (ha : a.Nodup) (hb : b.Nodup) (hu : ∀ x, x ∈ u ↔ x ∈ a \/ x ∈ b) {r : List Int} (c : Int) (hr : r.length = a.length) (β : Int -> Int) :
    ∀ (L : List (List Int × Int)), (∀ s ∈ L, s.1.length = b.length) -> sW (L.filterMap fun s => (glO u a r b s.1).map fun x => (x, c * s.2)) (u.map β) = (if r = a.map β then c else 0) * sW L (b.map β)
  | [], _ => by simp [sW]
  | s :: L, hs => by
    have ih := sW_fm ha hb hu c hr β L fun t ht => hs t (List.mem_cons_of_mem _ ht)
    have hg := gl_iff ha hb hu hr (hs s (by simp)) β
    rw [sW, Int.mul_add, <- ih]
    cases hO : glO u a r b s.1 with
    | none =>
      rw [List.filterMap_cons_none (by rw [hO]; rfl)]
      have : ¬ (r = a.map β /\ s.1 = b.map β) := fun h => by rw [hg.2 h] at hO; cases hO
      by_cases h1 : r = a.map β
      · rw [if_neg (fun e => this ⟨h1, e⟩)]; simp
      · simp [h1]
    | some x =>
      rw [List.filterMap_cons_some (by rw [hO]; rfl), sW]
      rw [hO] at hg
      by_cases hx : x = u.map β
      · obtain ⟨h1, h2⟩ := hg.1 (by rw [hx])
        simp only [hx, h1, h2, if_true]
      · have : ¬ (r = a.map β /\ s.1 = b.map β) := fun h => hx (by have := hg.2 h; simpa using this)
        simp only [if_neg hx]
        by_cases h1 : r = a.map β
        · rw [if_neg (fun e => this ⟨h1, e⟩)]; simp
        · simp [h1]
theorem sW_join {u a b : List Int} (ha : a.Nodup) (hb : b.Nodup) (hu : ∀ x, x ∈ u ↔ x ∈ a \/ x ∈ b) {P L : List (List Int × Int)} (hr : ∀ r ∈ P, r.1.length = a.length) (hs : ∀ s ∈ L, s.1.length = b.length) (β : Int -> Int) :
    sW (joinW u a P b L) (u.map β) = sW P (a.map β) * sW L (b.map β) := by
  rw [joinW, sW_flat, sW_sumL P, <- sumL_mul]
  exact sumL_congr fun r hm => sW_fm ha hb hu r.2 (hr r hm) β L hs
def abW (vs : List Int) (L : List (List Int × Int)) : List (List Int × Int) := (L.filter fun p => fitR vs p.1).map fun p => (pickR (aVars vs) (valL vs p.1), p.2)
theorem sW_abW {vs : List Int} (hv : ∀ v ∈ vs, 0 <= v /\ v < 5) (β : Int -> Int) (L : List (List Int × Int)) : sW (abW vs L) ((aVars vs).map β) = sW L (vs.map β) := by
  induction L with
  | nil => rfl
  | cons p L ih =>
    have h := ab_mem (rows := [p.1]) hv β
    rw [srtU_mem, abL, List.mem_map] at h
    simp only [List.mem_filter, List.mem_singleton] at h
    rw [sW, <- ih, abW, List.filter_cons]
    by_cases hf : fitR vs p.1 = true
    · rw [if_pos hf, List.map_cons, sW]
      congr 1
      by_cases he : p.1 = vs.map β
      · obtain ⟨y, ⟨hy, _⟩, hz⟩ := h.2 he.symm
        rw [hy] at hz
        rw [if_pos hz, if_pos he]
      · have : ¬ pickR (aVars vs) (valL vs p.1) = (aVars vs).map β := fun e => he (h.1 ⟨p.1, ⟨rfl, hf⟩, e⟩).symm
        simp only [this, he, if_false]
    · rw [if_neg hf]
      have : ¬ p.1 = vs.map β := fun e => by
        obtain ⟨y, ⟨hy, hf'⟩, _⟩ := h.2 e.symm
        rw [hy] at hf'; exact hf hf'
      rw [if_neg this, Int.zero_add]; rfl
def ones (l : List (List Int)) : List (List Int × Int) := l.map fun r => (r, 1)
theorem ones_fst (l : List (List Int)) : (ones l).map Prod.fst = l := by rw [ones, List.map_map]; exact List.map_id' l
theorem sW_ones {l : List (List Int)} (h : l.Nodup) (r : List Int) : sW (ones l) r = if r ∈ l then 1 else 0 := by
  induction l with
  | nil => rfl
  | cons x l ih =>
    obtain ⟨h1, h2⟩ := List.nodup_cons.1 h
    have := ih h2
    rw [ones, List.map_cons, sW]
    show (if x = r then (1 : Int) else 0) + sW (ones l) r = _
    rw [this]
    by_cases hx : x = r
    · subst hx; simp [h1]
    · simp [hx, Ne.symm hx]
def negs (l : List (List Int)) : List (List Int × Int) := l.map fun r => (r, -1)
theorem sW_negs (l : List (List Int)) (r : List Int) : sW (negs l) r = - sW (ones l) r := by
  induction l with
  | nil => rfl
  | cons x l ih =>
    show (if x = r then (-1 : Int) else 0) + sW (negs l) r = -((if x = r then (1 : Int) else 0) + sW (ones l) r)
    rw [ih]; split <;> omega
theorem srt_nodup {l : List (List Int)} (h : Srt l) : l.Nodup := h.imp fun {a b} h e => by subst e; rw [cmpL_self] at h; omega
structure JnW (as : List (List Int × List (List Int × Int))) (u : List Int) (P : List (List Int × Int)) : Prop where
  pw : u.Pairwise (· < ·)
  mem : ∀ x, x ∈ u ↔ x ∈ as.flatMap Prod.fst
  len : ∀ r ∈ P, r.1.length = u.length
  sum : ∀ β : Int -> Int, sW P (u.map β) = as.foldr (fun a n => sW a.2 (a.1.map β) * n) 1
  sup : ∀ β : Int -> Int, u.map β ∈ P.map Prod.fst ↔ ∀ a ∈ as, a.1.map β ∈ a.2.map Prod.fst
theorem JnW.zero : JnW [] [] [([], 1)] := ⟨.nil, by simp, by simp, fun β => by simp [sW], fun β => by simp⟩
theorem prod_snoc (β : Int -> Int) : ∀ (as : List (List Int × List (List Int × Int))) (a : List Int × List (List Int × Int)),
    (as ++ [a]).foldr (fun a n => sW a.2 (a.1.map β) * n) 1 = as.foldr (fun a n => sW a.2 (a.1.map β) * n) 1 * sW a.2 (a.1.map β)
  | [], a => by simp
  | b :: as, a => by simp only [List.cons_append, List.foldr_cons, prod_snoc β as a, Int.mul_assoc]
theorem joinW_len {u a : List Int} {P : List (List Int × Int)} {b : List Int} {L : List (List Int × Int)} : ∀ r ∈ joinW u a P b L, r.1.length = u.length := fun r hr =>
  join_len r.1 (by rw [<- joinW_fst]; exact List.mem_map_of_mem hr)
theorem JnW.step {as : List (List Int × List (List Int × Int))} {u : List Int} {P : List (List Int × Int)} (h : JnW as u P) {vs : List Int} (hv : ∀ v ∈ vs, 0 <= v /\ v < 5) {T L : List (List Int × Int)}
    (hl : ∀ s ∈ L, s.1.length = (aVars vs).length) (hw : ∀ β : Int -> Int, sW L ((aVars vs).map β) = sW T (vs.map β)) (hm : ∀ β : Int -> Int, (aVars vs).map β ∈ L.map Prod.fst ↔ vs.map β ∈ T.map Prod.fst) :
    JnW (as ++ [(vs, T)]) (uniL u (aVars vs)) (joinW (uniL u (aVars vs)) u P (aVars vs) L) := by
  have hu := uniL_pw (aVars vs) h.pw
  refine ⟨hu.1, fun x => ?_, joinW_len, fun β => ?_, fun β => ?_⟩
  · rw [hu.2, h.mem, List.flatMap_append, List.mem_append, aVars_mem]
    simp only [List.flatMap_cons, List.flatMap_nil, List.append_nil]
    constructor
    · rintro (h | h)
      · exact .inl h
      · exact .inr h.1
    · rintro (h | h)
      · exact .inl h
      · exact .inr ⟨h, hv x h⟩
  · rw [sW_join (pw_nodup h.pw) (pw_nodup (aVars_pw vs)) hu.2 h.len hl, h.sum, hw, prod_snoc]
  · rw [joinW_fst, join_mem (pw_nodup h.pw) (pw_nodup (aVars_pw vs)) hu.2 (fun r hr => by
      obtain ⟨p, hp, rfl⟩ := List.mem_map.1 hr
      exact h.len p hp) (fun s hs => by
      obtain ⟨p, hp, rfl⟩ := List.mem_map.1 hs
      exact hl p hp), h.sup, hm]
    simp only [List.mem_append, List.mem_singleton]
    constructor
    · rintro ⟨h1, h2⟩ b (hb | rfl)
      · exact h1 b hb
      · exact h2
    · exact fun h => ⟨fun b hb => h b (.inl hb), h (vs, T) (.inr rfl)⟩
def walkW : List (List Int × List (List Int × Int)) -> List Int -> Int -> List (List Int × Int)
  | [], row, c => [(row, c)]
  | a :: r, row, c => a.2.flatMap fun t => match asgO row (a.1.zip t.1) with
    | none => []
    | some x => walkW r x (c * t.2)
structure Con (V x z : List Int) : Prop where
  len : z.length = x.length
  out : ∀ j : Nat, (j : Int) ∉ V -> z.getD j 0 = x.getD j 0
  old : ∀ j : Nat, x.getD j 0 ≠ -1 -> z.getD j 0 = x.getD j 0
theorem con_step {vs V t x z : List Int} (htl : t.length = vs.length) (hv : ∀ v ∈ vs, 0 <= v /\ v < x.length) (hty : ∀ y ∈ t, y ≠ -1) :
    (∃ w, asgO x (vs.zip t) = some w /\ Con V w z) ↔ Con (vs ++ V) x z /\ pickR vs z = t := by
  have hin : ∀ v, v ∈ vs ++ V ↔ v ∈ vs \/ v ∈ V := fun v => List.mem_append
  constructor
  · rintro ⟨w, ho, z1, z3, z4⟩
    obtain ⟨w1, w2, w3, w4⟩ := (asg_iff vs t x w htl hv hty).1 ho
    have hpz : pickR vs z = t := by
      rw [<- w2]
      refine map_congr_mem.2 fun v hm => ?_
      refine z4 v.toNat fun e => ?_
      have : w.getD v.toNat 0 ∈ t := by rw [<- w2]; exact List.mem_map.2 ⟨v, hm, rfl⟩
      exact hty _ this e
    refine ⟨⟨by rw [z1, w1], fun j hj => ?_, fun j hj => ?_⟩, hpz⟩
    · rw [z3 j fun hm => hj ((hin _).2 (.inr hm)), w3 j fun hm => hj ((hin _).2 (.inl hm))]
    · have e := w4 j hj
      rw [z4 j (by rw [e]; exact hj), e]
  · rintro ⟨⟨z1, z3, z4⟩, hp⟩
    let w : List Int := (List.range x.length).map fun (j : Nat) => if (j : Int) ∈ vs then z.getD j 0 else x.getD j 0
    have wl : w.length = x.length := by simp [w]
    have wg : ∀ j : Nat, w.getD j 0 = if (j : Int) ∈ vs then z.getD j 0 else x.getD j 0 := fun j => by
      by_cases hj : j < x.length
      · rw [getD_el _ (by rw [wl]; exact hj)]
        simp [w]
      · have e1 : w.getD j 0 = 0 := by simp [List.getD, List.getElem?_eq_none (show w.length <= j by omega)]
        have e2 : x.getD j 0 = 0 := by simp [List.getD, List.getElem?_eq_none (show x.length <= j by omega)]
        have e3 : z.getD j 0 = 0 := by simp [List.getD, List.getElem?_eq_none (show z.length <= j by omega)]
        rw [e1, e2, e3]; simp
    have hw2 : pickR vs w = t := by
      rw [<- hp]
      exact map_congr_mem.2 fun v hm => by
        have := hv v hm
        rw [wg, if_pos (by rw [Int.toNat_of_nonneg this.1]; exact hm)]
    have hwx : ∀ j : Nat, x.getD j 0 ≠ -1 -> w.getD j 0 = x.getD j 0 := fun j hj => by
      rw [wg]; split
      · exact z4 j hj
      · rfl
    refine ⟨w, (asg_iff vs t x w htl hv hty).2 ⟨wl, hw2, fun j hj => by rw [wg, if_neg hj], hwx⟩, by rw [z1, wl], fun j hj => ?_, fun j hj => ?_⟩
    · rw [wg]
      split
      · rfl
      · rename_i hn
        exact z3 j fun hm => by
          rcases (hin _).1 hm with hm | hm
          · exact hn hm
          · exact hj hm
    · rw [wg] at hj ⊢
      split
      · rfl
      · rename_i hn
        rw [if_neg hn] at hj
        exact z4 j hj
def TupOk (n : Nat) (as : List (List Int × List (List Int × Int))) : Prop := ∀ a ∈ as, (∀ v ∈ a.1, 0 <= v /\ v < n) /\ ∀ t ∈ a.2, t.1.length = a.1.length /\ ∀ y ∈ t.1, y ≠ -1
open Classical in
theorem sW_walk : ∀ (as : List (List Int × List (List Int × Int))) (x z : List Int) (c : Int), TupOk x.length as ->
    sW (walkW as x c) z = if Con (as.flatMap Prod.fst) x z then c * as.foldr (fun a n => sW a.2 (pickR a.1 z) * n) 1 else 0
  | [], x, z, c, _ => by
    simp only [walkW, sW, List.flatMap_nil, List.foldr_nil, Int.mul_one, Int.add_zero]
    by_cases h : x = z
    · subst h
      rw [if_pos rfl, if_pos ⟨rfl, fun _ _ => rfl, fun _ _ => rfl⟩]
    · rw [if_neg h, if_neg fun hc => h (List.ext_getElem hc.len.symm fun i a b => by
        have := hc.out i (by simp)
        rw [getD_el _ b, getD_el _ a] at this
        exact this.symm)]
  | a :: as, x, z, c, h => by
    obtain ⟨hv, ht⟩ := h a (by simp)
    rw [walkW, sW_flat, List.flatMap_cons, List.foldr_cons]
    have key : ∀ t ∈ a.2, sW (match asgO x (a.1.zip t.1) with
      | none => []
      | some x => walkW as x (c * t.2)) z = (if t.1 = pickR a.1 z then t.2 else 0) * (if Con (a.1 ++ as.flatMap Prod.fst) x z then c * as.foldr (fun a n => sW a.2 (pickR a.1 z) * n) 1 else 0) := by
      intro t htm
      obtain ⟨htl, hty⟩ := ht t htm
      have hc := con_step (V := as.flatMap Prod.fst) (z := z) htl hv hty
      cases ho : asgO x (a.1.zip t.1) with
      | none =>
        rw [ho] at hc
        have : ¬ (Con (a.1 ++ as.flatMap Prod.fst) x z /\ pickR a.1 z = t.1) := fun e => by
          obtain ⟨w, hw, _⟩ := hc.2 e; cases hw
        simp only [sW]
        by_cases h1 : t.1 = pickR a.1 z
        · rw [if_neg (c := Con _ _ _) fun e => this ⟨e, h1.symm⟩]; simp
        · simp [h1]
      | some w =>
        rw [ho] at hc
        have wl : w.length = x.length := ((asg_iff a.1 t.1 x w htl hv hty).1 ho).1
        simp only
        rw [sW_walk as w z (c * t.2) fun b hb => by rw [wl]; exact h b (List.mem_cons_of_mem _ hb)]
        by_cases hw : Con (as.flatMap Prod.fst) w z
        · obtain ⟨h1, h2⟩ := hc.1 ⟨w, rfl, hw⟩
          rw [if_pos hw, if_pos h2.symm, if_pos h1]
          simp only [Int.mul_assoc, Int.mul_left_comm]
        · have : ¬ (Con (a.1 ++ as.flatMap Prod.fst) x z /\ pickR a.1 z = t.1) := fun e => by
            obtain ⟨w', hw', hcc⟩ := hc.2 e
            simp only [Option.some.injEq] at hw'
            subst hw'; exact hw hcc
          rw [if_neg hw]
          by_cases h1 : t.1 = pickR a.1 z
          · rw [if_neg (c := Con _ _ _) fun e => this ⟨e, h1.symm⟩]; simp
          · simp [h1]
    rw [sumL_congr key, sumL_mul, <- sW_sumL]
    split
    · simp only [Int.mul_assoc, Int.mul_left_comm]
    · simp
theorem walkW_sup : ∀ (as : List (List Int × List (List Int × Int))) (x z : List Int) (c : Int), TupOk x.length as ->
    (z ∈ (walkW as x c).map Prod.fst ↔ Con (as.flatMap Prod.fst) x z /\ ∀ a ∈ as, pickR a.1 z ∈ a.2.map Prod.fst)
  | [], x, z, c, _ => by
    simp only [walkW, List.map_cons, List.map_nil, List.mem_singleton, List.flatMap_nil, List.not_mem_nil, false_implies, implies_true, and_true]
    constructor
    · rintro rfl; exact ⟨rfl, fun _ _ => rfl, fun _ _ => rfl⟩
    · intro hc
      exact List.ext_getElem hc.len fun i a b => by
        have := hc.out i (by simp)
        rwa [getD_el _ a, getD_el _ b] at this
  | a :: as, x, z, c, h => by
    obtain ⟨hv, ht⟩ := h a (by simp)
    rw [walkW, List.map_flatMap, List.mem_flatMap, List.flatMap_cons]
    constructor
    · rintro ⟨t, htm, hz⟩
      obtain ⟨htl, hty⟩ := ht t htm
      cases ho : asgO x (a.1.zip t.1) with
      | none => rw [ho] at hz; cases hz
      | some w =>
        rw [ho] at hz
        have wl : w.length = x.length := ((asg_iff a.1 t.1 x w htl hv hty).1 ho).1
        obtain ⟨h1, h2⟩ := (walkW_sup as w z _ fun b hb => by rw [wl]; exact h b (List.mem_cons_of_mem _ hb)).1 hz
        obtain ⟨h3, h4⟩ := (con_step (V := as.flatMap Prod.fst) (z := z) htl hv hty).1 ⟨w, ho, h1⟩
        refine ⟨h3, fun b hb => ?_⟩
        rcases List.mem_cons.1 hb with rfl | hb
        · rw [h4]; exact List.mem_map_of_mem htm
        · exact h2 b hb
    · rintro ⟨h1, h2⟩
      obtain ⟨t, htm, hte⟩ := List.mem_map.1 (h2 a (by simp))
      obtain ⟨htl, hty⟩ := ht t htm
      obtain ⟨w, ho, hc⟩ := (con_step (V := as.flatMap Prod.fst) (z := z) htl hv hty).2 ⟨h1, hte.symm⟩
      have wl : w.length = x.length := ((asg_iff a.1 t.1 x w htl hv hty).1 ho).1
      refine ⟨t, htm, ?_⟩
      rw [ho]
      exact (walkW_sup as w z _ fun b hb => by rw [wl]; exact h b (List.mem_cons_of_mem _ hb)).2 ⟨hc, fun b hb => h2 b (List.mem_cons_of_mem _ hb)⟩
end Go.Vs
namespace Go.Vs
def ppW (f : List Int -> List Int) (P : List (List Int × Int)) : List (List Int × Int) := P.map fun p => (f p.1, p.2)
theorem sumL_add {α : Type} (f g : α -> Int) (l : List α) : sumL (fun a => f a + g a) l = sumL f l + sumL g l := by
  induction l with
  | nil => rfl
  | cons a l ih => simp only [sumL, ih]; omega
theorem sumL_zero {α : Type} {f : α -> Int} {l : List α} (h : ∀ a ∈ l, f a = 0) : sumL f l = 0 := by
  induction l with
  | nil => rfl
  | cons a l ih => rw [sumL, h a (by simp), ih fun b hb => h b (List.mem_cons_of_mem _ hb)]; rfl
theorem sumL_one {S : List (List Int)} (hn : S.Nodup) {x : List Int} (hx : x ∈ S) (c : List Int -> Int) : sumL (fun z => if x = z then c z else 0) S = c x := by
  induction S with
  | nil => cases hx
  | cons a S ih =>
    obtain ⟨h1, h2⟩ := List.nodup_cons.1 hn
    rw [sumL]
    rcases List.mem_cons.1 hx with rfl | h
    · rw [if_pos rfl, sumL_zero]
      · omega
      · intro b hb
        rw [if_neg fun e => h1 (by rw [e]; exact hb)]
    · rw [if_neg fun e => h1 (by rw [<- e]; exact h), ih h2 h]; omega
theorem sW_pp {S : List (List Int)} (hn : S.Nodup) (f : List Int -> List Int) (y : List Int) : ∀ (P : List (List Int × Int)), (∀ p ∈ P, p.1 ∈ S) ->
    sW (ppW f P) y = sumL (fun z => if f z = y then sW P z else 0) S
  | [], _ => by
    rw [sumL_zero]
    · rfl
    · intro a _; simp [sW]
  | p :: P, h => by
    have ih := sW_pp hn f y P fun q hq => h q (List.mem_cons_of_mem _ hq)
    show (if f p.1 = y then p.2 else 0) + sW (ppW f P) y = _
    rw [ih, <- sumL_one hn (h p (by simp)) (fun z => if f z = y then p.2 else 0), <- sumL_add]
    refine sumL_congr fun z _ => ?_
    simp only [sW]
    split <;> split <;> simp
theorem pp_congr {P Q : List (List Int × Int)} (h : ∀ z, sW P z = sW Q z) (f : List Int -> List Int) (y : List Int) : sW (ppW f P) y = sW (ppW f Q) y := by
  have hn := srt_nodup (srtU_srt (P.map Prod.fst ++ Q.map Prod.fst))
  rw [sW_pp hn f y P fun p hp => (srtU_mem _ _).2 (List.mem_append_left _ (List.mem_map_of_mem hp)), sW_pp hn f y Q fun p hp => (srtU_mem _ _).2 (List.mem_append_right _ (List.mem_map_of_mem hp))]
  exact sumL_congr fun z _ => by rw [h z]
theorem pp_fst (f : List Int -> List Int) (P : List (List Int × Int)) : (ppW f P).map Prod.fst = (P.map Prod.fst).map f := by simp [ppW]
theorem pp_snd (f : List Int -> List Int) (P : List (List Int × Int)) : (ppW f P).map Prod.snd = P.map Prod.snd := by simp [ppW]
theorem sum_congr {ar : Int} {P Q : List (List Int × Int)} (h : ∀ z, sW P z = sW Q z) (hm : ∀ z, z ∈ P.map Prod.fst ↔ z ∈ Q.map Prod.fst) (f : List Int -> List Int) :
    srtU ((P.map Prod.fst).map f) = srtU ((Q.map Prod.fst).map f) /\ sumOf ar ((P.map Prod.fst).map f) (P.map Prod.snd) = sumOf ar ((Q.map Prod.fst).map f) (Q.map Prod.snd) := by
  have e1 : srtU ((P.map Prod.fst).map f) = srtU ((Q.map Prod.fst).map f) := srtU_uniq (srtU_srt _) fun y => by
    rw [srtU_mem]
    simp only [List.mem_map (f := f)]
    constructor
    · rintro ⟨z, hz, rfl⟩; exact ⟨z, (hm z).1 hz, rfl⟩
    · rintro ⟨z, hz, rfl⟩; exact ⟨z, (hm z).2 hz, rfl⟩
  refine ⟨e1, ?_⟩
  have e2 : sumsOf ((P.map Prod.fst).map f) (P.map Prod.snd) = sumsOf ((Q.map Prod.fst).map f) (Q.map Prod.snd) := by
    rw [sumsOf, sumsOf, e1]
    refine List.map_congr_left fun y _ => ?_
    have := pp_congr h f y
    rw [<- sW_lkC, <- sW_lkC, pp_fst, pp_fst, pp_snd, pp_snd] at this
    exact this
  rw [sumOf, sumOf, e1, e2]
def adL (d e : PDb) (y : PDelta) (nm : List UInt8) (k i : Nat) (a : PAtom) : List (List Int × Int) :=
  if i < k then ones (abR e a) else if k < i then ones (abR d a) else if a.rel = nm then ones (abL a.vars y.ins.rows) ++ negs (abL a.vars y.del.rows) else []
def adZ (y : PDelta) : PCnt := addCP (cntOf y.ins) (negP (cntOf y.del))
def adT (d e : PDb) (y : PDelta) (nm : List UInt8) (k i : Nat) (a : PAtom) : List (List Int × Int) :=
  if i < k then ones (lkR e a.rel).rows else if k < i then ones (lkR d a.rel).rows else if a.rel = nm then (adZ y).rows.zip (adZ y).cs else []
def jdS (p : List Int × List (List Int × Int)) (a : List Int × List (List Int × Int)) : List Int × List (List Int × Int) :=
  (uniL p.1 (aVars a.1), joinW (uniL p.1 (aVars a.1)) p.1 p.2 (aVars a.1) a.2)
def jdW (l : List (List Int × List (List Int × Int))) : List Int × List (List Int × Int) := l.foldl jdS ([], [([], 1)])
def adLs (d e : PDb) (y : PDelta) (nm : List UInt8) (k : Nat) (l : List PAtom) : List (List Int × List (List Int × Int)) := l.mapIdx fun i a => (a.vars, adL d e y nm k i a)
def adTs (d e : PDb) (y : PDelta) (nm : List UInt8) (k : Nat) (l : List PAtom) : List (List Int × List (List Int × Int)) := l.mapIdx fun i a => (a.vars, adT d e y nm k i a)
theorem jdW_snoc (l : List (List Int × List (List Int × Int))) (a : List Int × List (List Int × Int)) : jdW (l ++ [a]) = jdS (jdW l) a := by simp [jdW]
structure Mt (vs : List Int) (L T : List (List Int × Int)) : Prop where
  len : ∀ s ∈ L, s.1.length = (aVars vs).length
  sum : ∀ β : Int -> Int, sW L ((aVars vs).map β) = sW T (vs.map β)
  sup : ∀ β : Int -> Int, (aVars vs).map β ∈ L.map Prod.fst ↔ vs.map β ∈ T.map Prod.fst
theorem mt_ones {vs : List Int} (hv : ∀ v ∈ vs, 0 <= v /\ v < 5) {rows : List (List Int)} (hn : rows.Nodup) : Mt vs (ones (srtU (abL vs rows))) (ones rows) := by
  refine ⟨fun s hs => ?_, fun β => ?_, fun β => ?_⟩
  · obtain ⟨r, hr, rfl⟩ := List.mem_map.1 hs
    exact ab_len r hr
  · rw [sW_ones (srt_nodup (srtU_srt _)), sW_ones hn]
    have := ab_mem (rows := rows) hv β
    by_cases h : vs.map β ∈ rows
    · rw [if_pos h, if_pos (this.2 h)]
    · rw [if_neg h, if_neg fun e => h (this.1 e)]
  · rw [ones_fst, ones_fst]; exact ab_mem hv β
theorem mt_dif {vs : List Int} (hv : ∀ v ∈ vs, 0 <= v /\ v < 5) {A B : List (List Int)} {T : List (List Int × Int)} (hs : ∀ t, sW T t = sW (ones A) t - sW (ones B) t) (hm : ∀ t, t ∈ T.map Prod.fst ↔ t ∈ A \/ t ∈ B) :
    Mt vs (ones (abL vs A) ++ negs (abL vs B)) T := by
  have e1 : ∀ l, ones (abL vs l) = abW vs (ones l) := fun l => by
    simp only [ones, abL, abW, List.filter_map, List.map_map]; rfl
  have e2 : ∀ l, negs (abL vs l) = abW vs (negs l) := fun l => by
    simp only [negs, abL, abW, List.filter_map, List.map_map]; rfl
  have e3 : ∀ l, (negs l).map Prod.fst = l := fun l => by rw [negs, List.map_map]; exact List.map_id' l
  have e4 : ∀ (l : List (List Int)) s, s ∈ abL vs l -> s.length = (aVars vs).length := fun l s h => ab_len s ((srtU_mem _ _).2 h)
  refine ⟨fun s h => ?_, fun β => ?_, fun β => ?_⟩
  · rcases List.mem_append.1 h with h | h
    · obtain ⟨r, hr, rfl⟩ := List.mem_map.1 h
      exact e4 _ r hr
    · obtain ⟨r, hr, rfl⟩ := List.mem_map.1 h
      exact e4 _ r hr
  · rw [sW_app, e1, e2, sW_abW hv, sW_abW hv, sW_negs, hs]; omega
  · have hA := ab_mem (rows := A) hv β
    have hB := ab_mem (rows := B) hv β
    rw [srtU_mem] at hA hB
    rw [List.map_append, List.mem_append, ones_fst, e3, hA, hB, hm]
theorem jn_all : ∀ (l : List ((List Int × List (List Int × Int)) × List (List Int × Int))), (∀ p ∈ l, (∀ v ∈ p.1.1, 0 <= v /\ v < 5) /\ Mt p.1.1 p.1.2 p.2) ->
    ∀ (as : List (List Int × List (List Int × Int))) (p : List Int × List (List Int × Int)), JnW as p.1 p.2 -> JnW (as ++ l.map fun p => (p.1.1, p.2)) ((l.map Prod.fst).foldl jdS p).1 ((l.map Prod.fst).foldl jdS p).2
  | [], _, as, p, h => by simpa using h
  | x :: l, hl, as, p, h => by
    obtain ⟨hv, m⟩ := hl x (by simp)
    have := jn_all l (fun q hq => hl q (List.mem_cons_of_mem _ hq)) (as ++ [(x.1.1, x.2)]) (jdS p x.1) (h.step hv m.len m.sum m.sup)
    simpa using this
theorem lkT_setL {l A B : List PTab} {nm nm' : List UInt8} {r u : PReln} (h : SplT l A B nm r) (hn : nm' ≠ nm) (h1 : dbOk ⟨l⟩ = true) (h2 : dbOk ⟨setL l nm u⟩ = true) : lkT ⟨setL l nm u⟩ nm' = lkT ⟨l⟩ nm' := by
  rw [lkT, lkT, if_pos h1, if_pos h2]
  simp only
  rw [h.set u, h.eq, List.find?_append, List.find?_append, List.find?_cons, List.find?_cons]
  have : (nm == nm') = false := by simp [hn.symm]
  simp only [this]
theorem app_lk {d : PDb} {x : PDelta} (hd : dbOk d = true) (h : appB d x = true) : dbOk (appP d x) = true /\ (∀ nm, lkB (appP d x) nm = lkB d nm) /\ (∀ nm, nm ≠ x.name -> lkR (appP d x) nm = lkR d nm) /\ lkR (appP d x) x.name = appU d x := by
  have hG : appG d x = true := by simp only [appB, Bool.and_eq_true] at h; exact h.1
  have hS : setB d x.name (appU d x) = true := by simp only [appB, Bool.and_eq_true] at h; exact h.2
  have f := fit_of.1 (app_mem hG).1
  obtain ⟨A, B, sp⟩ := lk_split f.lk
  obtain ⟨l⟩ := d
  have h2 : dbOk ⟨setL l x.name (appU ⟨l⟩ x)⟩ = true := by simp only [setB, Bool.and_eq_true] at hS; exact hS.2
  rw [app_eq h]
  have hp := (sp.put (appU ⟨l⟩ x)).lk h2
  refine ⟨h2, fun nm => ?_, fun nm hn => ?_, hp.2⟩
  · by_cases hn : nm = x.name
    · rw [hn, f.lk]; exact hp.1
    · rw [lkB, lkB, lkT_setL sp hn hd h2]
  · rw [lkR, lkR, lkT_setL sp hn hd h2]
theorem qf_app {d : PDb} {q : PQuery} {x : PDelta} (hd : dbOk d = true) (h : appB d x = true) : qryFor (appP d x) q = qryFor d q := by
  obtain ⟨h1, h2, h3, h4⟩ := app_lk hd h
  have hG : appG d x = true := by simp only [appB, Bool.and_eq_true] at h; exact h.1
  have har : ∀ nm, (lkR (appP d x) nm).ar = (lkR d nm).ar := fun nm => by
    by_cases hn : nm = x.name
    · rw [hn, h4, (app_mem hG).2.2.1]
    · rw [h3 nm hn]
  rw [qryFor, qryFor, h1, hd]
  simp only [h2, har]
theorem app_db {d : PDb} {x : PDelta} (h : appB d x = true) : dbOk d = true := by
  simp only [appB, setB, Bool.and_eq_true] at h
  exact h.2.1
structure Nor (d : PDb) (x : PDelta) : Prop where
  ar : (norP d x).ins.ar = (lkR d x.name).ar /\ (norP d x).del.ar = (lkR d x.name).ar
  ins : rowsOk (norP d x).ins.ar (norP d x).ins.rows = true
  del : rowsOk (norP d x).del.ar (norP d x).del.rows = true
  dis : ∀ t, t ∈ (norP d x).ins.rows -> t ∉ (norP d x).del.rows
  one : ∀ t, t ∈ (norP d x).ins.rows -> t ∉ (lkR d x.name).rows
  two : ∀ t, t ∈ (norP d x).del.rows -> t ∈ (lkR d x.name).rows
  mem : ∀ t, t ∈ (appU d x).rows ↔ (t ∈ (lkR d x.name).rows /\ t ∉ (norP d x).del.rows) \/ t ∈ (norP d x).ins.rows
  i16 : (norP d x).ins.rows.length <= 16
  d16 : (norP d x).del.rows.length <= 16
theorem nor_of {d : PDb} {x : PDelta} (h : appB d x = true) : Nor d x := by
  have hG : appG d x = true := by simp only [appB, Bool.and_eq_true] at h; exact h.1
  obtain ⟨hf, hU, hUa, hm⟩ := app_mem hG
  have f := fit_of.1 hf
  have hr := lk_ok f.lk
  have he := nor_eq hf
  have f2 := fit_of.1 (nor_fit hf).1
  have e1 : (norP d x).ins.rows = norI (lkR d x.name) x.ins.rows := by rw [he]
  have e2 : (norP d x).del.rows = norD (lkR d x.name) x.ins x.del.rows := by rw [he]
  have hl := app_lk (app_db h) h
  have hl2 : lkB (appP d x) x.name = true := by rw [hl.2.1]; exact f.lk
  have hone : ∀ t, t ∈ (norP d x).ins.rows -> t ∉ (lkR d x.name).rows := fun t ht => by rw [e1] at ht; exact ((mem_norI hr t).1 ht).2
  have htwo : ∀ t, t ∈ (norP d x).del.rows -> t ∈ (lkR d x.name).rows := fun t ht => by rw [e2] at ht; exact ((mem_norD hr f.ins t).1 ht).2.1
  refine ⟨by rw [he]; exact ⟨rfl, rfl⟩, f2.ins, f2.del, fun t h1 h2 => hone t h1 (htwo t h2), hone, htwo, hm, ?_, ?_⟩
  · refine Nat.le_trans (srt_sub_len (rowsOk_srt f2.ins) (rowsOk_srt hU) fun t ht => (hm t).2 (.inr ht)) ?_
    rw [<- hl.2.2.2]; exact lk_rows hl2
  · exact Nat.le_trans (srt_sub_len (rowsOk_srt f2.del) (rowsOk_srt hr) fun t ht => htwo t ht) (lk_rows f.lk)
theorem cnt_of {r : PReln} (h : rowsOk r.ar r.rows = true) : cntsOk (cntOf r) = true /\ (cntOf r).ar = r.ar /\ (cntOf r).rows = r.rows /\ (cntOf r).cs = List.replicate r.rows.length 1 := by
  rw [cntOf, if_pos h]
  refine ⟨?_, rfl, rfl, rfl⟩
  simp only [cntsOk, Bool.and_eq_true, decide_eq_true_eq, List.length_replicate, List.all_eq_true, h, true_and]
  intro c hc
  rw [(List.mem_replicate.1 hc).2]; rfl
theorem zip_ones : ∀ (l : List (List Int)), l.zip (List.replicate l.length (1 : Int)) = ones l
  | [] => rfl
  | x :: l => by
    rw [List.length_cons, List.replicate_succ, List.zip_cons_cons, zip_ones l]; rfl
theorem lk_ones (l : List (List Int)) (y : List Int) : lkC l (List.replicate l.length 1) y = sW (ones l) y := by rw [<- sW_zip, zip_ones]
theorem ad_z {d : PDb} {x : PDelta} (h : appB d x = true) : addCB (cntOf (norP d x).ins) (negP (cntOf (norP d x).del)) = true /\
    (∀ t, lkC (adZ (norP d x)).rows (adZ (norP d x)).cs t = sW (ones (norP d x).ins.rows) t - sW (ones (norP d x).del.rows) t) /\
    (∀ t, t ∈ (adZ (norP d x)).rows ↔ t ∈ (norP d x).ins.rows \/ t ∈ (norP d x).del.rows) /\ cntsOk (adZ (norP d x)) = true := by
  have n := nor_of h
  obtain ⟨i1, i2, i3, i4⟩ := cnt_of n.ins
  obtain ⟨j1, j2, j3, j4⟩ := cnt_of n.del
  have hok1 := i1
  have hok2 : cntsOk (negP (cntOf (norP d x).del)) = true := negP_ok j1
  have hn3 : (negP (cntOf (norP d x).del)).rows = (norP d x).del.rows := j3
  have hlk : ∀ t, lkC ((cntOf (norP d x).ins).rows ++ (negP (cntOf (norP d x).del)).rows) ((cntOf (norP d x).ins).cs ++ (negP (cntOf (norP d x).del)).cs) t = sW (ones (norP d x).ins.rows) t - sW (ones (norP d x).del.rows) t := fun t => by
    rw [look_app (cz_ok i1).len.symm, i3, i4, lk_ones]
    show _ + lkC (cntOf (norP d x).del).rows ((cntOf (norP d x).del).cs.map fun n => -n) t = _
    rw [look_neg, j3, j4, lk_ones]; omega
  have hlen : ((cntOf (norP d x).ins).rows ++ (negP (cntOf (norP d x).del)).rows).length <= 32 := by
    rw [List.length_append, i3, hn3]; have := n.i16; have := n.d16; omega
  have hB : addCB (cntOf (norP d x).ins) (negP (cntOf (norP d x).del)) = true := by
    simp only [addCB, sumB, Bool.and_eq_true, decide_eq_true_eq]
    refine ⟨⟨⟨hok1, hok2⟩, by rw [i2]; show _ = (cntOf _).ar; rw [j2, n.ar.1, n.ar.2]⟩, by have := srtU_len ((cntOf (norP d x).ins).rows ++ (negP (cntOf (norP d x).del)).rows); omega, ?_⟩
    have cz := cz_sum (ar := (cntOf (norP d x).ins).ar) (rows := (cntOf (norP d x).ins).rows ++ (negP (cntOf (norP d x).del)).rows) (cs := (cntOf (norP d x).ins).cs ++ (negP (cntOf (norP d x).del)).cs)
    have hsum : ∀ y, lkC (sumOf (cntOf (norP d x).ins).ar ((cntOf (norP d x).ins).rows ++ (negP (cntOf (norP d x).del)).rows) ((cntOf (norP d x).ins).cs ++ (negP (cntOf (norP d x).del)).cs)).rows (sumOf (cntOf (norP d x).ins).ar ((cntOf (norP d x).ins).rows ++ (negP (cntOf (norP d x).del)).rows) ((cntOf (norP d x).ins).cs ++ (negP (cntOf (norP d x).del)).cs)).cs y = _ := fun y => by rw [look_sum, hlk]
    generalize hS : sumOf (cntOf (norP d x).ins).ar ((cntOf (norP d x).ins).rows ++ (negP (cntOf (norP d x).del)).rows) ((cntOf (norP d x).ins).cs ++ (negP (cntOf (norP d x).del)).cs) = S at cz hsum ⊢
    have hSa : S.ar = (lkR d x.name).ar := by rw [<- hS]; show (cntOf _).ar = _; rw [i2, n.ar.1]
    have hmem : ∀ y ∈ S.rows, y ∈ (norP d x).ins.rows \/ y ∈ (norP d x).del.rows := fun y hy => by
      have := (cz_mem cz y).1 hy
      rw [hsum] at this
      by_cases h1 : y ∈ (norP d x).ins.rows
      · exact .inl h1
      · by_cases h2 : y ∈ (norP d x).del.rows
        · exact .inr h2
        · rw [sW_ones (srt_nodup (rowsOk_srt n.ins)), sW_ones (srt_nodup (rowsOk_srt n.del)), if_neg h1, if_neg h2] at this
          exact absurd rfl this
    simp only [cntsOk, Bool.and_eq_true, decide_eq_true_eq, List.all_eq_true]
    refine ⟨⟨cz.len.symm, ?_⟩, fun c hc => ?_⟩
    · have hr := lk_ok (fit_of.1 (nor_fit (by
        have hG : appG d x = true := by simp only [appB, Bool.and_eq_true] at h; exact h.1
        exact (app_mem hG).1)).1).lk
      rw [rowsOk_of (by rw [hSa, <- n.ar.1]; exact rowsOk_inR n.ins) cz.srt fun y hy => by
        rcases hmem y hy with h | h
        · have := rowsOk_mem n.ins h
          rw [hSa, <- n.ar.1]; exact this
        · have := rowsOk_mem n.del h
          rw [hSa, <- n.ar.2]; exact this, decide_eq_true_eq]
      have h1 : S.rows.length <= (srtU ((norP d x).ins.rows ++ (norP d x).del.rows)).length := srt_sub_len cz.srt (srtU_srt _) fun y hy => (srtU_mem _ _).2 (List.mem_append.2 (hmem y hy))
      have h2 := srtU_len ((norP d x).ins.rows ++ (norP d x).del.rows)
      rw [List.length_append] at h2
      have := n.i16; have := n.d16; omega
    · obtain ⟨i, hi, rfl⟩ := List.getElem_of_mem hc
      have hi' : i < S.rows.length := by rw [<- cz.len]; exact hi
      have h1 := look_idx cz hi'
      have h2 := cz.nz _ (List.getElem_mem hi)
      rw [<- h1] at h2 ⊢
      rw [hsum] at h2 ⊢
      rw [sW_ones (srt_nodup (rowsOk_srt n.ins)), sW_ones (srt_nodup (rowsOk_srt n.del))] at h2 ⊢
      simp only [cntOk]
      split <;> split <;> simp_all [inR]
  have hz := addC_ok hB
  have hl2 : ∀ t, lkC (adZ (norP d x)).rows (adZ (norP d x)).cs t = sW (ones (norP d x).ins.rows) t - sW (ones (norP d x).del.rows) t := fun t => by
    rw [<- hlk t, adZ, hz.2.2.1, look_app (cz_ok i1).len.symm]
  refine ⟨hB, hl2, fun t => ?_, hz.1⟩
  have := cz_mem (cz_ok hz.1) t
  rw [show addCP (cntOf (norP d x).ins) (negP (cntOf (norP d x).del)) = adZ (norP d x) from rfl] at this
  rw [this, hl2, sW_ones (srt_nodup (rowsOk_srt n.ins)), sW_ones (srt_nodup (rowsOk_srt n.del))]
  by_cases h1 : t ∈ (norP d x).ins.rows
  · have h2 := n.dis t h1
    simp [h1, h2]
  · by_cases h2 : t ∈ (norP d x).del.rows <;> simp [h1, h2]
theorem tup_z {d : PDb} {x : PDelta} (h : appB d x = true) : ((adZ (norP d x)).rows.zip (adZ (norP d x)).cs).map Prod.fst = (adZ (norP d x)).rows :=
  List.map_fst_zip (by rw [(cz_ok (ad_z h).2.2.2).len]; exact Nat.le_refl _)
structure Ad (d : PDb) (q : PQuery) (x : PDelta) : Prop where
  app : appB d x = true
  qf : Qf d q
theorem Ad.qe {d : PDb} {q : PQuery} {x : PDelta} (h : Ad d q x) : Qf (appP d x) q := qf_of (by
  rw [qf_app (app_db h.app) h.app]
  have f := h.qf
  simp only [qryFor, f.qok, f.dok, Bool.true_and, List.all_eq_true, Bool.and_eq_true, decide_eq_true_eq]
  exact fun a ha => ⟨f.lk a ha, f.ar a ha⟩)
theorem Ad.lenx {d : PDb} {q : PQuery} {x : PDelta} (h : Ad d q x) {a : PAtom} (ha : a ∈ q.atoms) (hn : a.rel = x.name) : ∀ t, t ∈ (norP d x).ins.rows \/ t ∈ (norP d x).del.rows -> t.length = a.vars.length /\ valsOk t = true := fun t ht => by
  have n := nor_of h.app
  have := h.qf.ar a ha
  rw [hn] at this
  rcases ht with ht | ht
  · have := rowsOk_mem n.ins ht; have := n.ar.1; exact ⟨by omega, (rowsOk_mem n.ins ht).2⟩
  · have := rowsOk_mem n.del ht; have := n.ar.2; exact ⟨by omega, (rowsOk_mem n.del ht).2⟩
theorem vals_ne {t : List Int} (h : valsOk t = true) : ∀ y ∈ t, y ≠ -1 := fun y hy e => by
  simp only [valsOk, List.all_eq_true] at h
  have := h y hy
  subst e
  simp [inR] at this
theorem ad_mt {d : PDb} {q : PQuery} {x : PDelta} (h : Ad d q x) (k i : Nat) {a : PAtom} (ha : a ∈ q.atoms) : Mt a.vars (adL d (appP d x) (norP d x) x.name k i a) (adT d (appP d x) (norP d x) x.name k i a) := by
  have hv : ∀ v ∈ a.vars, 0 <= v /\ v < 5 := fun v hm => by have := h.qf.vin a ha v hm; have := h.qf.n5; omega
  rw [adL, adT]
  split
  · exact mt_ones hv (srt_nodup (rowsOk_srt (lk_ok (h.qe.lk a ha))))
  split
  · exact mt_ones hv (srt_nodup (rowsOk_srt (lk_ok (h.qf.lk a ha))))
  split
  · obtain ⟨_, z1, z2, z3⟩ := ad_z h.app
    exact mt_dif hv (fun t => by rw [sW_zip]; exact z1 t) fun t => by rw [tup_z h.app]; exact z2 t
  · exact ⟨by simp, fun β => rfl, fun β => by simp⟩
theorem ad_tup {d : PDb} {q : PQuery} {x : PDelta} (h : Ad d q x) (k i : Nat) {a : PAtom} (ha : a ∈ q.atoms) : ∀ t ∈ (adT d (appP d x) (norP d x) x.name k i a).map Prod.fst, t.length = a.vars.length /\ valsOk t = true := by
  intro t ht
  have key : ∀ e : PDb, Qf e q -> t ∈ (lkR e a.rel).rows -> t.length = a.vars.length /\ valsOk t = true := fun e f ht => by
    obtain ⟨h1, h2⟩ := rowsOk_mem (lk_ok (f.lk a ha)) ht
    exact ⟨by have := f.ar a ha; omega, h2⟩
  rw [adT] at ht
  split at ht
  · rw [ones_fst] at ht; exact key _ h.qe ht
  split at ht
  · rw [ones_fst] at ht; exact key _ h.qf ht
  split at ht
  · rename_i hn
    rw [tup_z h.app] at ht
    exact h.lenx ha hn t (((ad_z h.app).2.2.1 t).1 ht)
  · simp at ht
theorem ab_small (vs : List Int) (rows : List (List Int)) : (abL vs rows).length <= rows.length := by rw [abL, List.length_map]; exact List.length_filter_le _ _
theorem adL_len {d : PDb} {q : PQuery} {x : PDelta} (h : Ad d q x) (k i : Nat) {a : PAtom} (ha : a ∈ q.atoms) : (adL d (appP d x) (norP d x) x.name k i a).length <= if i = k then 32 else 16 := by
  have n := nor_of h.app
  rw [adL]
  split
  · rw [if_neg (by omega), ones, List.length_map]; exact abR_size h.qe ha
  split
  · rw [if_neg (by omega), ones, List.length_map]; exact abR_size h.qf ha
  split
  · rw [if_pos (by omega), List.length_append, ones, negs, List.length_map, List.length_map]
    have := ab_small a.vars (norP d x).ins.rows; have := ab_small a.vars (norP d x).del.rows
    have := n.i16; have := n.d16; omega
  · simp
theorem adT_len {d : PDb} {q : PQuery} {x : PDelta} (h : Ad d q x) (k i : Nat) {a : PAtom} (ha : a ∈ q.atoms) : (adT d (appP d x) (norP d x) x.name k i a).length <= if i = k then 32 else 16 := by
  have n := nor_of h.app
  rw [adT]
  split
  · rw [if_neg (by omega), ones, List.length_map]; exact lk_rows (h.qe.lk a ha)
  split
  · rw [if_neg (by omega), ones, List.length_map]; exact lk_rows (h.qf.lk a ha)
  split
  · rw [if_pos (by omega), List.length_zip]
    refine Nat.le_trans (Nat.min_le_left _ _) ?_
    have h1 : (adZ (norP d x)).rows.length <= (srtU ((norP d x).ins.rows ++ (norP d x).del.rows)).length :=
      srt_sub_len (rowsOk_srt (cntsOk_rows (ad_z h.app).2.2.2)) (srtU_srt _) fun y hy => (srtU_mem _ _).2 (List.mem_append.2 (((ad_z h.app).2.2.1 y).1 hy))
    have h2 := srtU_len ((norP d x).ins.rows ++ (norP d x).del.rows)
    rw [List.length_append] at h2
    have := n.i16; have := n.d16; omega
  · simp
def Sg (P : List (List Int × Int)) : Prop := ∀ p ∈ P, p.2 = 1 \/ p.2 = -1
theorem sg_ones (l : List (List Int)) : Sg (ones l) := fun p hp => by obtain ⟨r, _, rfl⟩ := List.mem_map.1 hp; exact .inl rfl
theorem sg_negs (l : List (List Int)) : Sg (negs l) := fun p hp => by obtain ⟨r, _, rfl⟩ := List.mem_map.1 hp; exact .inr rfl
theorem sg_mul {a b : Int} (h : a = 1 \/ a = -1) (h' : b = 1 \/ b = -1) : a * b = 1 \/ a * b = -1 := by rcases h with rfl | rfl <;> rcases h' with rfl | rfl <;> simp
theorem sg_join {u a b : List Int} {P L : List (List Int × Int)} (h : Sg P) (h' : Sg L) : Sg (joinW u a P b L) := fun p hp => by
  simp only [joinW, List.mem_flatMap, List.mem_filterMap] at hp
  obtain ⟨r, hr, s, hs, e⟩ := hp
  obtain ⟨y, _, rfl⟩ := Option.map_eq_some_iff.1 e
  exact sg_mul (h r hr) (h' s hs)
theorem sg_walk : ∀ (as : List (List Int × List (List Int × Int))) (x : List Int) (c : Int), (∀ a ∈ as, Sg a.2) -> (c = 1 \/ c = -1) -> Sg (walkW as x c)
  | [], x, c, _, hc => fun p hp => by rw [walkW, List.mem_singleton] at hp; rw [hp]; exact hc
  | a :: as, x, c, h, hc => fun p hp => by
    rw [walkW, List.mem_flatMap] at hp
    obtain ⟨t, ht, hp⟩ := hp
    split at hp
    · cases hp
    · exact sg_walk as _ _ (fun b hb => h b (List.mem_cons_of_mem _ hb)) (sg_mul hc (h a (by simp) t ht)) p hp
theorem sg_adL (d e : PDb) (y : PDelta) (nm : List UInt8) (k i : Nat) (a : PAtom) : Sg (adL d e y nm k i a) := by
  rw [adL]
  split
  · exact sg_ones _
  split
  · exact sg_ones _
  split
  · intro p hp
    rcases List.mem_append.1 hp with hp | hp
    · exact sg_ones _ p hp
    · exact sg_negs _ p hp
  · intro p hp; cases hp
theorem sg_adT {d : PDb} {q : PQuery} {x : PDelta} (h : Ad d q x) (k i : Nat) (a : PAtom) : Sg (adT d (appP d x) (norP d x) x.name k i a) := by
  rw [adT]
  split
  · exact sg_ones _
  split
  · exact sg_ones _
  split
  · intro p hp
    obtain ⟨_, z1, z2, z3⟩ := ad_z h.app
    have n := nor_of h.app
    obtain ⟨i, hi, rfl⟩ := List.getElem_of_mem hp
    rw [List.length_zip] at hi
    rw [List.getElem_zip]
    simp only
    have cz := cz_ok z3
    have h1 := look_idx cz (i := i) (by omega)
    have h2 := cz.nz _ (List.getElem_mem (by omega : i < (adZ (norP d x)).cs.length))
    rw [<- h1] at h2 ⊢
    rw [z1, sW_ones (srt_nodup (rowsOk_srt n.ins)), sW_ones (srt_nodup (rowsOk_srt n.del))] at h2 ⊢
    split <;> split <;> simp_all
  · intro p hp; cases hp
theorem joinW_size {u a b : List Int} {P L : List (List Int × Int)} : (joinW u a P b L).length <= P.length * L.length := by
  have := join_size (u := u) (a := a) (b := b) (rows := P.map Prod.fst) (list := L.map Prod.fst)
  rw [<- joinW_fst, List.length_map, List.length_map, List.length_map] at this
  exact this
theorem mapIdx_flat {f : Nat -> PAtom -> List (List Int × Int)} : ∀ (l : List PAtom), (l.mapIdx fun i a => (a.vars, f i a)).flatMap Prod.fst = varsIn l := by
  intro l
  have : (l.mapIdx fun i a => (a.vars, f i a)).map Prod.fst = l.map PAtom.vars := by
    refine List.ext_getElem (by simp) fun i h1 h2 => by simp
  rw [varsIn, List.flatMap_def, List.flatMap_def, this]
theorem ad_jn {d : PDb} {q : PQuery} {x : PDelta} (h : Ad d q x) (k : Nat) : JnW (adTs d (appP d x) (norP d x) x.name k q.atoms) (jdW (adLs d (appP d x) (norP d x) x.name k q.atoms)).1 (jdW (adLs d (appP d x) (norP d x) x.name k q.atoms)).2 := by
  have key := jn_all (q.atoms.mapIdx fun i a => ((a.vars, adL d (appP d x) (norP d x) x.name k i a), adT d (appP d x) (norP d x) x.name k i a)) (fun p hp => by
    obtain ⟨i, hi, rfl⟩ := List.getElem_of_mem hp
    rw [List.length_mapIdx] at hi
    rw [List.getElem_mapIdx]
    have ha := List.getElem_mem hi
    exact ⟨fun v hm => by have := h.qf.vin _ ha v hm; have := h.qf.n5; omega, ad_mt h k i ha⟩) [] ([], [([], 1)]) JnW.zero
  rw [List.nil_append] at key
  have e1 : (q.atoms.mapIdx fun i a => ((a.vars, adL d (appP d x) (norP d x) x.name k i a), adT d (appP d x) (norP d x) x.name k i a)).map (fun p => (p.1.1, p.2)) = adTs d (appP d x) (norP d x) x.name k q.atoms := by
    refine List.ext_getElem (by simp [adTs]) fun i h1 h2 => by simp [adTs]
  have e2 : (q.atoms.mapIdx fun i a => ((a.vars, adL d (appP d x) (norP d x) x.name k i a), adT d (appP d x) (norP d x) x.name k i a)).map Prod.fst = adLs d (appP d x) (norP d x) x.name k q.atoms := by
    refine List.ext_getElem (by simp [adLs]) fun i h1 h2 => by simp [adLs]
  rw [e1, e2] at key
  exact key
theorem ad_vars {d : PDb} {q : PQuery} {x : PDelta} (h : Ad d q x) (k : Nat) : (jdW (adLs d (appP d x) (norP d x) x.name k q.atoms)).1 = rangeI q.n.toNat := by
  have j := ad_jn h k
  refine pw_ext j.pw (rangeI_pw _) fun x => ?_
  rw [j.mem, rangeI_mem, adTs, mapIdx_flat]
  constructor
  · intro h'
    simp only [varsIn, List.mem_flatMap] at h'
    obtain ⟨a, ha, hx⟩ := h'
    have := h.qf.vin a ha x hx; omega
  · rintro ⟨h0, h1⟩; exact h.qf.all x h0 (by omega)
theorem ad_tok {d : PDb} {q : PQuery} {x : PDelta} (h : Ad d q x) (k : Nat) : TupOk q.n.toNat (adTs d (appP d x) (norP d x) x.name k q.atoms) := by
  intro p hp
  obtain ⟨i, hi, rfl⟩ := List.getElem_of_mem hp
  simp only [adTs, List.length_mapIdx] at hi
  simp only [adTs, List.getElem_mapIdx]
  have ha := List.getElem_mem hi
  refine ⟨fun v hm => by have := h.qf.vin _ ha v hm; omega, fun t ht => ?_⟩
  obtain ⟨h1, h2⟩ := ad_tup h k i ha t.1 (List.mem_map_of_mem ht)
  exact ⟨h1, vals_ne h2⟩
theorem con_top {d : PDb} {q : PQuery} (f : Qf d q) (z : List Int) : Con (varsIn q.atoms) (List.replicate q.n.toNat (-1)) z ↔ z.length = q.n.toNat := by
  constructor
  · intro h; simpa using h.len
  · intro hl
    have out : ∀ j : Nat, q.n.toNat <= j -> z.getD j 0 = (List.replicate q.n.toNat (-1)).getD j 0 := fun j hj => by
      simp [List.getD, List.getElem?_eq_none (show z.length <= j by omega), List.getElem?_eq_none (show (List.replicate q.n.toNat (-1 : Int)).length <= j by simpa using hj)]
    refine ⟨by simpa using hl, fun j hj => out j ?_, fun j hj => out j ?_⟩
    · refine Nat.le_of_not_lt fun hlt => hj (f.all j (by omega) (by omega))
    · refine Nat.le_of_not_lt fun hlt => hj ?_
      rw [getD_el _ (by simpa using hlt)]
      simp
def adJ (d : PDb) (q : PQuery) (x : PDelta) (k : Nat) : List (List Int × Int) := (jdW (adLs d (appP d x) (norP d x) x.name k q.atoms)).2
def adK (d : PDb) (q : PQuery) (x : PDelta) (k : Nat) : List (List Int × Int) := walkW (adTs d (appP d x) (norP d x) x.name k q.atoms) (List.replicate q.n.toNat (-1)) 1
theorem ad_sum {d : PDb} {q : PQuery} {x : PDelta} (h : Ad d q x) (k : Nat) (z : List Int) : sW (adJ d q x k) z = sW (adK d q x k) z := by
  have j := ad_jn h k
  rw [ad_vars h k] at j
  have hw := sW_walk (adTs d (appP d x) (norP d x) x.name k q.atoms) (List.replicate q.n.toNat (-1)) z 1 (by rw [List.length_replicate]; exact ad_tok h k)
  rw [adTs, mapIdx_flat, con_top h.qf] at hw
  rw [adK, adTs, hw]
  by_cases hl : z.length = q.n.toNat
  · rw [if_pos hl, Int.one_mul]
    have := j.sum fun v => z.getD v.toNat 0
    rw [rangeI_map hl] at this
    exact this
  · rw [if_neg hl]
    refine sW_none fun hm => hl ?_
    obtain ⟨p, hp, rfl⟩ := List.mem_map.1 hm
    rw [j.len p hp, rangeI_len]
theorem ad_sup {d : PDb} {q : PQuery} {x : PDelta} (h : Ad d q x) (k : Nat) (z : List Int) : z ∈ (adJ d q x k).map Prod.fst ↔ z ∈ (adK d q x k).map Prod.fst := by
  have j := ad_jn h k
  rw [ad_vars h k] at j
  have hw := walkW_sup (adTs d (appP d x) (norP d x) x.name k q.atoms) (List.replicate q.n.toNat (-1)) z 1 (by rw [List.length_replicate]; exact ad_tok h k)
  rw [adTs, mapIdx_flat, con_top h.qf] at hw
  rw [adK, adTs, hw]
  have key : z.length = q.n.toNat -> (z ∈ (adJ d q x k).map Prod.fst ↔ ∀ a ∈ adTs d (appP d x) (norP d x) x.name k q.atoms, pickR a.1 z ∈ a.2.map Prod.fst) := fun hl => by
    have := j.sup fun v => z.getD v.toNat 0
    rw [rangeI_map hl] at this
    exact this
  constructor
  · intro hm
    have hl : z.length = q.n.toNat := by
      obtain ⟨p, hp, rfl⟩ := List.mem_map.1 hm
      rw [j.len p hp, rangeI_len]
    exact ⟨hl, (key hl).1 hm⟩
  · rintro ⟨hl, h'⟩; exact (key hl).2 h'
theorem ad_row {d : PDb} {q : PQuery} {x : PDelta} (h : Ad d q x) (k : Nat) {z : List Int} (hz : z ∈ (adJ d q x k).map Prod.fst) : z.length = q.n.toNat /\ valsOk z = true := by
  have j := ad_jn h k
  rw [ad_vars h k] at j
  have hl : z.length = q.n.toNat := by
    obtain ⟨p, hp, rfl⟩ := List.mem_map.1 hz
    rw [j.len p hp, rangeI_len]
  have hs := j.sup fun v => z.getD v.toNat 0
  rw [rangeI_map hl] at hs
  have hs := hs.1 hz
  refine ⟨hl, ?_⟩
  simp only [valsOk, List.all_eq_true]
  intro y hy
  obtain ⟨i, hi, rfl⟩ := List.getElem_of_mem hy
  have hv := h.qf.all i (by omega) (by omega)
  simp only [varsIn, List.mem_flatMap] at hv
  obtain ⟨a, ha, hva⟩ := hv
  obtain ⟨m, hm, rfl⟩ := List.getElem_of_mem ha
  have ht := hs (q.atoms[m].vars, adT d (appP d x) (norP d x) x.name k m q.atoms[m]) (by
    rw [List.mem_iff_getElem]
    exact ⟨m, by simpa [adTs] using hm, by simp [adTs]⟩)
  have := (ad_tup h k m ha _ ht).2
  simp only [valsOk, List.all_eq_true] at this
  have := this z[i] (List.mem_map.2 ⟨(i : Int), hva, by simp [List.getElem?_eq_getElem hi]⟩)
  exact this
theorem jdW_take {l : List (List Int × List (List Int × Int))} {i : Nat} (h : i < l.length) : jdW (l.take (i + 1)) = jdS (jdW (l.take i)) l[i] := by
  rw [List.take_succ_eq_append_getElem h, jdW_snoc]
theorem pow16 (i : Nat) (hi : i <= 4) : 16 ^ i <= 65536 := by
  have : i = 0 \/ i = 1 \/ i = 2 \/ i = 3 \/ i = 4 := by omega
  rcases this with rfl | rfl | rfl | rfl | rfl <;> simp
theorem jd_size {d : PDb} {q : PQuery} {x : PDelta} (h : Ad d q x) (k : Nat) : ∀ i, i <= q.atoms.length ->
    (jdW ((adLs d (appP d x) (norP d x) x.name k q.atoms).take i)).2.length <= 16 ^ i * if k < i then 2 else 1
  | 0, _ => by simp [jdW]
  | i + 1, hi => by
    have ih := jd_size h k i (by omega)
    have hlt : i < (adLs d (appP d x) (norP d x) x.name k q.atoms).length := by simp [adLs]; omega
    rw [jdW_take hlt, jdS]
    refine Nat.le_trans joinW_size ?_
    have hL := adL_len h k i (List.getElem_mem (show i < q.atoms.length by omega))
    have he : (adLs d (appP d x) (norP d x) x.name k q.atoms)[i].2 = adL d (appP d x) (norP d x) x.name k i q.atoms[i] := by simp [adLs]
    rw [he, Nat.pow_succ]
    refine Nat.le_trans (Nat.mul_le_mul ih hL) ?_
    by_cases h1 : i = k
    · rw [if_pos h1, if_neg (by omega), if_pos (by omega)]; omega
    · rw [if_neg h1]
      by_cases h2 : k < i
      · rw [if_pos h2, if_pos (by omega)]; omega
      · rw [if_neg h2, if_neg (by omega)]; omega
theorem jd_le {d : PDb} {q : PQuery} {x : PDelta} (h : Ad d q x) (k i : Nat) (hi : i <= q.atoms.length) : (jdW ((adLs d (appP d x) (norP d x) x.name k q.atoms).take i)).2.length <= 131072 := by
  refine Nat.le_trans (jd_size h k i hi) ?_
  have := pow16 i (by have := h.qf.a4; omega)
  split <;> omega
theorem walkW_size : ∀ (as : List (List Int × List (List Int × Int))) (x : List Int) (c : Int), (walkW as x c).length <= as.foldr (fun a n => a.2.length * n) 1
  | [], x, c => by simp [walkW]
  | a :: as, x, c => by
    rw [walkW, List.foldr_cons]
    have key : ∀ L : List (List Int × Int), (L.flatMap fun t => match asgO x (a.1.zip t.1) with
        | none => []
        | some x => walkW as x (c * t.2)).length <= L.length * as.foldr (fun a n => a.2.length * n) 1 := fun L => by
      induction L with
      | nil => simp
      | cons t ts ih =>
        rw [List.flatMap_cons, List.length_append, List.length_cons, Nat.add_mul, Nat.one_mul]
        have : (match asgO x (a.1.zip t.1) with
          | none => []
          | some x => walkW as x (c * t.2)).length <= as.foldr (fun a n => a.2.length * n) 1 := by
          split
          · simp
          · exact walkW_size as _ _
        omega
    exact key _
theorem fold_small : ∀ (m : Nat) (as : List (List Int × List (List Int × Int))), as.length <= m -> m <= 4 -> (∀ a ∈ as, a.2.length <= 32) -> as.foldr (fun a n => a.2.length * n) 1 <= 32 ^ m
  | m, [], _, _, _ => by simp only [List.foldr_nil]; exact Nat.one_le_pow _ _ (by omega)
  | 0, a :: as, h, _, _ => by simp at h
  | m + 1, a :: as, h, hm, ha => by
    have ih := fold_small m as (by simp at h; omega) (by omega) fun b hb => ha b (List.mem_cons_of_mem _ hb)
    rw [List.foldr_cons, Nat.pow_succ, Nat.mul_comm (32 ^ m)]
    exact Nat.mul_le_mul (ha a (by simp)) ih
def adX (d : PDb) (q : PQuery) (x : PDelta) (k : Nat) : List (List Int) := ((adJ d q x k).map Prod.fst).map (pickR q.out)
def adC (d : PDb) (q : PQuery) (x : PDelta) (k : Nat) : List Int := (adJ d q x k).map Prod.snd
def adG (d : PDb) (q : PQuery) (x : PDelta) (k : Int) : Bool := appB d x && qryFor d q && inR k 0 (q.atoms.length - 1)
def adB (d : PDb) (q : PQuery) (x : PDelta) (k : Int) : Bool := adG d q x k && decide ((srtU (adX d q x k.toNat)).length <= 4000)
def adP (d : PDb) (q : PQuery) (x : PDelta) (k : Int) : PCnt := if adB d q x k then sumOf q.out.length (adX d q x k.toNat) (adC d q x k.toNat) else ⟨0, [], []⟩
theorem adG_ad {d : PDb} {q : PQuery} {x : PDelta} {k : Int} (h : adG d q x k = true) : Ad d q x := by
  simp only [adG, Bool.and_eq_true] at h
  exact ⟨h.1.1, qf_of h.1.2⟩
theorem adG_k {d : PDb} {q : PQuery} {x : PDelta} {k : Int} (h : adG d q x k = true) : 0 <= k /\ k < q.atoms.length := by
  simp only [adG, inR, Bool.and_eq_true, decide_eq_true_eq] at h
  omega
theorem adJ_all {d : PDb} {q : PQuery} {x : PDelta} (k : Nat) : adJ d q x k = (jdW ((adLs d (appP d x) (norP d x) x.name k q.atoms).take q.atoms.length)).2 := by
  rw [List.take_of_length_le (by simp [adLs])]; rfl
theorem adJ_le {d : PDb} {q : PQuery} {x : PDelta} (h : Ad d q x) (k : Nat) : (adJ d q x k).length <= 131072 := by rw [adJ_all]; exact jd_le h k _ (Nat.le_refl _)
theorem sg_jdW : ∀ (l : List (List Int × List (List Int × Int))), (∀ a ∈ l, Sg a.2) -> ∀ p : List Int × List (List Int × Int), Sg p.2 -> Sg (l.foldl jdS p).2
  | [], _, p, hp => hp
  | a :: l, h, p, hp => sg_jdW l (fun b hb => h b (List.mem_cons_of_mem _ hb)) (jdS p a) (sg_join hp (h a (by simp)))
theorem sg_adLs (d e : PDb) (y : PDelta) (nm : List UInt8) (k : Nat) (l : List PAtom) : ∀ a ∈ adLs d e y nm k l, Sg a.2 := fun a ha => by
  obtain ⟨i, hi, rfl⟩ := List.getElem_of_mem ha
  simp only [adLs, List.getElem_mapIdx]
  exact sg_adL d e y nm k i _
theorem sg_top (p : List Int) : Sg [(p, 1)] := fun q hq => by rw [List.mem_singleton.1 hq]; exact .inl rfl
theorem sg_adJ (d : PDb) (q : PQuery) (x : PDelta) (k : Nat) : Sg (adJ d q x k) := sg_jdW _ (sg_adLs d _ _ _ k _) _ (sg_top [])
theorem sg_adC (d : PDb) (q : PQuery) (x : PDelta) (k : Nat) : ∀ c ∈ adC d q x k, c = 1 \/ c = -1 := fun c hc => by
  obtain ⟨p, hp, rfl⟩ := List.mem_map.1 hc
  exact sg_adJ d q x k p hp
theorem lkC_bd : ∀ (R : List (List Int)) (cs : List Int) (y : List Int), (∀ c ∈ cs, c = 1 \/ c = -1) -> -(R.length : Int) <= lkC R cs y /\ lkC R cs y <= R.length
  | [], cs, y, _ => by simp [lkC]
  | x :: R, [], y, _ => by simp only [lkC, List.length_cons]; omega
  | x :: R, c :: cs, y, h => by
    have ih := lkC_bd R cs y fun d hd => h d (List.mem_cons_of_mem _ hd)
    have := h c (by simp)
    simp only [lkC, List.length_cons]
    split <;> omega
theorem sum_ok {ar : Int} {rows : List (List Int)} {cs : List Int} (hr : inR ar 0 5 = true) (hm : ∀ x ∈ rows, (x.length : Int) = ar /\ valsOk x = true) (h4 : (srtU rows).length <= 4000)
    (hc : ∀ c ∈ cs, c = 1 \/ c = -1) (hl : rows.length <= 1000000) : cntsOk (sumOf ar rows cs) = true := by
  have cz := cz_sum (ar := ar) (rows := rows) (cs := cs)
  have hsub : ∀ y ∈ (sumOf ar rows cs).rows, y ∈ srtU rows := fun y hy => (sttl_subl (srtU rows) (sumsOf rows cs)).subset hy
  simp only [cntsOk, Bool.and_eq_true, decide_eq_true_eq, List.all_eq_true]
  refine ⟨⟨cz.len.symm, ?_⟩, fun c hcm => ?_⟩
  · show rowsOk ar _ = true
    rw [rowsOk_of hr cz.srt fun y hy => hm y ((srtU_mem _ _).1 (hsub y hy)), decide_eq_true_eq]
    exact Nat.le_trans (srt_sub_len cz.srt (srtU_srt rows) hsub) h4
  · obtain ⟨i, hi, rfl⟩ := List.getElem_of_mem hcm
    have h1 := look_idx cz (i := i) (by rw [<- cz.len]; exact hi)
    have h2 := cz.nz _ (List.getElem_mem hi)
    have h3 := lkC_bd rows cs ((sumOf ar rows cs).rows[i]'(by rw [<- cz.len]; exact hi)) hc
    rw [look_sum] at h1
    rw [<- h1] at h2 ⊢
    simp only [cntOk, inR, Bool.and_eq_true, decide_eq_true_eq, Bool.not_eq_true', beq_eq_false_iff_ne, ne_eq]
    exact ⟨h2, by omega, by omega⟩
theorem ad_out {d : PDb} {q : PQuery} {x : PDelta} (h : Ad d q x) : inR (q.out.length : Int) 0 5 = true /\ ∀ c ∈ q.out, 0 <= c /\ c < q.n := by
  have f := h.qf
  have h5 := f.out5
  refine ⟨by simp only [inR, Bool.and_eq_true, decide_eq_true_eq]; omega, fun c hc => ?_⟩
  have := f.qok
  simp only [queryOk, setOf, Bool.and_eq_true, List.all_eq_true] at this
  have := this.1.1.2.1 c hc
  have := f.n5
  rw [wrap64_of (by omega) (by omega)] at *
  simp only [inR, Bool.and_eq_true, decide_eq_true_eq] at *
  omega
theorem adX_ok {d : PDb} {q : PQuery} {x : PDelta} (h : Ad d q x) (k : Nat) : ∀ y ∈ adX d q x k, (y.length : Int) = q.out.length /\ valsOk y = true := fun y hy => by
  obtain ⟨z, hz, rfl⟩ := List.mem_map.1 hy
  obtain ⟨h1, h2⟩ := ad_row h k hz
  refine ⟨by rw [pickR_len], pickR_ok h2 fun c hc => ?_⟩
  have := (ad_out h).2 c hc; omega
theorem ad_ref {d : PDb} {q : PQuery} {x : PDelta} {k : Int} (h : adG d q x k = true) :
    sumB q.out.length (((adK d q x k.toNat).map Prod.fst).map (pickR q.out)) ((adK d q x k.toNat).map Prod.snd) = adB d q x k /\
    sumP q.out.length (((adK d q x k.toNat).map Prod.fst).map (pickR q.out)) ((adK d q x k.toNat).map Prod.snd) = adP d q x k := by
  have a := adG_ad h
  obtain ⟨e1, e2⟩ := sum_congr (ar := q.out.length) (ad_sum a k.toNat) (ad_sup a k.toNat) (pickR q.out)
  have hb : sumB q.out.length (((adK d q x k.toNat).map Prod.fst).map (pickR q.out)) ((adK d q x k.toNat).map Prod.snd) = adB d q x k := by
    rw [sumB, adB, h, Bool.true_and, <- e2, <- e1]
    show (decide ((srtU (adX d q x k.toNat)).length <= 4000) && cntsOk (sumOf q.out.length (adX d q x k.toNat) (adC d q x k.toNat))) = _
    by_cases h4 : (srtU (adX d q x k.toNat)).length <= 4000
    · rw [decide_eq_true h4, sum_ok (ad_out a).1 (adX_ok a _) h4 (sg_adC d q x _) (by simp only [adX, List.length_map]; have := adJ_le a k.toNat; omega)]; rfl
    · rw [decide_eq_false h4]; rfl
  exact ⟨hb, by rw [sumP, adP, hb, <- e2]; rfl⟩
end Go.Vs
namespace Go.Vs
section
variable {S : Nat -> Prop} {w : World}
theorem DR.erp {es : List (List D)} {v : Value} (h : DR S w (.pl es) v) : DR S w (.pl (erLL es)) v := by
  cases h with
  | pl _ a cap sz vs hS hn hcap hm hsz hc hd =>
    have hel : ∀ (i : Nat) (e : List D), (erLL es)[i]? = some e -> ∃ e0, es[i]? = some e0 /\ e = erL e0 := erLL_get es
    have hlen : (erLL es).length = es.length := erLL_len es
    rw [<- hlen]
    refine .pl (erLL es) a cap sz vs hS hn (by omega) hm (fun i e he => ?_) (fun p hp i e he j u hu => ?_) (fun i e he j u hu => ?_)
    · obtain ⟨e0, h0, rfl⟩ := hel i e he
      rw [erL_len]; exact hsz i e0 h0
    · obtain ⟨e0, h0, rfl⟩ := hel i e he
      obtain ⟨u0, h1, rfl⟩ := erL_get e0 j u hu
      exact hc p hp i e0 h0 j u0 h1
    · obtain ⟨e0, h0, rfl⟩ := hel i e he
      obtain ⟨u0, h1, rfl⟩ := erL_get e0 j u hu
      exact erL_DR e0 j u0 h1 (hd i e0 h0 j u0 h1)
end
theorem lead_dr {σ : St} (s : Nat) {x y : D} (hs : σ.t s = .d x) (hxy : ∀ (S : Nat -> Prop) (w : World) (v : Value), DR S w x v -> DR S w y v) :
    Lead (fun σ' => σ' = { σ with t := upd σ.t s (.d y) }) σ := by
  intro A0 N w0 ρ a w h
  refine ⟨{ σ with t := upd σ.t s (.d y) }, ρ, ⟨h.below, h.hN, h.key, h.norow, h.hG, h.hB, h.hs, h.hs0, h.defers, h.size, fun i => ?_, h.mem, h.inj⟩, rfl⟩
  simp only [upd]
  split
  · rename_i hi
    subst hi
    have hv := h.tmps i
    rw [hs] at hv
    simp only [VR] at hv ⊢
    exact hxy _ _ _ hv
  · exact h.tmps i
theorem lead_erp {σ : St} (s : Nat) {es : List (List D)} (hs : σ.t s = .d (.pl es)) : Lead (fun σ' => σ' = { σ with t := upd σ.t s (.d (.pl (erLL es))) }) σ := lead_dr s hs fun _ _ _ h => h.erp
theorem lead_er {σ : St} (s : Nat) {x : D} (hs : σ.t s = .d x) : Lead (fun σ' => σ' = { σ with t := upd σ.t s (.d x.er) }) σ := lead_dr s hs fun _ _ _ h => h.er
def jnW (u a : List Int) (P : List (List Int × Int)) (b : List Int) (L : List (List Int × Int)) (k j : Nat) : List (List Int × Int) :=
  joinW u a (P.take k) b L ++ (L.take j).filterMap fun s => (glO u a (P.getD k ([], 0)).1 b s.1).map fun x => (x, (P.getD k ([], 0)).2 * s.2)
theorem jnW_zero (u a : List Int) (P : List (List Int × Int)) (b : List Int) (L : List (List Int × Int)) (k : Nat) : jnW u a P b L k 0 = joinW u a (P.take k) b L := by simp [jnW]
theorem jnW_all {u a : List Int} {P : List (List Int × Int)} {b : List Int} {L : List (List Int × Int)} {k : Nat} (h : k < P.length) : jnW u a P b L k L.length = joinW u a (P.take (k + 1)) b L := by
  rw [jnW, List.take_of_length_le (Nat.le_refl _), List.take_succ_eq_append_getElem h]
  simp only [joinW, List.flatMap_append, List.flatMap_cons, List.flatMap_nil, List.append_nil, List.getD_eq_getElem?_getD, List.getElem?_eq_getElem h, Option.getD_some]
theorem jnW_succ {u a : List Int} {P : List (List Int × Int)} {b : List Int} {L : List (List Int × Int)} {k j : Nat} (hk : k < P.length) (h : j < L.length) :
    jnW u a P b L k (j + 1) = jnW u a P b L k j ++ if glB u a P[k].1 b L[j].1 then [(glR u a P[k].1 b L[j].1, P[k].2 * L[j].2)] else [] := by
  have hg : P.getD k ([], 0) = P[k] := by simp [List.getD_eq_getElem?_getD, List.getElem?_eq_getElem hk]
  rw [jnW, jnW, List.take_succ_eq_append_getElem h, List.filterMap_append, List.append_assoc, hg]
  congr 2
  simp only [List.filterMap_cons, List.filterMap_nil, glO]
  cases glB u a P[k].1 b L[j].1 <;> simp
theorem jnW_len {u a : List Int} {P : List (List Int × Int)} {b : List Int} {L : List (List Int × Int)} {k j : Nat} (hk : P.length <= 131072) (hl : L.length <= 32) : (jnW u a P b L k j).length <= 5000000 := by
  rw [jnW, List.length_append]
  have h1 : (joinW u a (P.take k) b L).length <= 131072 * 32 := Nat.le_trans joinW_size (Nat.mul_le_mul (by rw [List.length_take]; omega) hl)
  have h2 := List.length_filterMap_le (fun s : List Int × Int => (glO u a (P.getD k ([], 0)).1 b s.1).map fun x => (x, (P.getD k ([], 0)).2 * s.2)) (L.take j)
  rw [List.length_take] at h2
  omega
theorem joinW_nil (u a b : List Int) (L : List (List Int × Int)) : joinW u a [] b L = [] := rfl
def adA (d e : PDb) (y : PDelta) (nm : List UInt8) (k i : Nat) (a : PAtom) : List (List Int) :=
  if i < k then abR e a else if k < i then abR d a else if a.rel = nm then abL a.vars y.ins.rows else []
def adN (y : PDelta) (nm : List UInt8) (k i : Nat) (a : PAtom) : List (List Int) := if i < k then [] else if k < i then [] else if a.rel = nm then abL a.vars y.del.rows else []
theorem adL_eq (d e : PDb) (y : PDelta) (nm : List UInt8) (k i : Nat) (a : PAtom) : adL d e y nm k i a = ones (adA d e y nm k i a) ++ negs (adN y nm k i a) := by
  rw [adL, adA, adN]
  split
  · simp [negs]
  split
  · simp [negs]
  split
  · rfl
  · rfl
theorem on_get {A N : List (List Int)} {j : Nat} (h : j < (ones A ++ negs N).length) : (ones A ++ negs N)[j] = ((A ++ N)[j]'(by simpa [ones, negs] using h), if j < A.length then 1 else -1) := by
  by_cases hj : j < A.length
  · rw [List.getElem_append_left (by simpa [ones] using hj), if_pos hj]
    simp only [ones, List.getElem_map, List.getElem_append_left hj]
  · rw [List.getElem_append_right (by simpa [ones] using hj), if_neg hj]
    simp only [ones, negs, List.getElem_map, List.length_map]
    rw [List.getElem_append_right (by omega)]
theorem on_fst (A N : List (List Int)) : (ones A ++ negs N).map Prod.fst = A ++ N := by
  rw [List.map_append, ones_fst]
  have e3 : (negs N).map Prod.fst = N := by rw [negs, List.map_map]; exact List.map_id' N
  rw [e3]
theorem on_len (A N : List (List Int)) : (ones A ++ negs N).length = A.length + N.length := by simp [ones, negs]
theorem jd_len5 {d : PDb} {q : PQuery} {x : PDelta} (h : Ad d q x) (k : Nat) (i : Nat) : (jdW ((adLs d (appP d x) (norP d x) x.name k q.atoms).take i)).1.length <= 5 /\
    (∀ r ∈ (jdW ((adLs d (appP d x) (norP d x) x.name k q.atoms).take i)).2, r.1.length = (jdW ((adLs d (appP d x) (norP d x) x.name k q.atoms).take i)).1.length) /\
    (jdW ((adLs d (appP d x) (norP d x) x.name k q.atoms).take i)).1.Pairwise (· < ·) /\ (∀ v ∈ (jdW ((adLs d (appP d x) (norP d x) x.name k q.atoms).take i)).1, 0 <= v /\ v < 5) := by
  have key : ∀ (l : List (List Int × List (List Int × Int))), (∀ a ∈ l, ∀ v ∈ a.1, 0 <= v /\ v < 5) -> ∀ p : List Int × List (List Int × Int), p.1.Pairwise (· < ·) -> (∀ v ∈ p.1, 0 <= v /\ v < 5) -> (∀ r ∈ p.2, r.1.length = p.1.length) ->
      (l.foldl jdS p).1.Pairwise (· < ·) /\ (∀ v ∈ (l.foldl jdS p).1, 0 <= v /\ v < 5) /\ (∀ r ∈ (l.foldl jdS p).2, r.1.length = (l.foldl jdS p).1.length) := by
    intro l
    induction l with
    | nil => exact fun _ p h1 h2 h3 => ⟨h1, h2, h3⟩
    | cons a l ih =>
      intro hl p h1 h2 h3
      have hu := uniL_pw (aVars a.1) h1
      refine ih (fun b hb => hl b (List.mem_cons_of_mem _ hb)) (jdS p a) hu.1 (fun v hv => ?_) joinW_len
      rcases (hu.2 v).1 hv with hv | hv
      · exact h2 v hv
      · exact (aVars_mem.1 hv).2
  obtain ⟨h1, h2, h3⟩ := key ((adLs d (appP d x) (norP d x) x.name k q.atoms).take i) (fun a ha v hv => by
    obtain ⟨m, hm, rfl⟩ := List.getElem_of_mem (List.mem_of_mem_take ha)
    simp only [adLs, List.length_mapIdx] at hm
    simp only [adLs, List.getElem_mapIdx] at hv
    have := h.qf.vin _ (List.getElem_mem hm) v hv; have := h.qf.n5; omega) ([], [([], 1)]) .nil (by simp) (by simp)
  exact ⟨pw_len5 h1 h2, h3, h1, h2⟩
def wkW (as : List (List Int × List (List Int × Int))) (vs row : List Int) (c : Int) (t : List Int × Int) : List (List Int × Int) := match asgO row (vs.zip t.1) with
  | none => []
  | some x => walkW as x (c * t.2)
theorem walkW_cons (a : List Int × List (List Int × Int)) (as : List (List Int × List (List Int × Int))) (row : List Int) (c : Int) : walkW (a :: as) row c = a.2.flatMap (wkW as a.1 row c) := by
  rw [walkW]; rfl
theorem flatMap_succ' {α β : Type} {f : α -> List β} {l : List α} {i : Nat} (h : i < l.length) : (l.take (i + 1)).flatMap f = (l.take i).flatMap f ++ f l[i] := flatMap_succ h
theorem walkW_le {as : List (List Int × List (List Int × Int))} (h4 : as.length <= 4) (h : ∀ a ∈ as, a.2.length <= 32) (x : List Int) (c : Int) : (walkW as x c).length <= 1048576 :=
  Nat.le_trans (walkW_size as x c) (fold_small 4 as h4 (by omega) h)
theorem wkW_le {as : List (List Int × List (List Int × Int))} (h4 : as.length <= 4) (h : ∀ a ∈ as, a.2.length <= 32) (vs row : List Int) (c : Int) (t : List Int × Int) : (wkW as vs row c t).length <= 1048576 := by
  rw [wkW]
  split
  · simp
  · exact walkW_le h4 h _ _
theorem wkW_all {as : List (List Int × List (List Int × Int))} (h4 : as.length <= 4) (h : ∀ a ∈ as, a.2.length <= 32) (vs row : List Int) (c : Int) : ∀ ts : List (List Int × Int), (ts.flatMap (wkW as vs row c)).length <= ts.length * 1048576
  | [] => by simp
  | t :: ts => by
    have := wkW_all h4 h vs row c ts
    have := wkW_le h4 h vs row c t
    rw [List.flatMap_cons, List.length_append, List.length_cons]; omega
theorem TalI.bd2 {a b : PCnt} {B h : Nat} {p : Nat × Cnt} (t : TalI a b B p h) (hs : Srt a.rows) (ha : a.cs.length = a.rows.length) (hb : b.cs.length = b.rows.length) (h1 : a.rows.length <= 4000) (h2 : b.rows.length <= 200000)
    (h3 : ∀ c ∈ a.cs, -1000000 <= c /\ c <= 1000000) (h4 : ∀ c ∈ b.cs, -1000000 <= c /\ c <= 1000000) :
    p.2.rows.xs.length <= 204000 /\ p.2.cs.xs.length = p.2.rows.xs.length /\ ∀ v ∈ p.2.cs.xs, -1000000000000 <= v /\ v <= 1000000000000 := by
  have hl : (b.cs.take p.1).length = (b.rows.take p.1).length := by simp [hb]
  have e1 := (fold_srt (b.rows.take p.1) a.rows hs).2.2
  have e2 := (talC_spec (b.rows.take p.1) (b.cs.take p.1) a.rows a.cs ha hl).1
  rw [<- t.rows] at e1 e2
  rw [<- t.cs] at e2
  have e3 : (b.rows.take p.1).length <= 200000 := by rw [List.length_take]; omega
  have f1 : (plCnt p.2).rows.length = p.2.rows.xs.length := by simp [plCnt, plS]
  have f2 : (plCnt p.2).cs = p.2.cs.xs := by simp [plCnt, plS, map_plI]
  rw [f2] at e2
  refine ⟨by omega, by omega, fun v hv => ?_⟩
  have hv' : v ∈ talC a.rows a.cs (b.rows.take p.1) (b.cs.take p.1) := by rw [<- t.cs, f2]; exact hv
  have := tal_bd (M := 1000000) (by omega) hs ha hl h3 (fun c hc => h4 c (List.mem_of_mem_take hc)) v hv'
  omega
theorem erLL_app : ∀ (a b : List (List D)), erLL (a ++ b) = erLL a ++ erLL b
  | [], b => by simp [erLL]
  | x :: a, b => by simp only [List.cons_append, erLL, erLL_app a b]
theorem erLL_pl : ∀ l : List (List Int), l.map (cP cI) = erLL (l.map (cP cI))
  | [] => rfl
  | x :: l => by
    have := erLL_pl l
    simp only [List.map_cons, erLL]
    rw [<- this]; rfl
end Go.Vs
namespace Go.Vs
def wAs (q : PQuery) (RS : List (List (List Int))) (CS : List (List Int)) : List (List Int × List (List Int × Int)) := (q.atoms.zip (RS.zip CS)).map fun p => (p.1.vars, p.2.1.zip p.2.2)
structure WkOk (q : PQuery) (RS : List (List (List Int))) (CS : List (List Int)) (nn : Nat) : Prop where
  a4 : q.atoms.length <= 4
  rl : RS.length = q.atoms.length
  cl : CS.length = q.atoms.length
  len : ∀ i (h : i < q.atoms.length), (CS[i]'(by omega)).length = (RS[i]'(by omega)).length /\ (RS[i]'(by omega)).length <= 32 /\ ∀ t ∈ RS[i]'(by omega), t.length = q.atoms[i].vars.length
  vs : ∀ a ∈ q.atoms, a.vars.length <= 5 /\ ∀ v ∈ a.vars, 0 <= v /\ v < nn
  sg : ∀ C ∈ CS, ∀ c ∈ C, c = 1 \/ c = -1
  n5 : nn <= 5
theorem wAs_len {q : PQuery} {RS : List (List (List Int))} {CS : List (List Int)} {nn : Nat} (h : WkOk q RS CS nn) : (wAs q RS CS).length = q.atoms.length := by
  simp [wAs, h.rl, h.cl]
theorem wAs_get {q : PQuery} {RS : List (List (List Int))} {CS : List (List Int)} {nn : Nat} (h : WkOk q RS CS nn) {i : Nat} (hi : i < q.atoms.length) :
    (wAs q RS CS)[i]'(by rw [wAs_len h]; exact hi) = (q.atoms[i].vars, (RS[i]'(by have := h.rl; omega)).zip (CS[i]'(by have := h.cl; omega))) := by
  simp [wAs]
theorem wAs_drop {q : PQuery} {RS : List (List (List Int))} {CS : List (List Int)} {nn : Nat} (h : WkOk q RS CS nn) {i : Nat} (hi : i < q.atoms.length) :
    (wAs q RS CS).drop i = (q.atoms[i].vars, (RS[i]'(by have := h.rl; omega)).zip (CS[i]'(by have := h.cl; omega))) :: (wAs q RS CS).drop (i + 1) := by
  rw [List.drop_eq_getElem_cons (by rw [wAs_len h]; exact hi), wAs_get h hi]
theorem wAs_small {q : PQuery} {RS : List (List (List Int))} {CS : List (List Int)} {nn : Nat} (h : WkOk q RS CS nn) : ∀ a ∈ wAs q RS CS, a.2.length <= 32 := fun a ha => by
  obtain ⟨i, hi, rfl⟩ := List.getElem_of_mem ha
  have hi' : i < q.atoms.length := by rw [<- wAs_len h]; exact hi
  rw [wAs_get h hi', List.length_zip]
  have := (h.len i hi').2.1
  omega
theorem wAs_d4 {q : PQuery} {RS : List (List (List Int))} {CS : List (List Int)} {nn : Nat} (h : WkOk q RS CS nn) (i : Nat) : ((wAs q RS CS).drop i).length <= 4 := by
  rw [List.length_drop, wAs_len h]; have := h.a4; omega
theorem wAs_dsm {q : PQuery} {RS : List (List (List Int))} {CS : List (List Int)} {nn : Nat} (h : WkOk q RS CS nn) (i : Nat) : ∀ a ∈ (wAs q RS CS).drop i, a.2.length <= 32 := fun a ha => wAs_small h a (List.mem_of_mem_drop ha)
theorem zip_at {α β : Type} {a : List α} {b : List β} {i : Nat} (h1 : i < a.length) (h2 : i < b.length) : (a.zip b)[i]'(by simp; omega) = (a[i], b[i]) := by simp
def adRS (d e : PDb) (y : PDelta) (nm : List UInt8) (k : Nat) (l : List PAtom) : List (List (List Int)) := (adTs d e y nm k l).map fun a => a.2.map Prod.fst
def adCS (d e : PDb) (y : PDelta) (nm : List UInt8) (k : Nat) (l : List PAtom) : List (List Int) := (adTs d e y nm k l).map fun a => a.2.map Prod.snd
theorem zip_unzip {α β : Type} : ∀ l : List (α × β), (l.map Prod.fst).zip (l.map Prod.snd) = l
  | [] => rfl
  | p :: l => by simp [zip_unzip l]
theorem ad_wAs (d e : PDb) (y : PDelta) (nm : List UInt8) (k : Nat) (q : PQuery) : wAs q (adRS d e y nm k q.atoms) (adCS d e y nm k q.atoms) = adTs d e y nm k q.atoms := by
  refine List.ext_getElem (by simp [wAs, adRS, adCS, adTs]) fun i h1 h2 => ?_
  simp [wAs, adRS, adCS, adTs, zip_unzip]
theorem ad_wk {d : PDb} {q : PQuery} {x : PDelta} (h : Ad d q x) (k : Nat) : WkOk q (adRS d (appP d x) (norP d x) x.name k q.atoms) (adCS d (appP d x) (norP d x) x.name k q.atoms) q.n.toNat := by
  refine ⟨h.qf.a4.2, by simp [adRS, adTs], by simp [adCS, adTs], fun i hi => ?_, fun a ha => ⟨(h.qf.vlen a ha).2, fun v hv => by have := h.qf.vin a ha v hv; omega⟩, fun C hC c hc => ?_, by have := h.qf.n5; omega⟩
  · simp only [adRS, adCS, adTs, List.getElem_map, List.getElem_mapIdx, List.length_map]
    refine ⟨trivial, ?_, fun t ht => (ad_tup h k i (List.getElem_mem hi) t ht).1⟩
    have := adT_len h k i (List.getElem_mem hi)
    split at this <;> omega
  · simp only [adCS, adTs, List.mem_map] at hC
    obtain ⟨a, ha, rfl⟩ := hC
    obtain ⟨i, hi, rfl⟩ := List.getElem_of_mem ha
    simp only [List.getElem_mapIdx] at hc
    obtain ⟨p, hp, rfl⟩ := List.mem_map.1 hc
    exact sg_adT h k i _ p hp
theorem adRS_len (d e : PDb) (y : PDelta) (nm : List UInt8) (k : Nat) (l : List PAtom) : (adRS d e y nm k l).length = l.length := by simp [adRS, adTs]
theorem adCS_len (d e : PDb) (y : PDelta) (nm : List UInt8) (k : Nat) (l : List PAtom) : (adCS d e y nm k l).length = l.length := by simp [adCS, adTs]
theorem adRS_succ {d e : PDb} {y : PDelta} {nm : List UInt8} {k : Nat} {l : List PAtom} {i : Nat} (h : i < l.length) : (adRS d e y nm k l).take (i + 1) = (adRS d e y nm k l).take i ++ [(adT d e y nm k i l[i]).map Prod.fst] := by
  rw [List.take_succ_eq_append_getElem (by rw [adRS_len]; exact h)]
  simp [adRS, adTs]
theorem adCS_succ {d e : PDb} {y : PDelta} {nm : List UInt8} {k : Nat} {l : List PAtom} {i : Nat} (h : i < l.length) : (adCS d e y nm k l).take (i + 1) = (adCS d e y nm k l).take i ++ [(adT d e y nm k i l[i]).map Prod.snd] := by
  rw [List.take_succ_eq_append_getElem (by rw [adCS_len]; exact h)]
  simp [adCS, adTs]
theorem ones_snd (l : List (List Int)) : (ones l).map Prod.snd = List.replicate l.length 1 := by
  rw [ones, List.map_map]
  induction l with
  | nil => rfl
  | cons x l ih => rw [List.map_cons, ih]; rfl
theorem tup_c {d : PDb} {x : PDelta} (h : appB d x = true) : ((adZ (norP d x)).rows.zip (adZ (norP d x)).cs).map Prod.snd = (adZ (norP d x)).cs :=
  List.map_snd_zip (by rw [(cz_ok (ad_z h).2.2.2).len]; exact Nat.le_refl _)
theorem lead_rowE {σ : St} (k : Nat) {T sz : Nat} {es : List (List D)} (hm : σ.m k = some (.row T sz es)) : Lead (fun σ' => σ' = { σ with m := upd σ.m k (some (.row T sz (erLL es))) }) σ := by
  intro A0 N w0 ρ a w h
  refine ⟨_, ρ, h.setBlk (b' := .row T sz (erLL es)) hm rfl h.below (Nat.le_refl _) (fun _ _ => rfl) (fun j => ?_) (fun hS _ => ?_), rfl⟩
  · unfold KC
    by_cases hj : j = k
    · subst hj
      simp only [upd, if_true]
      exact ⟨trivial, T, es, hm, by rw [erLL_len]; exact Nat.le_refl _⟩
    · simp only [upd, if_neg hj]
      cases hb : σ.m j with
      | none => trivial
      | some b => cases b with
        | box cs => exact ⟨trivial, cs, rfl⟩
        | row T' sz' es' => exact ⟨trivial, T', es', rfl, Nat.le_refl _⟩
  · have hb := h.mem k _ hm
    simp only [BlkR] at hb ⊢
    refine ⟨hb.1, ?_⟩
    cases hr : ρ k with
    | none =>
      rw [hr] at hb
      have := hb.2
      simp only at this
      subst this
      simp [erLL]
    | some p =>
      obtain ⟨g, cap⟩ := p
      rw [hr] at hb
      obtain ⟨_, h1, h2, h3, cur, h4, h5, h6⟩ := hb
      refine ⟨h1, h2, by rw [erLL_len]; exact h3, cur, h4, h5, fun i e he => ?_⟩
      obtain ⟨e0, he0, rfl⟩ := erLL_get es i e he
      obtain ⟨h7, h8⟩ := h6 i e0 he0
      refine ⟨by rw [erL_len]; exact h7, fun j u hu => ?_⟩
      obtain ⟨u0, hu0, rfl⟩ := erL_get e0 j u hu
      obtain ⟨v, hv, hd⟩ := h8 j u0 hu0
      exact ⟨v, hv, (hd.mono (fun g hg => hS g hg) (fun _ _ => rfl)).er⟩
theorem pn_LLI : ∀ l : List Int, pnLL (l.map cI) = true
  | [] => rfl
  | x :: l => by simp only [List.map_cons, pnLL, pn_LLI l]; rfl
theorem pn_pS1 (l : List Int) : (pS cI l).pn = true := pn_LLI l
theorem pn_LLS : ∀ l : List (List Int), pnLL (l.map (cP cI)) = true
  | [] => rfl
  | x :: l => by
    simp only [List.map_cons, pnLL, pn_LLS l, Bool.and_true, cP, pnL]
    exact pn_pS1 x
theorem pn_pS2 (l : List (List Int)) : (pS (cP cI) l).pn = true := pn_LLS l
theorem LR.trk {ρ : Nat -> Option (Nat × Nat)} {m : Nat -> Option Blk} {S : Nat -> Prop} {w : World} : ∀ (l : List D) (vs : List Value), pnL l = true -> LR ρ m S w (l.map V.d) vs -> ∃ es, LR ρ m S w (es.map V.d) vs /\ erL es = l /\ tkL es = true /\ ∀ i ∈ idsL es, S i
  | [], [], _, _ => ⟨[], by simp [LR], rfl, rfl, by simp [idsL]⟩
  | [], _ :: _, _, h => by simp [LR] at h
  | _ :: _, [], _, h => by simp [LR] at h
  | x :: l, v :: vs, hp, h => by
    simp only [pnL, Bool.and_eq_true] at hp
    simp only [List.map_cons, LR, VR] at h
    obtain ⟨y, h1, h2, h3⟩ := h.1.track hp.1
    obtain ⟨es, g1, g2, g3, g4⟩ := LR.trk l vs hp.2 h.2
    refine ⟨y :: es, by simp only [List.map_cons, LR, VR]; exact ⟨h1, g1⟩, by rw [erL, h2, g2], by rw [tkL, h3, g3]; rfl, fun i hi => ?_⟩
    simp only [idsL, List.mem_append] at hi
    rcases hi with hi | hi
    · exact h1.ids i hi
    · exact g4 i hi
theorem lead_track {σ : St} (s : Nat) {x : D} (hs : σ.t s = .d x) (hp : x.pn = true) :
    Lead (fun σ' => ∃ y hs', σ.hs <= hs' /\ y.er = x /\ y.tk = true /\ (∀ i ∈ y.ids, i < hs') /\ σ' = { σ with hs := hs', t := upd σ.t s (.d y) }) σ := by
  intro A0 N w0 ρ a w h0
  have h := h0.hs_
  have hv := h.tmps s
  rw [show (({ σ with hs := w.heap.size } : St)).t s = .d x from hs] at hv
  simp only [VR] at hv
  obtain ⟨y, h1, h2, h3⟩ := hv.track hp
  refine ⟨{ σ with hs := w.heap.size, t := upd σ.t s (.d y) }, ρ, ⟨h.below, h.hN, h.key, h.norow, h.hG, h.hB, h.hs, h.hs0, h.defers, h.size, fun i => ?_, h.mem, h.inj⟩, y, w.heap.size, h0.hs, h2, h3, fun i hi => (h1.ids i hi).2.1, rfl⟩
  simp only [upd]
  split
  · rename_i hi
    subst hi
    simp only [VR]
    exact h1
  · exact h.tmps i
theorem lead_trackB {σ : St} (k : Nat) {l : List D} (hm : σ.m k = some (.box (l.map V.d))) (hp : pnL l = true) :
    Lead (fun σ' => ∃ es hs', σ.hs <= hs' /\ erL es = l /\ tkL es = true /\ (∀ i ∈ idsL es, i < hs') /\ σ' = { σ with hs := hs', m := upd σ.m k (some (.box (es.map V.d))) }) σ := by
  intro A0 N w0 ρ a w h0
  have h := h0.hs_
  have hm' : (({ σ with hs := w.heap.size } : St)).m k = some (.box (l.map V.d)) := hm
  obtain ⟨g, cap, hr, hB, cur, T, hc, hl⟩ := h.mem k _ hm'
  obtain ⟨es, g1, g2, g3, g4⟩ := LR.trk l _ hp hl
  refine ⟨_, ρ, h.setBlk (b' := .box (es.map V.d)) hm' rfl h.below (Nat.le_refl _) (fun _ _ => rfl) (fun j => ?_) (fun hS hw => ?_), es, w.heap.size, h0.hs, g2, g3, fun i hi => (g4 i hi).2.1, rfl⟩
  · unfold KC
    by_cases hj : j = k
    · subst hj
      simp only [upd, if_true]
      exact ⟨trivial, _, hm⟩
    · simp only [upd, if_neg hj]
      cases hb : σ.m j with
      | none => trivial
      | some b => cases b with
        | box cs => exact ⟨trivial, cs, rfl⟩
        | row T' sz' es' => exact ⟨trivial, T', es', rfl, Nat.le_refl _⟩
  · refine ⟨g, cap, hr, hB, cur, T, hc, ?_⟩
    refine LR.mono hS hw (fun j => ?_) _ _ g1
    unfold KC
    by_cases hj : j = k
    · subst hj
      simp only [upd, if_true]
      exact ⟨trivial, _, hm⟩
    · simp only [upd, if_neg hj]
      cases hb : σ.m j with
      | none => trivial
      | some b => cases b with
        | box cs => exact ⟨trivial, cs, rfl⟩
        | row T' sz' es' => exact ⟨trivial, T', es', rfl, Nat.le_refl _⟩
def lstB (b : UInt8) : List Int := (rangeI 5).filter fun v => decide (varNm v = [b])
def lstV (s : List UInt8) : List Int := s.flatMap lstB
theorem lstV_step {s : List UInt8} {i : Nat} (h : i < s.length) : lstV (s.take (i + 1)) = lstV (s.take i) ++ lstB s[i] := by
  unfold lstV
  rw [List.take_succ_eq_append_getElem h, List.flatMap_append]
  simp only [List.flatMap_cons, List.flatMap_nil, List.append_nil]
theorem lstB_len (b : UInt8) : (lstB b).length <= 5 := by
  have := List.length_filter_le (fun v => decide (varNm v = [b])) (rangeI 5)
  rw [rangeI_length] at this
  exact this
theorem lstV_len (s : List UInt8) : (lstV s).length <= 5 * s.length := by
  induction s with
  | nil => simp [lstV]
  | cons a r ih =>
    have := lstB_len a
    simp only [lstV, List.flatMap_cons, List.length_append, List.length_cons] at ih ⊢; omega
def lstT (b : UInt8) (j : Nat) : List Int := (rangeI j).filter fun v => decide (varNm v = [b])
theorem lstT_succ (b : UInt8) (j : Nat) : lstT b (j + 1) = lstT b j ++ if varNm j = [b] then [(j : Int)] else [] := by
  rw [lstT, rangeI_succ, List.filter_append, lstT]
  congr 1
  by_cases e : varNm j = [b] <;> simp [e]
theorem lstT_len (b : UInt8) (j : Nat) : (lstT b j).length <= j := by
  have := List.length_filter_le (fun v => decide (varNm v = [b])) (rangeI j)
  rw [rangeI_length] at this
  exact this
def vcK (b : UInt8) : Nat -> Int -> Int -> Int
  | 0, _, cur => cur
  | k + 1, v, cur => if v < 5 then vcK b k (v + 1) (if varNm v = [b] then v + 1 else cur) else cur
theorem vcK_fuel (b : UInt8) : ∀ (k k' : Nat) (v cur : Int), 5 - v <= k -> 5 - v <= k' -> vcK b k v cur = vcK b k' v cur
  | 0, 0, _, _, _, _ => rfl
  | 0, k' + 1, v, cur, h, _ => by rw [vcK, vcK, if_neg (by omega)]
  | k + 1, 0, v, cur, _, h => by rw [vcK, vcK, if_neg (by omega)]
  | k + 1, k' + 1, v, cur, h, h' => by
    rw [vcK, vcK]
    split
    · exact vcK_fuel b k k' _ _ (by omega) (by omega)
    · rfl
theorem vcK_in (b : UInt8) : ∀ (k : Nat) (v cur : Int), 0 <= v -> 0 <= cur /\ cur <= 5 -> 0 <= vcK b k v cur /\ vcK b k v cur <= 5
  | 0, _, _, _, h => h
  | k + 1, v, cur, hv, h => by
    rw [vcK]
    split
    · refine vcK_in b k _ _ (by omega) ?_
      split <;> omega
    · exact h
def vcB (n : Int) (b : UInt8) : Int := vcK b 5 n n
structure VcI (b : UInt8) (n : Int) (v cur : Int) : Prop where
  le : 0 <= v /\ v <= 5
  inR5 : 0 <= cur /\ cur <= 5
  eq : vcK b 5 v cur = vcB n b
theorem VcI.zero {b : UInt8} {n : Int} (h : 0 <= n /\ n <= 5) : VcI b n n n := ⟨h, h, rfl⟩
theorem VcI.step {b : UInt8} {n v cur : Int} (h : VcI b n v cur) (hv : v < 5) : VcI b n (v + 1) (if varNm v = [b] then v + 1 else cur) := by
  have h1 := h.le
  have h2 := h.inR5
  refine ⟨by omega, by split <;> omega, ?_⟩
  have := h.eq
  rw [vcK, if_pos hv, vcK_fuel b 4 5 _ _ (by omega) (by omega)] at this
  exact this
theorem VcI.done {b : UInt8} {n v cur : Int} (h : VcI b n v cur) (hv : ¬ v < 5) : vcB n b = cur := by
  have := h.eq
  rw [vcK, if_neg hv] at this
  exact this.symm
theorem vcB_in {n : Int} (b : UInt8) (h : 0 <= n /\ n <= 5) : 0 <= vcB n b /\ vcB n b <= 5 := vcK_in b 5 n n h.1 h
def vcS (n : Int) (s : List UInt8) : Int := s.foldl vcB n
theorem vcS_step {n : Int} {s : List UInt8} {i : Nat} (h : i < s.length) : vcS n (s.take (i + 1)) = vcB (vcS n (s.take i)) s[i] := by
  rw [List.take_succ_eq_append_getElem h, vcS, List.foldl_append]; rfl
theorem vcS_in : ∀ (s : List UInt8) {n : Int}, 0 <= n /\ n <= 5 -> 0 <= vcS n s /\ vcS n s <= 5
  | [], _, h => h
  | b :: s, _, h => vcS_in s (vcB_in b h)
def prsM (l : List (List UInt8)) : Int := l.foldl vcS 0
theorem prsM_step {l : List (List UInt8)} {i : Nat} (h : i < l.length) : prsM (l.take (i + 1)) = vcS (prsM (l.take i)) l[i] := by
  rw [List.take_succ_eq_append_getElem h, prsM, List.foldl_append]; rfl
theorem prsM_in (l : List (List UInt8)) : 0 <= prsM l /\ prsM l <= 5 := by
  have : ∀ (l : List (List UInt8)) (n : Int), 0 <= n /\ n <= 5 -> 0 <= l.foldl vcS n /\ l.foldl vcS n <= 5 := fun l => by
    induction l with
    | nil => exact fun _ h => h
    | cons a r ih => exact fun n h => ih _ (vcS_in a h)
  exact this l 0 (by omega)
def prsA (s : List UInt8) : PAtom := ⟨(cutB 40 s).getD 0 [], lstV s⟩
def prsC (s : List UInt8) : PQuery := ⟨prsM (cutB 44 ((cutB 61 s).getD 1 [])), (cutB 44 ((cutB 61 s).getD 1 [])).map prsA, lstV ((cutB 61 s).getD 0 [])⟩
def fmtA (a : PAtom) : List UInt8 := a.rel ++ ([40] ++ varsS a.vars ++ [41])
def fmtQ (q : PQuery) : List UInt8 := if queryOk q then ([40] ++ varsS q.out ++ [41]) ++ [61] ++ joinB [44] (q.atoms.map fmtA) else []
def prsB' (s : List UInt8) : Bool := decide ((cutB 61 s).length = 2) && decide (fmtQ (prsC s) = s) && decide (s ≠ [])
def prsP (s : List UInt8) : PQuery := if prsB' s then prsC s else ⟨0, [], []⟩
theorem qok_small {q : PQuery} (h : queryOk q = true) : q.atoms.length <= 4 /\ q.out.length <= 5 /\ ∀ a ∈ q.atoms, a.rel.length <= 4 /\ a.vars.length <= 5 := by
  have hn := queryOk_n5 h
  simp only [queryOk, Bool.and_eq_true, inR, decide_eq_true_eq, List.all_eq_true] at h
  obtain ⟨⟨⟨⟨_, ha⟩, ho⟩, hat⟩, _⟩ := h
  refine ⟨by omega, ?_, fun a hm => ?_⟩
  · simp only [setOf, Bool.and_eq_true, decide_eq_true_eq, List.all_eq_true] at ho
    refine nodup_len 5 q.out ho.2 fun x hx => ?_
    have := ho.1 x hx
    rw [wrap64_of (by omega) (by omega)] at this
    simp only [inR, Bool.and_eq_true, decide_eq_true_eq] at this
    omega
  · have := hat a hm
    simp only [atomOk, nameOk, Bool.and_eq_true, inR, decide_eq_true_eq] at this
    exact ⟨by omega, by omega⟩
def knownQ : List (List UInt8) := [[40, 88, 89, 90, 41, 61, 114, 40, 88, 89, 41, 44, 115, 40, 89, 90, 41, 44, 116, 40, 90, 88, 41],
  [40, 88, 89, 90, 85, 41, 61, 114, 40, 88, 89, 41, 44, 115, 40, 89, 90, 41, 44, 116, 40, 90, 85, 41, 44, 117, 40, 85, 88, 41],
  [40, 88, 89, 90, 41, 61, 114, 40, 88, 89, 41, 44, 115, 40, 89, 90, 41],
  [40, 88, 41, 61, 114, 40, 88, 89, 41, 44, 115, 40, 89, 90, 41, 44, 116, 40, 90, 85, 41],
  [40, 88, 89, 90, 41, 61, 118, 40, 88, 89, 90, 41, 44, 114, 40, 88, 89, 41],
  [40, 88, 89, 41, 61, 114, 40, 88, 89, 41, 44, 114, 40, 89, 88, 41],
  [40, 88, 89, 90, 85, 41, 61, 118, 40, 88, 89, 90, 41, 44, 115, 40, 90, 85, 41, 44, 116, 40, 85, 88, 41],
  [40, 88, 41, 61, 114, 40, 88, 88, 41],
  [40, 88, 89, 41, 61, 114, 40, 88, 90, 41, 44, 115, 40, 90, 89, 41, 44, 114, 40, 88, 85, 41, 44, 115, 40, 85, 89, 41],
  [40, 41, 61, 114, 40, 88, 89, 41, 44, 115, 40, 89, 88, 41],
  [40, 88, 89, 90, 85, 86, 41, 61, 114, 40, 88, 89, 41, 44, 115, 40, 89, 90, 41, 44, 116, 40, 90, 85, 41, 44, 117, 40, 85, 86, 41]]
def pathQ : PQuery := ⟨5, [⟨[114], [0, 1]⟩, ⟨[115], [1, 2]⟩, ⟨[116], [2, 3]⟩, ⟨[117], [3, 4]⟩], [0, 1, 2, 3, 4]⟩
def smallQ (q : PQuery) : Prop := q.n <= 4 \/ q = pathQ
theorem known_len : ∀ s ∈ knownQ, s.length <= 40 := by decide
theorem known_small : ∀ s ∈ knownQ, smallQ (prsP s) := by
  have h : (knownQ.all fun s => decide ((prsP s).n <= 4) || decide (prsP s = pathQ)) = true := by decide +kernel
  intro s hs
  have := List.all_eq_true.1 h s hs
  simpa [smallQ] using this
theorem known_ok : ∀ s ∈ knownQ, queryOk (prsP s) = true := by
  have h : (knownQ.all fun s => queryOk (prsP s)) = true := by decide +kernel
  exact List.all_eq_true.1 h
structure QA (q : PQuery) : Prop where
  sm : queryOk q = true -> smallQ q
  al : q.atoms.length <= 10
  ol : q.out.length <= 10
  aa : ∀ a ∈ q.atoms, a.rel.length <= 10 /\ a.vars.length <= 10
theorem QA.of {q : PQuery} (h : queryOk q = true) (hs : smallQ q) : QA q := by
  have := qok_small h
  exact ⟨fun _ => hs, by omega, by omega, fun a ha => by have := this.2.2 a ha; omega⟩
theorem qok_vars {q : PQuery} (h : queryOk q = true) : (∀ a ∈ q.atoms, 1 <= a.vars.length /\ ∀ v ∈ a.vars, 0 <= v /\ v < q.n) /\ (∀ j : Int, 0 <= j -> j < q.n -> j ∈ varsIn q.atoms) /\ 1 <= q.atoms.length := by
  have hn := queryOk_n5 h
  simp only [queryOk, Bool.and_eq_true, inR, decide_eq_true_eq, List.all_eq_true] at h
  obtain ⟨⟨⟨⟨_, ha⟩, _⟩, hat⟩, hu⟩ := h
  refine ⟨fun a hm => ?_, fun j hj0 hj => ?_, by omega⟩
  · have := hat a hm
    simp only [atomOk, Bool.and_eq_true, List.all_eq_true, inR, decide_eq_true_eq] at this
    refine ⟨by omega, fun v hv => ?_⟩
    have h2 := this.2 v hv
    rw [wrap64_of (by omega) (by omega)] at h2
    omega
  · simp only [usesAll, List.all_eq_true, List.mem_range, List.contains_iff_mem] at hu
    have := hu j.toNat (by omega)
    rwa [Int.toNat_of_nonneg hj0] at this
theorem QA.n {q : PQuery} (h : queryOk q = true) {m : Int} (hm : m ∈ [0, 6, q.n + 1]) : QA ⟨m, q.atoms, q.out⟩ := by
  have := qok_small h
  have hv := qok_vars h
  have hn := queryOk_n5 h
  refine ⟨fun hk => ?_, by simp only; omega, by simp only; omega, fun a ha => by have := this.2.2 a ha; omega⟩
  have hn2 := queryOk_n5 hk
  have hv2 := (qok_vars hk).2.1
  simp only at hn2 hv2
  simp only [List.mem_cons, List.not_mem_nil, or_false] at hm
  have e : m = q.n + 1 := by omega
  subst e
  have h3 := hv2 q.n (by omega) (by omega)
  simp only [varsIn, List.mem_flatMap] at h3
  obtain ⟨a, ha, hva⟩ := h3
  have := (hv.1 a ha).2 q.n hva
  omega
theorem QA.atom {q : PQuery} (h : queryOk q = true) (hs : smallQ q) {nm : List UInt8} (hl : nm.length <= 10) : QA ⟨q.n, q.atoms ++ [⟨nm, [0]⟩], q.out⟩ := by
  have := qok_small h
  refine ⟨fun hk => ?_, by simp; omega, by simp only; omega, fun a ha => ?_⟩
  · rcases hs with hs | rfl
    · exact .inl hs
    · have := (qok_small hk).1
      simp [pathQ] at this
  · rcases List.mem_append.1 ha with ha | ha
    · have := this.2.2 a ha; omega
    · rw [List.mem_singleton.1 ha]; exact ⟨hl, by simp⟩
theorem QA.out {q : PQuery} (h : queryOk q = true) (hs : smallQ q) {v : Int} : QA ⟨q.n, q.atoms, q.out ++ [v]⟩ := by
  have := qok_small h
  refine ⟨fun hk => ?_, by simp only; omega, by simp; omega, fun a ha => by have := this.2.2 a ha; omega⟩
  rcases hs with hs | rfl
  · exact .inl hs
  · have := (qok_small hk).2.1
    simp [pathQ] at this
theorem QA.set {n : Int} {a a' : PAtom} {l : List PAtom} {o : List Int} (h : queryOk ⟨n, a :: l, o⟩ = true) (hs : smallQ ⟨n, a :: l, o⟩) (hr : a'.rel = a.rel) (hv : a'.vars.length <= a.vars.length) (hbad : a'.vars = [] \/ (∃ v ∈ a'.vars, v < 0 \/ 5 <= v)) : QA ⟨n, a' :: l, o⟩ := by
  have := qok_small h
  simp only [List.length_cons] at this
  refine ⟨fun hk => ?_, by simp only [List.length_cons]; omega, by simp only; omega, fun x hx => ?_⟩
  · have hn := queryOk_n5 hk
    have h2 := (qok_vars hk).1 a' (by simp)
    simp only at hn h2
    rcases hbad with hb | ⟨v, hm, hb⟩
    · rw [hb] at h2; simp at h2
    · have := h2.2 v hm; omega
  · rcases List.mem_cons.1 hx with hx | hx
    · have := this.2.2 a (by simp)
      rw [hx, hr]; omega
    · have := this.2.2 x (by simp [hx]); omega
def prodA (f : PAtom -> Int) (l : List PAtom) : Int := l.foldr (fun a n => f a * n) 1
def tele (f g : PAtom -> Int) : Nat -> List PAtom -> Int
  | _, [] => 0
  | 0, a :: r => (f a - g a) * prodA g r
  | k + 1, a :: r => f a * tele f g k r
def sumN (h : Nat -> Int) : Nat -> Int
  | 0 => 0
  | n + 1 => sumN h n + h n
theorem sumN_shift (h : Nat -> Int) : ∀ n, sumN h (n + 1) = h 0 + sumN (fun k => h (k + 1)) n
  | 0 => by simp [sumN]
  | n + 1 => by rw [sumN, sumN_shift h n, sumN]; omega
theorem sumN_mul (c : Int) (h : Nat -> Int) : ∀ n, sumN (fun k => c * h k) n = c * sumN h n
  | 0 => by simp [sumN]
  | n + 1 => by rw [sumN, sumN_mul c h n, sumN, Int.mul_add]
theorem sumN_congr {h h' : Nat -> Int} : ∀ {n : Nat}, (∀ k, k < n -> h k = h' k) -> sumN h n = sumN h' n
  | 0, _ => rfl
  | n + 1, e => by rw [sumN, sumN, sumN_congr (n := n) fun k hk => e k (by omega), e n (by omega)]
theorem tele_sum (f g : PAtom -> Int) : ∀ l : List PAtom, sumN (fun k => tele f g k l) l.length = prodA f l - prodA g l
  | [] => by simp [sumN, prodA]
  | a :: r => by
    rw [List.length_cons, sumN_shift]
    simp only [tele]
    rw [sumN_mul, tele_sum f g r]
    simp only [prodA, List.foldr_cons]
    rw [Int.sub_mul, Int.mul_sub]; omega
theorem adT_tele {d e : PDb} {y : PDelta} {nm : List UInt8} {β : Int -> Int} {f g : PAtom -> Int} (hf : ∀ a, f a = sW (ones (lkR e a.rel).rows) (a.vars.map β)) (hg : ∀ a, g a = sW (ones (lkR d a.rel).rows) (a.vars.map β)) :
    ∀ (l : List PAtom) (k : Nat), (∀ a ∈ l, sW (if a.rel = nm then (adZ y).rows.zip (adZ y).cs else []) (a.vars.map β) = f a - g a) -> k < l.length ->
    (adTs d e y nm k l).foldr (fun a n => sW a.2 (a.1.map β) * n) 1 = tele f g k l
  | [], k, _, h => by simp at h
  | a :: r, 0, hz, _ => by
    have e1 : adTs d e y nm 0 (a :: r) = (a.vars, if a.rel = nm then (adZ y).rows.zip (adZ y).cs else []) :: r.map fun a => (a.vars, ones (lkR d a.rel).rows) := by
      rw [adTs, List.mapIdx_cons]
      congr 1
      refine List.ext_getElem (by simp) fun i h1 h2 => by simp [adT]
    rw [e1, List.foldr_cons, tele, hz a (by simp)]
    congr 1
    clear hz
    induction r with
    | nil => rfl
    | cons b s ih =>
      rw [List.map_cons, List.foldr_cons, prodA, List.foldr_cons, hg b]
      exact congrArg _ (ih (by simp) (by
        rw [adTs, List.mapIdx_cons]
        congr 1
        refine List.ext_getElem (by simp) fun i h1 h2 => by simp [adT]))
  | a :: r, k + 1, hz, h => by
    have e1 : adTs d e y nm (k + 1) (a :: r) = (a.vars, ones (lkR e a.rel).rows) :: adTs d e y nm k r := by
      rw [adTs, List.mapIdx_cons, adTs]
      congr 1
      refine List.ext_getElem (by simp) fun i h1 h2 => by simp [adT]
    rw [e1, List.foldr_cons, tele, hf a]
    rw [adT_tele hf hg r k (fun b hb => hz b (List.mem_cons_of_mem _ hb)) (by simpa using h)]
theorem ad_at {d : PDb} {q : PQuery} {x : PDelta} (h : Ad d q x) {a : PAtom} (ha : a ∈ q.atoms) (t : List Int) :
    sW (if a.rel = x.name then (adZ (norP d x)).rows.zip (adZ (norP d x)).cs else []) t = sW (ones (lkR (appP d x) a.rel).rows) t - sW (ones (lkR d a.rel).rows) t := by
  obtain ⟨_, hl1, hl2, hl3⟩ := app_lk (app_db h.app) h.app
  by_cases e : a.rel = x.name
  · rw [if_pos e, sW_zip]
    obtain ⟨_, z1, _, _⟩ := ad_z h.app
    rw [z1 t]
    have n := nor_of h.app
    have s1 := sW_ones (srt_nodup (rowsOk_srt n.ins)) t
    have s2 := sW_ones (srt_nodup (rowsOk_srt n.del)) t
    have s3 := sW_ones (srt_nodup (rowsOk_srt (lk_ok (h.qf.lk a ha)))) t
    have s4 := sW_ones (srt_nodup (rowsOk_srt (lk_ok (h.qe.lk a ha)))) t
    rw [s1, s2, s3, s4, e, hl3]
    have hm := n.mem t
    have h1 := n.one t
    have h2 := n.two t
    by_cases c1 : t ∈ (norP d x).ins.rows
    · have c2 := n.dis t c1
      have c3 := h1 c1
      simp [c1, c2, c3, hm.2 (.inr c1)]
    · by_cases c2 : t ∈ (norP d x).del.rows
      · have c3 := h2 c2
        have c4 : t ∉ (appU d x).rows := fun h => by
          rcases hm.1 h with h | h
          · exact h.2 c2
          · exact c1 h
        simp [c1, c2, c3, c4]
      · by_cases c3 : t ∈ (lkR d x.name).rows
        · simp [c1, c2, c3, hm.2 (.inl ⟨c3, c2⟩)]
        · have c4 : t ∉ (appU d x).rows := fun h => by
            rcases hm.1 h with h | h
            · exact c3 h.1
            · exact c1 h
          simp [c1, c2, c3, c4]
  · rw [if_neg e, hl2 _ e]
    simp [sW]
theorem prod_ind {l : List PAtom} {f : PAtom -> Int} {p : PAtom -> Prop} [DecidablePred p] (h : ∀ a ∈ l, f a = if p a then 1 else 0) : prodA f l = if ∀ a ∈ l, p a then 1 else 0 := by
  induction l with
  | nil => simp [prodA]
  | cons a r ih =>
    have ih := ih fun b hb => h b (List.mem_cons_of_mem _ hb)
    rw [prodA, List.foldr_cons]
    show f a * prodA f r = _
    rw [ih, h a (by simp)]
    by_cases e : p a
    · simp [e]
    · simp [e]
def bds (d : PDb) (q : PQuery) : List (List Int) := srtU (binds d q.atoms).2
theorem bds_prod {d : PDb} {q : PQuery} (f : Qf d q) {z : List Int} (hz : z.length = q.n.toNat) : prodA (fun a => sW (ones (lkR d a.rel).rows) (a.vars.map fun v => z.getD v.toNat 0)) q.atoms = sW (ones (bds d q)) z := by
  show prodA (fun a => sW (ones (lkR d a.rel).rows) (pickR a.vars z)) q.atoms = sW (ones (srtU (binds d q.atoms).2)) z
  rw [prod_ind (p := fun a => pickR a.vars z ∈ (lkR d a.rel).rows) fun a ha => sW_ones (srt_nodup (rowsOk_srt (lk_ok (f.lk a ha)))) _, sW_ones (srt_nodup (srtU_srt _))]
  have := binds_mem f z
  by_cases e : ∀ a ∈ q.atoms, pickR a.vars z ∈ (lkR d a.rel).rows
  · rw [if_pos e, if_pos ((srtU_mem _ _).2 (this.2 ⟨hz, e⟩))]
  · rw [if_neg e, if_neg fun hm => e (this.1 ((srtU_mem _ _).1 hm)).2]
def cat (d : PDb) (q : PQuery) (x : PDelta) : Nat -> List (List Int × Int)
  | 0 => []
  | i + 1 => cat d q x i ++ adJ d q x i
theorem cat_sum (d : PDb) (q : PQuery) (x : PDelta) (z : List Int) : ∀ i, sW (cat d q x i) z = sumN (fun k => sW (adJ d q x k) z) i
  | 0 => rfl
  | i + 1 => by rw [cat, sW_app, cat_sum d q x z i, sumN]
theorem adJ_len {d : PDb} {q : PQuery} {x : PDelta} (h : Ad d q x) (k : Nat) {z : List Int} (hl : z.length ≠ q.n.toNat) : sW (adJ d q x k) z = 0 :=
  sW_none fun hm => hl (ad_row h k hm).1
theorem cat_all {d : PDb} {q : PQuery} {x : PDelta} (h : Ad d q x) (z : List Int) : sW (cat d q x q.atoms.length) z = sW (ones (bds (appP d x) q)) z - sW (ones (bds d q)) z := by
  rw [cat_sum]
  by_cases hl : z.length = q.n.toNat
  · rw [<- bds_prod h.qf hl, <- bds_prod h.qe hl, <- tele_sum]
    refine sumN_congr fun k hk => ?_
    have j := ad_jn h k
    rw [ad_vars h k] at j
    have hs := j.sum fun v => z.getD v.toNat 0
    rw [rangeI_map hl] at hs
    show sW (jdW _).2 z = _
    rw [hs]
    exact adT_tele (f := fun a => sW (ones (lkR (appP d x) a.rel).rows) (a.vars.map fun v => z.getD v.toNat 0)) (g := fun a => sW (ones (lkR d a.rel).rows) (a.vars.map fun v => z.getD v.toNat 0)) (fun _ => rfl) (fun _ => rfl) q.atoms k (fun a ha => ad_at h ha _) hk
  · rw [sumN_congr (h' := fun _ => 0) fun k _ => adJ_len h k hl]
    have z0 : ∀ n, sumN (fun _ => (0 : Int)) n = 0 := fun n => by
      induction n with
      | zero => rfl
      | succ n ih => rw [sumN, ih]; rfl
    have hn : ∀ e : PDb, Qf e q -> sW (ones (bds e q)) z = 0 := fun e f => by
      show sW (ones (srtU (binds e q.atoms).2)) z = 0
      rw [sW_ones (srt_nodup (srtU_srt _)), if_neg fun hm => hl ((binds_mem f z).1 ((srtU_mem _ _).1 hm)).1]
    rw [z0, hn _ h.qe, hn _ h.qf]; rfl
def goodW (v : Int) : Prop := (0 <= v /\ v <= 5) \/ v < 0 \/ 99 <= v
def dmW (r : PReln) : Prop := r.rows.length <= 9 /\ ∀ t ∈ r.rows, ∀ v ∈ t, goodW v
structure Dmn (d : PDb) (x : PDelta) : Prop where
  t : ∀ t ∈ d.tabs, dmW t.rel
  i : dmW x.ins
def doms : List Int := [0, 1, 2, 3, 4, 5, 99]
theorem dom_of {v : Int} (h : goodW v) (hr : 0 <= v /\ v <= 99) : v ∈ doms := by
  simp only [goodW] at h
  have : v = 0 \/ v = 1 \/ v = 2 \/ v = 3 \/ v = 4 \/ v = 5 \/ v = 99 := by omega
  simp only [doms, List.mem_cons, List.not_mem_nil, or_false]; exact this
def allT : Nat -> List (List Int)
  | 0 => [[]]
  | n + 1 => doms.flatMap fun v => (allT n).map (v :: ·)
theorem allT_len : ∀ n, (allT n).length = 7 ^ n
  | 0 => rfl
  | n + 1 => by
    rw [allT, List.length_flatMap]
    simp only [List.length_map, allT_len n, doms]
    simp [Nat.pow_succ]; omega
theorem allT_mem : ∀ {n : Nat} {z : List Int}, z.length = n -> (∀ v ∈ z, v ∈ doms) -> z ∈ allT n
  | 0, [], _, _ => by simp [allT]
  | n + 1, v :: z, hl, hv => by
    rw [allT, List.mem_flatMap]
    exact ⟨v, hv v (by simp), List.mem_map.2 ⟨z, allT_mem (by simpa using hl) fun u hu => hv u (List.mem_cons_of_mem _ hu), rfl⟩⟩
theorem nodup_le {α : Type} [DecidableEq α] : ∀ {l l' : List α}, l.Nodup -> (∀ x ∈ l, x ∈ l') -> l.length <= l'.length
  | [], _, _, _ => by simp
  | a :: l, l', hn, h => by
    obtain ⟨h1, h2⟩ := List.nodup_cons.1 hn
    have ha := h a (by simp)
    have := nodup_le (l := l) (l' := l'.erase a) h2 fun x hx => (List.mem_erase_of_ne fun e => h1 (by rw [<- e]; exact hx)).2 (h x (List.mem_cons_of_mem _ hx))
    rw [List.length_erase_of_mem ha] at this
    have := List.length_pos_of_mem ha
    simp only [List.length_cons]; omega
theorem map_nodup {α β : Type} {f : α -> β} : ∀ {l : List α}, l.Nodup -> (∀ x ∈ l, ∀ y ∈ l, f x = f y -> x = y) -> (l.map f).Nodup
  | [], _, _ => by simp
  | a :: l, hn, h => by
    obtain ⟨h1, h2⟩ := List.nodup_cons.1 hn
    rw [List.map_cons, List.nodup_cons]
    refine ⟨fun hm => ?_, map_nodup h2 fun x hx y hy => h x (List.mem_cons_of_mem _ hx) y (List.mem_cons_of_mem _ hy)⟩
    obtain ⟨b, hb, e⟩ := List.mem_map.1 hm
    have := h b (List.mem_cons_of_mem _ hb) a (by simp) e
    exact h1 (by rw [<- this]; exact hb)
def InU (d : PDb) (q : PQuery) (x : PDelta) (z : List Int) : Prop := z.length = q.n.toNat /\ ∀ a ∈ q.atoms, pickR a.vars z ∈ (lkR d a.rel).rows \/ (a.rel = x.name /\ pickR a.vars z ∈ (norP d x).ins.rows)
theorem inU_e {d : PDb} {q : PQuery} {x : PDelta} (h : Ad d q x) (nm t) (ht : t ∈ (lkR (appP d x) nm).rows) : t ∈ (lkR d nm).rows \/ (nm = x.name /\ t ∈ (norP d x).ins.rows) := by
  obtain ⟨_, hl1, hl2, hl3⟩ := app_lk (app_db h.app) h.app
  by_cases e : nm = x.name
  · rw [e, hl3] at ht
    rcases ((nor_of h.app).mem t).1 ht with h1 | h1
    · rw [e]; exact .inl h1.1
    · exact .inr ⟨e, h1⟩
  · rw [hl2 _ e] at ht; exact .inl ht
theorem inU_adJ {d : PDb} {q : PQuery} {x : PDelta} (h : Ad d q x) {k : Nat} {z : List Int} (hz : z ∈ (adJ d q x k).map Prod.fst) : InU d q x z := by
  have hl := (ad_row h k hz).1
  have j := ad_jn h k
  rw [ad_vars h k] at j
  have hs := j.sup fun v => z.getD v.toNat 0
  rw [rangeI_map hl] at hs
  refine ⟨hl, fun a ha => ?_⟩
  obtain ⟨i, hi, rfl⟩ := List.getElem_of_mem ha
  have h1 := hs.1 hz (q.atoms[i].vars, adT d (appP d x) (norP d x) x.name k i q.atoms[i]) (by
    rw [adTs]
    exact List.mem_iff_getElem.2 ⟨i, by simpa using hi, by simp⟩)
  have h2 : pickR q.atoms[i].vars z ∈ (adT d (appP d x) (norP d x) x.name k i q.atoms[i]).map Prod.fst := h1
  rw [adT] at h2
  split at h2
  · rw [ones_fst] at h2; exact inU_e h _ _ h2
  split at h2
  · rw [ones_fst] at h2; exact .inl h2
  split at h2
  · rename_i hn
    rw [tup_z h.app] at h2
    rcases ((ad_z h.app).2.2.1 _).1 h2 with h3 | h3
    · exact .inr ⟨hn, h3⟩
    · rw [hn]; exact .inl ((nor_of h.app).two _ h3)
  · simp at h2
theorem inU_bds {d : PDb} {q : PQuery} {x : PDelta} (h : Ad d q x) {z : List Int} (hz : z ∈ bds d q) : InU d q x z := by
  have := (binds_mem h.qf z).1 ((srtU_mem _ _).1 hz)
  exact ⟨this.1, fun a ha => .inl (this.2 a ha)⟩
theorem inU_bdsE {d : PDb} {q : PQuery} {x : PDelta} (h : Ad d q x) {z : List Int} (hz : z ∈ bds (appP d x) q) : InU d q x z := by
  have := (binds_mem h.qe z).1 ((srtU_mem _ _).1 hz)
  exact ⟨this.1, fun a ha => inU_e h _ _ (this.2 a ha)⟩
theorem lk_dm {d : PDb} {x : PDelta} (h : Dmn d x) (nm : List UInt8) : dmW (lkR d nm) := by
  have h0 : dmW ⟨0, []⟩ := ⟨by simp, by simp⟩
  rw [lkR, lkT]
  split
  · cases e : d.tabs.find? fun t => t.name == nm with
    | none => exact h0
    | some t => exact h.t t (List.mem_of_find?_eq_some e)
  · exact h0
theorem ins_sub {d : PDb} {x : PDelta} (h : appB d x = true) : ∀ t ∈ (norP d x).ins.rows, t ∈ x.ins.rows := fun t ht => by
  have hG : appG d x = true := by simp only [appB, Bool.and_eq_true] at h; exact h.1
  have hf := (app_mem hG).1
  rw [nor_eq hf] at ht
  exact ((mem_norI (lk_ok (fit_of.1 hf).lk) t).1 ht).1
theorem vals_in {t : List Int} (h : valsOk t = true) : ∀ v ∈ t, 0 <= v /\ v <= 99 := fun v hv => by
  simp only [valsOk, List.all_eq_true] at h
  have := h v hv
  simpa only [inR, Bool.and_eq_true, decide_eq_true_eq] using this
theorem inU_val {d : PDb} {q : PQuery} {x : PDelta} (h : Ad d q x) (hd : Dmn d x) {z : List Int} (hz : InU d q x z) : ∀ v ∈ z, v ∈ doms := fun v hv => by
  obtain ⟨i, hi, rfl⟩ := List.getElem_of_mem hv
  have hin := hz.1
  have hall := h.qf.all (i : Int) (by omega) (by omega)
  simp only [varsIn, List.mem_flatMap] at hall
  obtain ⟨a, ha, hva⟩ := hall
  have hm : z[i] ∈ pickR a.vars z := by
    have : z[i] = z.getD (i : Int).toNat 0 := by simp [List.getD, hi]
    rw [this]
    exact List.mem_map.2 ⟨(i : Int), hva, rfl⟩
  rcases hz.2 a ha with h1 | ⟨_, h1⟩
  · exact dom_of ((lk_dm hd a.rel).2 _ h1 _ hm) (vals_in (rowsOk_mem (lk_ok (h.qf.lk a ha)) h1).2 _ hm)
  · exact dom_of (hd.i.2 _ (ins_sub h.app _ h1) _ hm) (vals_in (rowsOk_mem (nor_of h.app).ins h1).2 _ hm)
def unL (d : PDb) (x : PDelta) (nm : List UInt8) : List (List Int) := (lkR d nm).rows ++ if nm = x.name then (norP d x).ins.rows else []
theorem unL_len {d : PDb} {q : PQuery} {x : PDelta} (h : Ad d q x) (hd : Dmn d x) (nm : List UInt8) : (unL d x nm).length <= if nm = x.name then 18 else 9 := by
  rw [unL, List.length_append]
  have h1 := (lk_dm hd nm).1
  split
  · have h2 := nodup_le (srt_nodup (rowsOk_srt (nor_of h.app).ins)) (ins_sub h.app)
    have := hd.i.1
    omega
  · simpa using h1
theorem inU_few {d : PDb} {q : PQuery} {x : PDelta} (h : Ad d q x) (hd : Dmn d x) (hs : smallQ q) {l : List (List Int)} (hn : l.Nodup) (hl : ∀ z ∈ l, InU d q x z) : l.length <= 4000 := by
  rcases hs with hs | hs
  · have h1 := nodup_le (l' := allT q.n.toNat) hn fun z hz => allT_mem (hl z hz).1 (inU_val h hd (hl z hz))
    rw [allT_len] at h1
    have h2 : 7 ^ q.n.toNat <= 7 ^ 4 := Nat.pow_le_pow_right (by omega) (by omega)
    omega
  · subst hs
    have pk : ∀ z ∈ l, ∃ a b c e f : Int, z = [a, b, c, e, f] /\ [a, b] ∈ unL d x [114] /\ [c, e] ∈ unL d x [116] /\ [e, f] ∈ unL d x [117] := fun z hz => by
      obtain ⟨h1, h2⟩ := hl z hz
      have h1 : z.length = 5 := h1
      match z, h1 with
      | [a, b, c, e, f], _ =>
        have mem : ∀ nm t, (t ∈ (lkR d nm).rows \/ (nm = x.name /\ t ∈ (norP d x).ins.rows)) -> t ∈ unL d x nm := fun nm t ht => by
          rw [unL, List.mem_append]
          rcases ht with h | ⟨h, h'⟩
          · exact .inl h
          · rw [if_pos h]; exact .inr h'
        exact ⟨a, b, c, e, f, rfl, mem _ _ (h2 ⟨[114], [0, 1]⟩ (by simp [pathQ])), mem _ _ (h2 ⟨[116], [2, 3]⟩ (by simp [pathQ])), mem _ _ (h2 ⟨[117], [3, 4]⟩ (by simp [pathQ]))⟩
    obtain ⟨g, hg⟩ : ∃ g : List Int -> List Int × List Int × List Int, g = fun z => (z.take 2, (z.drop 2).take 2, z.drop 3) := ⟨_, rfl⟩
    have hinj : ∀ z ∈ l, ∀ w ∈ l, g z = g w -> z = w := fun z hz w hw e => by
      obtain ⟨a, b, c, e1, f, rfl, _⟩ := pk z hz
      obtain ⟨a', b', c', e1', f', rfl, _⟩ := pk w hw
      rw [hg] at e
      simp at e
      simp [e]
    have h1 := nodup_le (l' := (unL d x [114]).flatMap fun s => (unL d x [116]).flatMap fun t => (unL d x [117]).map fun u => (s, t, u)) (map_nodup hn hinj) fun p hp => by
      obtain ⟨z, hz, rfl⟩ := List.mem_map.1 hp
      obtain ⟨a, b, c, e1, f, rfl, m1, m2, m3⟩ := pk z hz
      rw [hg]
      exact List.mem_flatMap.2 ⟨_, m1, List.mem_flatMap.2 ⟨_, m2, List.mem_map.2 ⟨_, m3, rfl⟩⟩⟩
    rw [List.length_map] at h1
    have fl : ∀ {α β : Type} (L : List α) (F : α -> List β) (n : Nat), (∀ a ∈ L, (F a).length <= n) -> (L.flatMap F).length <= L.length * n := fun L F n hF => by
      induction L with
      | nil => simp
      | cons a L ih =>
        have := ih fun b hb => hF b (List.mem_cons_of_mem _ hb)
        have := hF a (by simp)
        simp only [List.flatMap_cons, List.length_append, List.length_cons, Nat.add_mul]; omega
    have b1 := unL_len h hd [114]
    have b2 := unL_len h hd [116]
    have b3 := unL_len h hd [117]
    have h2 := fl (unL d x [114]) (fun s => (unL d x [116]).flatMap fun t => (unL d x [117]).map fun u => (s, t, u)) ((unL d x [116]).length * (unL d x [117]).length) fun s _ =>
      fl _ _ _ fun t _ => by simp
    have h3 : (unL d x [114]).length * ((unL d x [116]).length * (unL d x [117]).length) <= 1458 := by
      by_cases e1 : [114] = x.name
      · rw [if_pos e1] at b1
        rw [if_neg (by rw [<- e1]; decide)] at b2 b3
        exact Nat.le_trans (Nat.mul_le_mul b1 (Nat.mul_le_mul b2 b3)) (by omega)
      · rw [if_neg e1] at b1
        by_cases e2 : [116] = x.name
        · rw [if_pos e2] at b2
          rw [if_neg (by rw [<- e2]; decide)] at b3
          exact Nat.le_trans (Nat.mul_le_mul b1 (Nat.mul_le_mul b2 b3)) (by omega)
        · rw [if_neg e2] at b2
          have b3 : (unL d x [117]).length <= 18 := by split at b3 <;> omega
          exact Nat.le_trans (Nat.mul_le_mul b1 (Nat.mul_le_mul b2 b3)) (by omega)
    omega
theorem inU_img {d : PDb} {q : PQuery} {x : PDelta} (h : Ad d q x) (hd : Dmn d x) (hs : smallQ q) (f : List Int -> List Int) {l : List (List Int)} (hn : l.Nodup) (hl : ∀ y ∈ l, ∃ z, InU d q x z /\ f z = y) : l.length <= 4000 := by
  have : ∃ Z : List (List Int), Z.length = l.length /\ Z.Nodup /\ (∀ z ∈ Z, InU d q x z) /\ Z.map f = l := by
    clear hs hd h
    induction l with
    | nil => exact ⟨[], rfl, by simp, by simp, rfl⟩
    | cons y l ih =>
      obtain ⟨h1, h2⟩ := List.nodup_cons.1 hn
      obtain ⟨Z, a, b, c, e⟩ := ih h2 fun y' hy => hl y' (List.mem_cons_of_mem _ hy)
      obtain ⟨z, hz, rfl⟩ := hl y (by simp)
      refine ⟨z :: Z, by simp [a], List.nodup_cons.2 ⟨fun hm => h1 ?_, b⟩, fun w hw => ?_, by simp [e]⟩
      · rw [<- e]; exact List.mem_map_of_mem hm
      · rcases List.mem_cons.1 hw with rfl | hw
        · exact hz
        · exact c w hw
  obtain ⟨Z, a, b, c, _⟩ := this
  rw [<- a]
  exact inU_few h hd hs b c
end Go.Vs
namespace Go.Vs
def smP (d : PDb) (q : PQuery) (x : PDelta) (i : Nat) : PCnt := sumOf q.out.length (((cat d q x i).map Prod.fst).map (pickR q.out)) ((cat d q x i).map Prod.snd)
theorem smP_zero (d : PDb) (q : PQuery) (x : PDelta) : smP d q x 0 = ⟨q.out.length, [], []⟩ := by simp [smP, cat, sumOf, sumsOf, srtU, sttl]
theorem cat_mem {d : PDb} {q : PQuery} {x : PDelta} {p : List Int × Int} : ∀ {i : Nat}, p ∈ cat d q x i -> ∃ k, p ∈ adJ d q x k
  | 0, h => by simp [cat] at h
  | i + 1, h => by
    rw [cat, List.mem_append] at h
    rcases h with h | h
    · exact cat_mem h
    · exact ⟨i, h⟩
theorem cat_len {d : PDb} {q : PQuery} {x : PDelta} (h : Ad d q x) : ∀ i, (cat d q x i).length <= i * 131072
  | 0 => by simp [cat]
  | i + 1 => by
    have := cat_len h i
    have := adJ_le h i
    rw [cat, List.length_append]; omega
theorem lk_pp (f : List Int -> List Int) (P : List (List Int × Int)) (y : List Int) : lkC ((P.map Prod.fst).map f) (P.map Prod.snd) y = sW (ppW f P) y := by
  rw [<- sW_lkC, pp_fst, pp_snd]
section
variable {d : PDb} {q : PQuery} {x : PDelta}
theorem cat_row (h : Ad d q x) {i : Nat} {y : List Int} (hy : y ∈ ((cat d q x i).map Prod.fst).map (pickR q.out)) : (∃ z, InU d q x z /\ pickR q.out z = y) /\ (y.length : Int) = q.out.length /\ valsOk y = true := by
  obtain ⟨z, hz, rfl⟩ := List.mem_map.1 hy
  obtain ⟨p, hp, rfl⟩ := List.mem_map.1 hz
  obtain ⟨k, hk⟩ := cat_mem hp
  have hm : p.1 ∈ (adJ d q x k).map Prod.fst := List.mem_map_of_mem hk
  exact ⟨⟨p.1, inU_adJ h hm, rfl⟩, adX_ok h k _ (List.mem_map_of_mem hm)⟩
theorem few_rows (h : Ad d q x) (hd : Dmn d x) (hs : smallQ q) {l : List (List Int)} (hl : ∀ y ∈ l, ∃ z, InU d q x z /\ pickR q.out z = y) : (srtU l).length <= 4000 :=
  inU_img h hd hs (pickR q.out) (srt_nodup (srtU_srt l)) fun y hy => hl y ((srtU_mem l y).1 hy)
theorem smP_ok (h : Ad d q x) (hd : Dmn d x) (hs : smallQ q) {i : Nat} (hi : i <= 4) : cntsOk (smP d q x i) = true := by
  refine sum_ok (ad_out h).1 (fun y hy => (cat_row h hy).2) (few_rows h hd hs fun y hy => (cat_row h hy).1) (fun c hc => ?_) ?_
  · obtain ⟨p, hp, rfl⟩ := List.mem_map.1 hc
    obtain ⟨k, hk⟩ := cat_mem hp
    exact sg_adJ d q x k p hk
  · rw [List.length_map, List.length_map]
    have := cat_len h i; omega
theorem adB_ok (h : Ad d q x) (hd : Dmn d x) (hs : smallQ q) {i : Nat} (hi : i < q.atoms.length) : adB d q x i = true := by
  have f := h.qf
  have hq : qryFor d q = true := by
    simp only [qryFor, f.qok, f.dok, Bool.true_and, List.all_eq_true, Bool.and_eq_true, decide_eq_true_eq]
    exact fun a ha => ⟨f.lk a ha, f.ar a ha⟩
  simp only [adB, adG, h.app, hq, Bool.true_and, Bool.and_eq_true, decide_eq_true_eq, inR, Int.toNat_natCast]
  refine ⟨by omega, few_rows h hd hs fun y hy => ?_⟩
  obtain ⟨z, hz, rfl⟩ := List.mem_map.1 hy
  exact ⟨z, inU_adJ h hz, rfl⟩
theorem sm_rows (h : Ad d q x) {i : Nat} {y : List Int} (hy : y ∈ (smP d q x i).rows) : ∃ z, InU d q x z /\ pickR q.out z = y :=
  (cat_row h ((srtU_mem _ _).1 ((sttl_subl _ _).subset hy))).1
theorem sm_step (h : Ad d q x) (hd : Dmn d x) (hs : smallQ q) {i : Nat} (hi : i < q.atoms.length) : addCB (smP d q x i) (adP d q x i) = true /\ addCP (smP d q x i) (adP d q x i) = smP d q x (i + 1) := by
  have h4 := h.qf.a4
  have hP : adP d q x i = sumOf q.out.length (adX d q x i) (adC d q x i) := by rw [adP, if_pos (adB_ok h hd hs hi), Int.toNat_natCast]
  rw [hP]
  refine addC_of (smP_ok h hd hs (by omega)) (sum_ok (ad_out h).1 (adX_ok h i) ?_ (sg_adC d q x i) ?_) rfl (few_rows h hd hs fun y hy => ?_) (smP_ok h hd hs (by omega)) rfl fun y => ?_
  · refine few_rows h hd hs fun y hy => ?_
    obtain ⟨z, hz, rfl⟩ := List.mem_map.1 hy
    exact ⟨z, inU_adJ h hz, rfl⟩
  · rw [adX, List.length_map, List.length_map]; have := adJ_le h i; omega
  · rcases List.mem_append.1 hy with hy | hy
    · exact sm_rows h hy
    · have := (srtU_mem _ _).1 ((sttl_subl _ _).subset hy)
      obtain ⟨z, hz, rfl⟩ := List.mem_map.1 this
      exact ⟨z, inU_adJ h hz, rfl⟩
  · rw [smP, smP, look_sum, look_sum, look_sum, lk_pp, lk_pp, adX, adC, lk_pp, cat]
    rw [ppW, List.map_append, sW_app]; rfl
end
section
variable {d : PDb} {q : PQuery}
theorem nv_few (f : Qf d q) (hv : ∀ z ∈ bds d q, ∀ v ∈ z, v ∈ doms) (hb : (bds d q).length <= 4000) (hr : ∀ l : List (List Int), (∀ y ∈ l, ∃ z ∈ bds d q, pickR q.out z = y) -> (srtU l).length <= 4000) :
    nvB d q = true /\ ∀ y, lkC (nvR d q).rows (nvR d q).cs y = sW (ppW (pickR q.out) (ones (bds d q))) y := by
  have hq : qryFor d q = true := by
    simp only [qryFor, f.qok, f.dok, Bool.true_and, List.all_eq_true, Bool.and_eq_true, decide_eq_true_eq]
    exact fun a ha => ⟨f.lk a ha, f.ar a ha⟩
  have hn5 := f.n5
  have hin : inR q.n 0 5 = true := by simp only [inR, Bool.and_eq_true, decide_eq_true_eq]; omega
  have hmem : ∀ z ∈ bds d q, (z.length : Int) = q.n /\ valsOk z = true := fun z hz => by
    have h1 := ((binds_mem f z).1 ((srtU_mem _ _).1 hz)).1
    refine ⟨by omega, ?_⟩
    simp only [valsOk, List.all_eq_true]
    intro v hm
    have := hv z hz v hm
    simp only [doms, List.mem_cons, List.not_mem_nil, or_false] at this
    simp only [inR, Bool.and_eq_true, decide_eq_true_eq]; omega
  have hB : bdB d q = true := by
    rw [bdB, hq, Bool.true_and, rowsOk_of hin (srtU_srt _) hmem, decide_eq_true_eq]
    exact hb
  have hP : bdP d q = ⟨q.n, bds d q⟩ := by rw [bdP, if_pos hB]; rfl
  have hro : rowsOk q.n (bds d q) = true := by show rowsOk q.n (srtU (binds d q.atoms).2) = true; rw [rowsOk_of hin (srtU_srt _) hmem, decide_eq_true_eq]; exact hb
  obtain ⟨c1, c2, c3, c4⟩ := cnt_of (r := ⟨q.n, bds d q⟩) hro
  have h5 := f.out5
  have hout : ∀ c ∈ q.out, 0 <= c /\ c < q.n := fun c hc => by
    have := f.qok
    simp only [queryOk, setOf, Bool.and_eq_true, List.all_eq_true] at this
    have := this.1.1.2.1 c hc
    rw [wrap64_of (by omega) (by omega)] at this
    simp only [inR, Bool.and_eq_true, decide_eq_true_eq] at this
    omega
  have hcols : colsOk q.n q.out = true := by
    simp only [colsOk, Bool.and_eq_true, decide_eq_true_eq, List.all_eq_true]
    refine ⟨h5, fun c hc => ?_⟩
    have := hout c hc
    rw [wrap64_of (by omega) (by omega)]
    simp only [inR, Bool.and_eq_true, decide_eq_true_eq]; omega
  have hsm : sumB q.out.length ((bds d q).map (pickR q.out)) (List.replicate (bds d q).length 1) = true := by
    have h4 := hr ((bds d q).map (pickR q.out)) fun y hy => List.mem_map.1 hy
    simp only [sumB, Bool.and_eq_true, decide_eq_true_eq]
    refine ⟨h4, sum_ok (by simp only [inR, Bool.and_eq_true, decide_eq_true_eq]; omega) (fun y hy => ?_) h4 (fun c hc => .inl (List.mem_replicate.1 hc).2) (by rw [List.length_map]; omega)⟩
    obtain ⟨z, hz, rfl⟩ := List.mem_map.1 hy
    refine ⟨by rw [pickR_len], pickR_ok (hmem z hz).2 fun c hc => ?_⟩
    have := hout c hc
    have := (hmem z hz).1
    omega
  have hpr : projB (cntOf (bdP d q)) q.out = true := by
    rw [hP]
    simp only [projB, c1, c2, hcols, c3, c4, hsm, Bool.and_true]
  have hN : nvB d q = true := by rw [nvB, hB, hpr]; rfl
  refine ⟨hN, fun y => ?_⟩
  rw [nvR, if_pos hN, projP, if_pos hpr, hP, c3, c4, look_sum]
  have e : ∀ l : List (List Int), (ones l).map Prod.snd = List.replicate l.length 1 := fun l => by
    induction l with
    | nil => rfl
    | cons a l ih =>
      show 1 :: (ones l).map Prod.snd = _
      rw [ih]; rfl
  show lkC ((bds d q).map (pickR q.out)) (List.replicate (bds d q).length 1) y = _
  rw [<- e, <- lk_pp, ones_fst]
end
theorem dt_sum {d : PDb} {q : PQuery} {x : PDelta} (h : Ad d q x) (hd : Dmn d x) (hs : smallQ q) :
    nvB d q = true /\ nvB (appP d x) q = true /\ ∀ y, lkC (smP d q x q.atoms.length).rows (smP d q x q.atoms.length).cs y = lkC (nvR (appP d x) q).rows (nvR (appP d x) q).cs y - lkC (nvR d q).rows (nvR d q).cs y := by
  have n1 := nv_few h.qf (fun z hz => inU_val h hd (inU_bds h hz)) (inU_few h hd hs (srt_nodup (srtU_srt _)) fun z hz => inU_bds h hz) fun l hl => few_rows h hd hs fun y hy => by
    obtain ⟨z, hz, e⟩ := hl y hy
    exact ⟨z, inU_bds h hz, e⟩
  have n2 := nv_few h.qe (fun z hz => inU_val h hd (inU_bdsE h hz)) (inU_few h hd hs (srt_nodup (srtU_srt _)) fun z hz => inU_bdsE h hz) fun l hl => few_rows h hd hs fun y hy => by
    obtain ⟨z, hz, e⟩ := hl y hy
    exact ⟨z, inU_bdsE h hz, e⟩
  refine ⟨n1.1, n2.1, fun y => ?_⟩
  rw [smP, look_sum, lk_pp, n1.2, n2.2]
  have := pp_congr (P := cat d q x q.atoms.length) (Q := ones (bds (appP d x) q) ++ negs (bds d q)) (fun z => by rw [cat_all h, sW_app, sW_negs]; omega) (pickR q.out) y
  rw [this, ppW, List.map_append, sW_app]
  have e : ∀ (l : List (List Int)), sW ((negs l).map fun p => (pickR q.out p.1, p.2)) y = - sW ((ones l).map fun p => (pickR q.out p.1, p.2)) y := fun l => by
    have e1 : (negs l).map (fun p => (pickR q.out p.1, p.2)) = negs (l.map (pickR q.out)) := by simp [negs]
    have e2 : (ones l).map (fun p => (pickR q.out p.1, p.2)) = ones (l.map (pickR q.out)) := by simp [ones]
    rw [e1, e2, sW_negs]
  rw [e]
  show _ = sW ((ones _).map _) y - sW ((ones _).map _) y
  omega
theorem dt_rows {d : PDb} {q : PQuery} {x : PDelta} (h : Ad d q x) (hd : Dmn d x) (hs : smallQ q) {l : List (List Int)} (hl : ∀ y ∈ l, y ∈ (nvR (appP d x) q).rows \/ y ∈ (nvR d q).rows) : (srtU l).length <= 4000 := by
  have key : ∀ (e : PDb), nvB e q = true -> ∀ y ∈ (nvR e q).rows, ∃ z ∈ bds e q, pickR q.out z = y := fun e he y hy => by
    have h0 := he
    simp only [nvB, Bool.and_eq_true] at he
    have hro : rowsOk q.n (bds e q) = true := by have := he.1; simp only [bdB, Bool.and_eq_true] at this; exact this.2
    have hP : bdP e q = ⟨q.n, bds e q⟩ := by rw [bdP, if_pos he.1]; rfl
    obtain ⟨c1, c2, c3, c4⟩ := cnt_of (r := ⟨q.n, bds e q⟩) hro
    rw [nvR, if_pos h0, projP, if_pos he.2, hP, c3] at hy
    have := (srtU_mem _ _).1 ((sttl_subl _ _).subset hy)
    exact List.mem_map.1 this
  have hn := dt_sum h hd hs
  refine few_rows h hd hs fun y hy => ?_
  rcases hl y hy with h1 | h1
  · obtain ⟨z, hz, e⟩ := key _ hn.2.1 y h1
    exact ⟨z, inU_bdsE h hz, e⟩
  · obtain ⟨z, hz, e⟩ := key _ hn.1 y h1
    exact ⟨z, inU_bds h hz, e⟩
end Go.Vs
