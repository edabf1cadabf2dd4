/-
  Vr1: a part of a proof of this seat: the value-level semantics of Go code without maps (Vs), its walk rules (Vt), the frame of a row (Vr), facts of types, schedules, walks. It holds of every program and state that its hypotheses name.
-/
import Derived.Test.YtfebikihnljjoaaVt1
import Derived.WalkKit
import Derived.ProofKit
import Derived.OpenShut
import Derived.JoinedCond
import Derived.Carry
set_option linter.unusedSimpArgs false
set_option linter.unusedVariables false
namespace Go.Vs
open Go.RowKit Go.ChangeShapes Go.WideShapes

theorem trodAll_below {H : Type} {enc : TypeId × Value → H} {P : Program} (hl : laidOutB P = true) {W W' : World} (hb : Below W.heap.size W W') :
    ∀ {ts : List TypeId} {vs : List Value} {ds : List (DataW H)} {ps : List MemPlace}, (∀ t ∈ ts, P.readableRec t = true ∧ t < P.types.size) →
      DataW.TrodAll enc P W 0 (fun _ => true) true ts vs ds ps → (∀ x ∈ ps, x.block < W.heap.size) → DataW.TrodAll enc P W' 0 (fun b => decide (b < W.heap.size)) true ts vs ds ps
  | [], _, _, _, _, h, _ => by
    obtain ⟨rfl, rfl, rfl⟩ := trodAll_nil h
    exact rfl
  | t :: ts, _, _, _, ht, h, hp => by
    obtain ⟨v, vs1, d, ds1, a, b, rfl, rfl, rfl, h1, h2⟩ := trodAll_cons h
    exact ⟨a, b, Below.trod hl (ht t (by simp)).1 (ht t (by simp)).2 h1 hb (fun x hx => hp x (by simp [hx])), trodAll_below hl hb (fun t h => ht t (by simp [h])) h2 (fun x hx => hp x (by simp [hx])), rfl⟩

theorem trodAll_length {H : Type} {enc : TypeId × Value → H} {P : Program} {W : World} {sp : Nat → Bool} {b : Nat} {hd : Bool} :
    ∀ {ts : List TypeId} {vs : List Value} {ds : List (DataW H)} {ps : List MemPlace}, DataW.TrodAll enc P W b sp hd ts vs ds ps → ds.length = ts.length
  | [], _, _, _, h => by
    obtain ⟨rfl, rfl, rfl⟩ := trodAll_nil h
    rfl
  | t :: ts, _, _, _, h => by
    obtain ⟨v, vs1, d, ds1, a, b, rfl, rfl, rfl, h1, h2⟩ := trodAll_cons h
    simp [trodAll_length h2]

/-- the row of a law: from a contract of the law's function, at what the arguments read as -/
theorem row_of {H : Type} {enc : TypeId × Value → H} {P : Program} {f : FuncId} {fn : Func} {s : ChangeSpec} {W : World} {args : Array Value} {ds gs : List (DataW H)} {before : List MemPlace} {b : TypeId}
    (hl : laidOutB P = true) (hr : ∀ t ∈ fn.params.toList, P.readableRec t = true ∧ t < P.types.size) (hv : s.vars = []) (hfn : ∀ ds : List (DataW H), ds.length = fn.params.toList.length → s.fn H ds = ⟨[.lit (.bool true)], ds, []⟩)
    (hrt : fn.resultTypes = #[b]) (hb : P.underlying b = some .bool)
    (hW : DataW.Whole enc P fn.params.toList s.vars false W args.toList ds gs before) (As : List V) (hLR : LR (fun _ => none) (fun _ => none) (fun g => g < W.heap.size) W As args.toList) (hfz : rdL (fun _ => none) (fun _ => none) As = some As)
    (hVC : VC P f As (fun _ r => r = .d (.bool true))) :
    Calls P f args W fun e W' => ∃ v, e = .returned v ∧ s.post enc P fn false true false false W args v W' := by
  have hW' := hW
  have hlt := hW.lt
  obtain ⟨p, q, hA, hV, rfl, hfr, hnd⟩ := hW
  rw [hv] at hV
  obtain ⟨rfl, rfl⟩ := trodVars_none hV
  have hc := hVC.2 W args.toList (LR.fz As args.toList hfz hLR (fun g hg hi => ⟨hg, hi⟩))
  rw [show args.toList.toArray = args by simp] at hc
  refine hc.mono ?_
  rintro e W' ⟨v, r, rfl, hbel, hvr, _, rfl⟩
  have : v = .bool true := by
    simp only [VR] at hvr
    cases hvr
    rfl
  subst this
  refine ⟨_, rfl, ds, [], p ++ [], [], p, [], hW', ?_, ?_, ?_, hbel.frame _, fun h => by cases h⟩
  · rw [hfn _ (by simpa using trodAll_length hA), hrt]
    exact trodAll_cons_mk (shut_bool hb _) trodAll_mk0
  · rw [hfn _ (by simpa using trodAll_length hA)]
    simp only [List.append_nil]
    exact trodAll_below hl hbel hr hA (fun x hx => hlt x (by simp [hx]))
  · rw [hfn _ (by simpa using trodAll_length hA), hv]
    exact rfl
end Go.Vs
