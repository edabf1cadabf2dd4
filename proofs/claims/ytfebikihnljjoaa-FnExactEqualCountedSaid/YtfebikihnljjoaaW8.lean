/-
  W8: a part of a proof of this seat: the value-level semantics of Go code without maps (Vs), its walk rules (Vt), the frame of a row (Vr), facts of types, schedules, walks. It holds of every program and state that its hypotheses name.
-/
import Derived.Test.YtfebikihnljjoaaW6
set_option linter.unusedSimpArgs false
set_option linter.unusedVariables false
namespace Go.Proofs.Ytfebikihnljjoaa
open Go.Vs Go.Proofs Go
set_option maxRecDepth 100000
set_option maxHeartbeats 1000000

theorem fill_app {z e : List D} {l l' : List (List D)} {i : Nat} (h : i < l.length) (hl : l.length = l'.length) (hp : l'.take i = l.take i) (he : l'[i]? = some e) : (fill z l i).set i e = fill z l' (i + 1) := by
  have : fill z l i = fill z l' i := by simp only [fill, hp, hl]
  rw [this]
  exact fill_set (by omega) he

/-- a filled row: first the new elements, then zeros -/
def filled (z : List D) (l : List (List D)) (n : Nat) : List (List D) := l ++ List.replicate (n - l.length) z
theorem filled_length {z : List D} {l : List (List D)} {n : Nat} (h : l.length ≤ n) : (filled z l n).length = n := by simp [filled]; omega
theorem filled_get {z : List D} {l : List (List D)} {n k : Nat} (h : l.length < n) (hk : k = l.length) : (filled z l n)[k]? = some z := by
  subst hk
  simp only [filled]
  rw [List.getElem?_append_right (Nat.le_refl _), Nat.sub_self, List.getElem?_replicate, if_pos (by omega)]
theorem filled_set {z e : List D} {l : List (List D)} {n : Nat} (h : l.length < n) : (filled z l n).set l.length e = filled z (l ++ [e]) n := by
  simp only [filled]
  rw [List.set_append_right _ _ (Nat.le_refl _), Nat.sub_self]
  have : n - l.length = (n - (l ++ [e]).length) + 1 := by simp; omega
  rw [this, List.replicate_succ]
  simp
theorem filled_all {z : List D} {l : List (List D)} {n : Nat} (h : l.length = n) : filled z l n = l := by simp [filled, h]

theorem v38 (a : Go.Vs.Rows) (ha : a.xs.length ≤ 1048576) (hx : ∀ r ∈ a.xs, r.xs.length ≤ 1048576) :
   VC Try.prog 38 [.d (dRows a)] (fun n r => ∃ b : Go.Vs.Rows, r = .d (dRows b) ∧ b.xs.map (·.xs) = a.xs.map (·.xs)) := by
  refine VC.of s38 (by kernel_rfl) Try.func38 (by rfl) (by kernel_rfl) (by simp [Try.f38]) s38_ok fun B => ?_
  simp [Try.f38, dRows, dSl]
  refine ⟨⟨by omega, by simp only [maxLen]; omega⟩, ?_⟩
  refine loop_rule (X := List Ints) (fun ys => ys.length ≤ a.xs.length ∧ ys.map (·.xs) = (a.xs.map (·.xs)).take ys.length) (fun ys => [(0, .d (.sl a.id a.T (a.xs.map cInts))), (3, .own 7 0 a.xs.length), (4, .d (.int .i64 ys.length))]) (fun ys => [(7, some (.row 39 1 (filled [.sl none none []] (ys.map cInts) a.xs.length)))]) (fun ys => a.xs.length - ys.length) [] (by simp) (by simp) (by simp [filled]) ?_
  intro ys hs t m hi hh
  have hfl : (filled [.sl none none []] (ys.map cInts) a.xs.length).length = a.xs.length := filled_length (by simpa using hi.1)
  by_cases hlt : ys.length < a.xs.length
  · have hwi : IntKind.i64.wrap ((ys.length : Int) + 1) = (ys.length : Int) + 1 := wrap64_of (by omega) (by omega)
    simp [cInts, hlt]
    refine call_some (v39 a.xs[ys.length] (hx _ (by simp))) rfl (by simp) fun n hs' r h1 h2 h3 h4 => ?_
    obtain ⟨id, rfl, h5, h6⟩ := h3
    simp at h1
    have hg : (filled [.sl none none []] (ys.map cInts) a.xs.length)[ys.length]? = some [.sl none none []] := filled_get (by simpa using hlt) (by simp)
    have hg' : ∀ h, (filled [.sl none none []] (ys.map cInts) a.xs.length)[ys.length]'h = [.sl none none []] := fun h => by
      rw [List.getElem?_eq_getElem h] at hg
      exact Option.some.inj hg
    simp [hwi, hfl, hg, hlt, hg']
    refine back (ys ++ [⟨id, some 3, a.xs[ys.length].xs⟩]) ?_ (by simp; omega) rfl (by simp; omega) (by simp) ?_
    · refine ⟨by simp; omega, ?_⟩
      have e2 : (ys ++ [(⟨id, some 3, a.xs[ys.length].xs⟩ : Ints)]).length = ys.length + 1 := by simp
      rw [e2, List.take_succ_eq_append_getElem (by simpa using hlt), List.map_append, hi.2]; simp
    · have := filled_set (z := [.sl none none []]) (e := cInts ⟨id, some 3, a.xs[ys.length].xs⟩) (l := ys.map cInts) (n := a.xs.length) (by simpa using hlt)
      simp at this
      simp [cInts] at this ⊢
      exact this
  · have hlen : ys.length = a.xs.length := by omega
    have hf : filled [.sl none none []] (ys.map cInts) a.xs.length = ys.map cInts := filled_all (by simpa using hlen)
    simp [hlen, hf]
    intro γ hs' h1 hg
    refine ⟨⟨γ 7, some 39, ys⟩, ⟨rfl, rfl, List.take_of_length_le (by simp; omega)⟩, ?_⟩
    have := hi.2
    rw [List.take_of_length_le (by simp; omega)] at this
    exact this
end Go.Proofs.Ytfebikihnljjoaa
