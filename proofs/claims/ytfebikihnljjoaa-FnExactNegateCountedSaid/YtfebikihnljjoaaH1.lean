/-
  H1: a part of a proof of this seat: the value-level semantics of Go code without maps (Vs), its walk rules (Vt), the frame of a row (Vr), facts of types, schedules, walks. It holds of every program and state that its hypotheses name.
-/
import Derived.Test.YtfebikihnljjoaaHP2
set_option linter.unusedSimpArgs false
set_option linter.unusedVariables false
namespace Go.Proofs.Ytfebikihnljjoaa
open Go.Vs Go.Proofs Go
set_option maxRecDepth 100000
set_option maxHeartbeats 1000000

theorem w_laws_markIntS (a : Ints) (k : Int) (h0 : 1 ≤ k) (h1 : k + wtS wtI a ≤ 4611686018427387904) (hw : whS whI a) (hl0 : okS okI a) (hnd : (dInts a).ids.Nodup) :
   VX Try.prog 49 (dInts a).ids [.d (dInts a), .d (.int .i64 k)] none (fun _ r _ ws => r = .d (.int .i64 (k + wtS wtI a)) ∧ ws = [dInts (mkS mkI wtI a k)]) := by
  refine VX.of E s49 (by kernel_rfl) Try.func49 (by rfl) (by kernel_rfl) (by simp [Try.f49]) (by simp [Try.f49]) s49_ok (fun g hg => .inl (by simpa using hg)) (fun cs h => nomatch h) fun B hB => ?_
  have hl := hl0.1
  obtain ⟨id, T, xs⟩ := a
  have hwt : wtS wtI (⟨id, T, xs⟩ : Ints) = xs.length := sumW_one (fun _ => rfl) xs
  rw [hwt] at h1 ⊢
  simp only [maxLen] at hl
  simp [Try.f49]
  refine loop_rule (X := Nat) (fun i => i ≤ xs.length) (fun i => [(0, .d (dInts ⟨id, T, mkAt mkI wtI xs k i⟩)), (1, .d (.int .i64 (k + i))), (5, .d (.int .i64 i))]) (fun _ => []) (fun i => xs.length - i) 0 (by simp) (by simp) (by simp) ?_
  intro i hs t m hi hh
  by_cases hlt : i < xs.length
  · obtain ⟨g, hg, T', hT⟩ := hw.1.id hlt
    simp only at hg hT
    subst hg hT
    have hk := wr1 (i := i) (by omega)
    have hk2 : IntKind.i64.wrap (k + i + 1) = k + i + 1 := wrap64_of (by omega) (by omega)
    simp [dInts, dSl, hlt, hk, hk2, cI]
    refine back (i + 1) (by omega) (by omega) rfl (by simp) ?_ (by simp)
    have e1 : (List.map cI (mkAt mkI wtI xs k i)).set i [D.int IntKind.i64 (k + ↑i)] = List.map cI (mkAt mkI wtI xs k (i + 1)) := by
      rw [mkAt_succ hlt, ← set_map, show sumW wtI (List.take i xs) = _ from sumW_one (fun _ => rfl) _]
      simp [cI, mkI, Nat.min_eq_left hi]
    have e2 := re_oneSet (g := g) (T := T') (es := List.map cI (mkAt mkI wtI xs k i)) (i := i) (e' := [D.int IntKind.i64 (k + ↑i)]) (fun e he => by
      rw [List.getElem?_map] at he
      simp [hlt] at he
      rw [← he]; rfl)
    rw [e1] at e2
    simp [e1, e2]
    omega
  · have hn : i = xs.length := by omega
    subst hn
    simp [dInts, dSl, vendX]
    refine ⟨[0], fun γ hs' h1 h2 => ?_⟩
    simp [mkS, mkAt_all]

theorem w_laws_markIntSS (a : Sl Ints) (k : Int) (h0 : 1 ≤ k) (h1 : k + wtS (wtS wtI) a ≤ 4611686018427387904) (hw : whS (whS whI) a) (hl : okS (okS okI) a) (hnd : (dRows a).ids.Nodup) :
   VX Try.prog 48 (dRows a).ids [.d (dRows a), .d (.int .i64 k)] none (fun _ r _ ws => r = .d (.int .i64 (k + wtS (wtS wtI) a)) ∧ ws = [dRows (mkS (mkS mkI wtI) (wtS wtI) a k)]) := by
  refine VX.of E s48 (by kernel_rfl) Try.func48 (by rfl) (by kernel_rfl) (by simp [Try.f48]) (by simp [Try.f48]) s48_ok (fun g hg => .inl (by simpa using hg)) (fun cs h => nomatch h) fun B hB => ?_
  obtain ⟨id, T, xs⟩ := a
  have hl1 := hl.1
  simp only [maxLen] at hl1
  have hwt : wtS (wtS wtI) (⟨id, T, xs⟩ : Sl Ints) = sumW (wtS wtI) xs := rfl
  rw [hwt] at h1 ⊢
  simp [Try.f48]
  refine loop_rule (X := Nat) (fun i => i ≤ xs.length) (fun i => [(0, .d (dSl (cS cI) ⟨id, T, mkAt (mkS mkI wtI) (wtS wtI) xs k i⟩)), (1, .d (.int .i64 (k + sumW (wtS wtI) (xs.take i)))), (5, .d (.int .i64 i))]) (fun _ => []) (fun i => xs.length - i) 0 (by simp) (by simp) (by simp) ?_
  intro i hs t m hi hh
  by_cases hlt : i < xs.length
  · have hk := wr1 (i := i) (by omega)
    have e1 := sumW_succ (wtS wtI) hlt
    have e2 := sumW_le (wtS wtI) xs (i + 1)
    have hmem : xs[i] ∈ xs := List.getElem_mem _
    simp [dSl, hlt, cS]
    refine call_x (E49) (by simp [dSl]) (by simp) (by simp) (fun g hg => .inr ?_) (w_laws_markIntS xs[i] (k + sumW (wtS wtI) (xs.take i)) (by omega) (by omega) (hw.2 _ hmem) (hl.2 _ hmem) (by have := elem_nd (sl_nd hnd).1 hlt; rwa [idsL_cS] at this)) fun n hs' r cs' ws hn hn' hp hr hws => ?_
    · exact elem_ids (s := ⟨id, T, xs⟩) (c := cS cI) (i := i) hlt (by simpa [cS, idsL] using hg)
    obtain ⟨rfl, rfl⟩ := hp
    simp at hn
    have hnd' : (dSl (cS cI) (⟨id, T, mkAt (mkS mkI wtI) (wtS wtI) xs k i⟩ : Sl Ints)).ids.Nodup := by
      have : (dSl (cS cI) (⟨id, T, mkAt (mkS mkI wtI) (wtS wtI) xs k i⟩ : Sl Ints)).ids = (dRows ⟨id, T, xs⟩).ids := by
        simp only [dSl, D.ids]; rw [ids_mkAt (marksS marksI).ids]
      rw [this]; exact hnd
    have e3 := re_elem (c := cS cI) (s := ⟨id, T, mkAt (mkS mkI wtI) (wtS wtI) xs k i⟩) (i := i) (a' := mkS mkI wtI xs[i] (k + sumW (wtS wtI) (xs.take i))) (W := (dInts xs[i]).ids) (ws := [dInts (mkS mkI wtI xs[i] (k + sumW (wtS wtI) (xs.take i)))]) hnd' (by simpa using hlt)
      (fun g hg => by simpa [cS, idsL] using hg) (by simp only [mkAt_get]; exact reL_one (re_root (by simp [cI]) (hw.2 _ hmem).1 (by simp) (fun g hg => mem_slids hg) []))
    simp [dSl, cS, hk] at e3 ⊢
    refine back (i + 1) (by omega) (by omega) rfl (by simp <;> omega) ?_ (by simp)
    simp [e3, mkAt_succ hlt, e1]
    exact ⟨rfl, by omega⟩
  · have hn : i = xs.length := by omega
    subst hn
    simp [dSl, vendX]
    refine ⟨[0], fun γ hs' h1 h2 => ?_⟩
    simp [mkS, mkAt_all]

end Go.Proofs.Ytfebikihnljjoaa
