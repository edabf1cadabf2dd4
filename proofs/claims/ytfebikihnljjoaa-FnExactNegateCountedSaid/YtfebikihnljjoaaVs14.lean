/-
  Vs14: a part of a proof of this seat: the value-level semantics of Go code without maps (Vs), its walk rules (Vt), the frame of a row (Vr), facts of types, schedules, walks. It holds of every program and state that its hypotheses name.
-/
import Derived.Test.YtfebikihnljjoaaVs13
set_option linter.unusedSimpArgs false
set_option linter.unusedVariables false
namespace Go.Vs
open Go.RowKit

section
variable {P : Program} {E : FuncId → Bool} {A0 : Env} {N : Nat} {w0 : World} {ρ : Nat → Option (Nat × Nat)} {σ : St} {a : Act} {w : World}
variable {S : Nat → Prop} {dst : Option Tmp} {ty : TypeId} {pos : String} {af : Array Edge} {gd : Option (Nat × Bool)}

theorem places_of : ∀ (fs : List Field), (∀ f ∈ fs, (P.info? f.type).isSome = true) → ∃ places, fs.mapM (fun f => (P.info? f.type).map fun i => (f.offset, i.size)) = some places ∧
    ∀ (i : Nat) (f : Field) (inf : TypeInfo), fs[i]? = some f → P.info? f.type = some inf → places[i]? = some (f.offset, inf.size)
  | [], _ => ⟨[], rfl, by simp⟩
  | f :: fs, h => by
    obtain ⟨places, hp, hg⟩ := places_of fs fun f hf => h f (by simp [hf])
    obtain ⟨inf, hi⟩ := Option.isSome_iff_exists.1 (h f (by simp))
    refine ⟨(f.offset, inf.size) :: places, by simp [List.mapM_cons, hi, hp], fun i f' inf' hf hi' => ?_⟩
    cases i with
    | zero => simp at hf; subst hf; rw [hi] at hi'; cases hi'; rfl
    | succ i => simp at hf; simpa using hg i f' inf' hf hi'

theorem fill_LR {T : TypeId} {m : Nat → Option Blk} {places : Nat → Option (Nat × Nat)} (hpl : ∀ i o' sz, foff P T i = some (o', sz) → places i = some (o', sz)) :
    ∀ (parts : List (Nat × V)) (vals : List (Nat × Value)) (z : List V) (zc : Array Value), parts.length = vals.length →
      (∀ (j : Nat) (p : Nat × V) (q : Nat × Value), parts[j]? = some p → vals[j]? = some q → p.1 = q.1 ∧ VR ρ m S w p.2 q.2) → LR ρ m S w z zc.toList → buildOk P T m parts z →
      ∃ cells, Instr.fill places zc vals = some cells ∧ LR ρ m S w (buildC P T parts z) cells.toList
  | [], [], z, zc, _, _, hz, _ => ⟨zc, rfl, hz⟩
  | [], _ :: _, _, _, h, _, _, _ => by simp at h
  | _ :: _, [], _, _, h, _, _, _ => by simp at h
  | (i, v) :: parts, (i', v') :: vals, z, zc, hlen, hall, hz, hok => by
    obtain ⟨rfl, hv⟩ := hall 0 (i, v) (i', v') rfl rfl
    simp only at hv
    obtain ⟨h1, h2, h3, h4, h5⟩ := hok
    obtain ⟨⟨o', sz⟩, ho⟩ := Option.isSome_iff_exists.1 h1
    have hfo : foT P T i = o' := by simp [foT, ho]
    rw [ho] at h3
    simp only [Option.getD_some] at h3
    rw [hfo] at h4 h5
    have hc := cells_LR hv h2
    have hcl : v.cells.length = v'.cells.size := by simpa using hc.length
    have hzl : z.length = zc.size := by simpa using hz.length
    have hsp := foldl_splice o' v'.cells.toList 0 zc (by simp; omega)
    have hnew : LR ρ m S w (splice z o' v.cells) ((v'.cells.zipIdx.foldl (fun (cs : Array Value) (x : Value × Nat) => cs.setIfInBounds (o' + x.2) x.1) zc).toList) := by
      rw [← Array.foldl_toList, Array.toList_zipIdx, hsp]
      exact hz.splice hc o'
    obtain ⟨cells, hf, hl⟩ := fill_LR hpl parts vals (splice z o' v.cells) _ (by simpa using hlen) (fun j p q hp hq => hall (j + 1) p q (by simpa using hp) (by simpa using hq)) hnew h5
    refine ⟨cells, ?_, by simpa only [buildC, hfo] using hl⟩
    have hn1 : ¬ v'.cells.size ≠ sz := by omega
    have hn2 : ¬ o' + v'.cells.size > zc.size := by omega
    simp only [Instr.fill, hpl i o' sz ho]
    rw [if_neg (by simp; omega)]
    exact hf

theorem zcells_LR {m : Nat → Option Blk} : ∀ (vs : List Value) (ds : List D), zcells vs = some ds → LR ρ m S w (ds.map .d) vs
  | [], ds, h => by simp [zcells] at h; subst h; simp [LR]
  | v :: r, ds, h => by
    unfold zcells at h
    split at h
    · rename_i heq; cases heq
    · rename_i b r' heq
      cases heq
      cases hr : zcells r with
      | none => simp [hr] at h
      | some l => simp [hr] at h; subst h; simp only [List.map_cons, LR, VR]; exact ⟨.bool b, zcells_LR r l hr⟩
    · rename_i k n r' heq
      cases heq
      cases hr : zcells r with
      | none => simp [hr] at h
      | some l => simp [hr] at h; subst h; simp only [List.map_cons, LR, VR]; exact ⟨.int k n, zcells_LR r l hr⟩
    · rename_i s r' heq
      cases heq
      cases hr : zcells r with
      | none => simp [hr] at h
      | some l =>
        simp [hr] at h; subst h; simp only [List.map_cons, LR, VR]
        have : s = ⟨s.data.toList.toArray⟩ := by cases s; simp
        refine ⟨?_, zcells_LR r l hr⟩
        rw (occs := .pos [2]) [this]
        exact .str _
    · rename_i r' heq
      cases heq
      cases hr : zcells r with
      | none => simp [hr] at h
      | some l => simp [hr] at h; subst h; simp only [List.map_cons, LR, VR]; exact ⟨.nil _, zcells_LR r l hr⟩
    · cases h

theorem zrT_spec {T : TypeId} (h : (tzero P T).isSome = true) : ∃ i z, P.info? T = some i ∧ i.zero = some z ∧ zcells z.cells.toList = some (zrT P T) := by
  obtain ⟨ds, hd⟩ := Option.isSome_iff_exists.1 h
  have hz : zrT P T = ds := by simp [zrT, hd]
  unfold tzero at hd
  cases hi : P.info? T with
  | none => simp [hi] at hd
  | some i =>
    cases hz' : i.zero with
    | none => simp [hi, hz'] at hd
    | some z =>
      simp only [hi, Option.bind_some, hz'] at hd
      exact ⟨i, z, rfl, hz', by rw [hz]; exact hd⟩

theorem y_build (h : Rel A0 N w0 ρ σ a w) (T : TypeId) (parts : Array (Nat × Operand)) (h1 : (tzero P T).isSome = true) (h2 : tfld P T = true)
    (h3 : buildOk P T σ.m (parts.toList.map fun p => (p.1, σ.ev p.2)) ((zrT P T).map .d)) :
    Yld P ρ σ (Sof A0 σ.B ρ σ.m w) a w ⟨dst, .build T parts, ty, pos, af, gd⟩ (.agg (buildC P T (parts.toList.map fun p => (p.1, σ.ev p.2)) ((zrT P T).map .d))) := by
  obtain ⟨inf, z, hi, hz, hzc⟩ := zrT_spec h1
  unfold tfld at h2
  split at h2
  · rename_i fs hu
    obtain ⟨places, hp, hg⟩ := places_of (P := P) fs.toList (fun f hf => by
      have := Array.all_eq_true_iff_forall_mem.1 h2 f (by simpa using hf)
      simpa using this)
    have hpl : ∀ i o' sz, foff P T i = some (o', sz) → (fun x => places.toArray[x]?) i = some (o', sz) := by
      intro i o' sz ho
      unfold foff at ho
      rw [hu] at ho
      simp only at ho
      split at ho
      · rename_i fd hfd
        split at ho
        · rename_i inf' hinf
          split at ho
          · cases ho
          · cases ho
            simpa using hg i fd inf' (by simpa using hfd) hinf
        · cases ho
      · cases ho
    obtain ⟨cells, hf, hl⟩ := fill_LR (ρ := ρ) (S := Sof A0 σ.B ρ σ.m w) (w := w) (m := σ.m) hpl (parts.toList.map fun p => (p.1, σ.ev p.2)) (parts.map fun p => (p.1, a.eval p.2)).toList ((zrT P T).map .d) z.cells
      (by simp) (fun j p q hp hq => by
        simp only [List.getElem?_map, Array.toList_map] at hp hq
        cases hx : parts.toList[j]? with
        | none => simp [hx] at hp
        | some x =>
          simp only [hx, Option.map_some, Option.some.injEq] at hp hq
          subst hp hq
          exact ⟨rfl, h.ev x.2⟩) (zcells_LR _ _ hzc) h3
    refine ⟨.agg cells, fun w' _ => ?_, ?_⟩
    · have hb : P.built T (parts.map fun p => (p.1, a.eval p.2)).toList = some cells := by
        unfold Program.built
        simp only [hi, hu, hz, hp]
        exact hf
      simp only [execOp]
      rw [Sem.run_bind, run_build w' T _ cells hb]
      rfl
    · simp only [VR]
      exact ⟨cells.toList, by simp, hl⟩
  · cases h2
end
end Go.Vs
