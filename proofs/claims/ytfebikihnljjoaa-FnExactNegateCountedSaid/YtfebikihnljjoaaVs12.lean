/-
  Vs12: a part of a proof of this seat: the value-level semantics of Go code without maps (Vs), its walk rules (Vt), the frame of a row (Vr), facts of types, schedules, walks. It holds of every program and state that its hypotheses name.
-/
import Derived.Test.YtfebikihnljjoaaVs11
set_option linter.unusedSimpArgs false
set_option linter.unusedVariables false
namespace Go.Vs
open Go.RowKit

section
variable {P : Program} {E : FuncId → Bool} {A0 : Env} {N : Nat} {w0 : World} {ρ : Nat → Option (Nat × Nat)} {σ : St} {a : Act} {w : World}
variable {S : Nat → Prop} {dst : Option Tmp} {ty : TypeId} {pos : String} {af : Array Edge} {gd : Option (Nat × Bool)}

theorem y_convertInt (h : Rel A0 N w0 ρ σ a w) (s t : TypeId) (x : Operand) (k : IntKind) (hu : P.underlying t = some (.int k)) (h1 : isInt (σ.ev x) = true) (h2 : (P.underlying s).isSome = true) :
    Yld P ρ σ S a w ⟨dst, .convert s t x, ty, pos, af, gd⟩ (.d (.int k (k.wrap (getZ (σ.ev x))))) := by
  obtain ⟨k', _, hx⟩ := VR_int (h.ev x) h1
  obtain ⟨d, hd⟩ := Option.isSome_iff_exists.1 h2
  refine ⟨.int k (k.wrap (getZ (σ.ev x))), fun w' _ => ?_, by simpa only [VR] using DR.int _ _⟩
  simp [execOp, convert, run_underlying hu, run_underlying hd, hx, Conv.intToInt, Sem.run_bind, Sem.run_pure, Result.andThen]

theorem isB_DR {e : List D} (h : isB e = true) : ∃ n, e = [.int .u8 n] := by
  unfold isB at h
  split at h
  · exact ⟨_, rfl⟩
  · cases h

theorem foldl_push (ns : List Int) : ∀ s : ByteArray, ns.foldl (fun r n => r.push (UInt8.ofNat n.toNat)) s = ⟨(s.data.toList ++ ns.map fun n => UInt8.ofNat n.toNat).toArray⟩ := by
  induction ns with
  | nil => intro s; cases s; simp
  | cons n ns ih =>
    intro s
    simp only [List.foldl_cons, List.map_cons]
    rw [ih]
    simp [ByteArray.push]

theorem y_convertBytes (h : Rel A0 N w0 ρ σ a w) (s t : TypeId) (x : Operand) (hu : P.underlying t = some .string) (h1 : elOk σ.m (σ.ev x)) (h2 : (elV σ.m (σ.ev x)).all isB = true)
    (h3 : (tslice P s).isSome = true) (h4 : P.underlying (slT P s).1 = some (.int .u8)) :
    Yld P ρ σ S a w ⟨dst, .convert s t x, ty, pos, af, gd⟩ (.d (.str ((elV σ.m (σ.ev x)).map toB))) := by
  obtain ⟨e, inf, z, hus, hi, hz, hzs, hpos, hsl⟩ := slT_spec h3
  rw [hsl] at h4
  obtain ⟨ad, cap, sz, hv, hcap, hb, hne, hall⟩ := slice_at h (h.ev x) h1
  generalize hes : elV σ.m (σ.ev x) = es at *
  refine ⟨.string ⟨(es.map toB).toArray⟩, fun w' hx => ?_, by simpa only [VR] using DR.str _⟩
  have hconv : (convert s t (a.eval x)).run P w' = (Conv.bytesToString (a.eval x)).run P w' := by
    rw [hv]; exact run_convert_bytes_string w' s t e ad _ _ hus h4 hu
  have hgoal : (Conv.bytesToString (a.eval x)).run P w' = .ok (.string ⟨(es.map toB).toArray⟩) w' := by
    rw [hv]
    cases ad with
    | none =>
      have : es = [] := by
        cases es with
        | nil => rfl
        | cons x r => exact absurd rfl (hne (by simp))
      subst this
      simp [Conv.bytesToString, Sem.run_pure]
      rfl
    | some p =>
      let ns : List Int := es.map fun e => match e with | [.int .u8 n] => n | _ => 0
      have hns : (loadCells p es.length).run P w' = .ok (ns.map (Value.int .u8)).toArray w' := by
        have := run_loadCells_list (P := P) w' p (ns.map (Value.int .u8)) (fun j v hj => by
          rw [List.getElem?_map, List.getElem?_map] at hj
          cases hej : es[j]? with
          | none => simp [hej] at hj
          | some ej =>
            simp only [hej, Option.map_some, Option.some.injEq] at hj
            obtain ⟨n, rfl⟩ := isB_DR (List.all_eq_true.1 h2 ej (List.mem_of_getElem? hej))
            simp only at hj
            obtain ⟨h5, h6⟩ := hall j _ hej
            obtain ⟨p', val, hp', hc, hd⟩ := h6 0 _ rfl
            cases hp'
            cases hd
            rw [hx.cell (by rw [add_block]; exact hb p rfl (Nat.lt_of_lt_of_le (Nat.lt_of_le_of_lt (Nat.zero_le _) (List.getElem?_eq_some_iff.1 hej).1) hcap)), ← hj]
            simp at h5
            rw [← h5] at hc
            simpa using hc)
        simpa [ns] using this
      rw [run_bytesToString w' p es.length cap ns hns, foldl_push]
      have : ns.map (fun n => UInt8.ofNat n.toNat) = es.map toB := by
        simp only [ns, List.map_map]
        apply List.map_congr_left
        intro e he
        obtain ⟨n, rfl⟩ := isB_DR (List.all_eq_true.1 h2 e he)
        rfl
      have e0 : ByteArray.empty.data.toList = [] := rfl
      rw [e0, List.nil_append, this]
  simp only [execOp]
  rw [Sem.run_bind, hconv, hgoal]
  rfl

theorem run_sliceBounds {isSlice : Bool} {len cap l h : Nat} {lo hi : Option Value} (hlo : match lo with | none => l = 0 | some v => ∃ k, v = .int k l) (hhi : match hi with | none => h = len | some v => ∃ k, v = .int k h)
    (h1 : l ≤ h) (h2 : h ≤ len) (h3 : len ≤ cap) (w' : World) : (Instr.sliceBounds isSlice len cap lo hi none).run P w' = .ok (l, h, cap) w' := by
  have hb : ∀ (k : IntKind) (n y : Nat) (code : BoundsCode), n ≤ y → (Instr.sliceBound (.int k n) y code).run P w' = .ok n w' := by
    intro k n y code hn
    have : (n : Int) ≤ (y : Int) := by omega
    simp [Instr.sliceBound, asIntOf, this, Sem.run_bind, Sem.run_pure, Result.andThen, hn]
  cases lo with
  | none =>
    cases hi with
    | none => simp only at hlo hhi; subst hlo hhi; simp [Instr.sliceBounds, Sem.run_bind, Sem.run_pure, Result.andThen]
    | some v =>
      obtain ⟨k, rfl⟩ := hhi
      simp only at hlo; subst hlo
      simp [Instr.sliceBounds, hb k h cap _ (by omega), Sem.run_bind, Sem.run_pure, Result.andThen]
  | some v =>
    obtain ⟨k, rfl⟩ := hlo
    cases hi with
    | none => simp only at hhi; subst hhi; simp [Instr.sliceBounds, hb k l h _ h1, Sem.run_bind, Sem.run_pure, Result.andThen]
    | some v =>
      obtain ⟨k', rfl⟩ := hhi
      simp [Instr.sliceBounds, hb k' h cap _ (by omega), hb k l h _ h1, Sem.run_bind, Sem.run_pure, Result.andThen]

theorem own_lt {k lo n : Nat} (hok : isRow (σ.m k) = true ∧ lo + n ≤ (getL (σ.m k)).length) : ∃ T sz es, σ.m k = some (.row T sz es) ∧ lo + n ≤ es.length := by
  obtain ⟨h1, h2⟩ := hok
  cases hm : σ.m k with
  | none => simp [hm, isRow] at h1
  | some b =>
    cases b with
    | box cs => simp [hm, isRow] at h1
    | row T sz es => exact ⟨T, sz, es, rfl, by simpa [hm, getL] using h2⟩

theorem y_slice (h : Rel A0 N w0 ρ σ a w) (T : TypeId) (x : Operand) (lo hi : Option Operand) (l u : Nat)
    (ht : tstr P T = some (isStr (σ.ev x))) (h1 : lnOk (σ.ev x) = true) (hlo : match lo with | none => l = 0 | some y => isInt (σ.ev y) = true ∧ getZ (σ.ev y) = l) (hhi : match hi with | none => u = lnV (σ.ev x) | some y => isInt (σ.ev y) = true ∧ getZ (σ.ev y) = u)
    (h2 : l ≤ u) (h3 : u ≤ lnV (σ.ev x)) (h4 : cutOk P T σ.m (σ.ev x)) :
    Yld P ρ σ (Sof A0 σ.B ρ σ.m w) a w ⟨dst, .slice T x lo hi none, ty, pos, af, gd⟩ (cutV (σ.ev x) l u) := by
  have hv := h.ev x
  have hlo' : ∀ len : Nat, len = lnV (σ.ev x) → (match lo.map a.eval with | none => l = 0 | some v => ∃ k, v = Value.int k l) ∧ (match hi.map a.eval with | none => u = len | some v => ∃ k, v = Value.int k u) := by
    intro len hlen
    constructor
    · cases lo with
      | none => exact hlo
      | some y =>
        obtain ⟨k, _, hy⟩ := VR_int (h.ev y) hlo.1
        exact ⟨k, by rw [hy, hlo.2]⟩
    · cases hi with
      | none => simp only at hhi; simp [hhi, hlen]
      | some y =>
        obtain ⟨k, _, hy⟩ := VR_int (h.ev y) hhi.1
        exact ⟨k, by rw [hy, hhi.2]⟩
  have fin : ∀ {val : Value}, (∀ w', (Instr.slice T (a.eval x) (lo.map a.eval) (hi.map a.eval) none).run P w' = .ok val w') → (∀ n e, P.underlying T ≠ some (.array n e)) → (∃ d, P.underlying T = some d) →
      ∀ w', (execOp a.eval ⟨dst, .slice T x lo hi none, ty, pos, af, gd⟩).run P w' = .ok (.value val) w' := by
    intro val hr hna hd w'
    obtain ⟨d, hd⟩ := hd
    have : (Instr.sliceAt T (a.eval x) (lo.map a.eval) (hi.map a.eval) none).run P w' = .ok val w' := by
      unfold Instr.sliceAt
      rw [Sem.run_bind, run_underlying hd]
      simp only [Result.andThen]
      cases d <;> first | exact hr w' | exact absurd hd (hna _ _)
    simp only [execOp, Option.map_none]
    rw [Sem.run_bind, this]
    rfl
  cases hx : σ.ev x with
  | d y =>
    rw [hx] at hv ht h1 h3
    simp only [VR] at hv
    generalize ha : a.eval x = va at hv
    cases hv with
    | str s =>
      have hu : P.underlying T = some .string := by unfold tstr at ht; simp only [isStr] at ht; split at ht <;> simp_all
      simp only [lnV] at h3
      refine ⟨.string ⟨((s.drop l).take (u - l)).toArray⟩, fun w' _ => fin (fun w' => ?_) (by simp [hu]) ⟨_, hu⟩ w', by simpa only [cutV, VR] using DR.str _⟩
      have hsz : (⟨s.toArray⟩ : ByteArray).size = s.length := rfl
      obtain ⟨e1, e2⟩ := hlo' s.length (by rw [hx]; rfl)
      have hb := run_sliceBounds (P := P) (isSlice := false) (len := s.length) (cap := s.length) e1 e2 h2 h3 (Nat.le_refl _) w'
      have hex : (⟨s.toArray⟩ : ByteArray).extract l u = ⟨((s.drop l).take (u - l)).toArray⟩ := by
        apply ByteArray.ext
        simp [ByteArray.data_extract]
      simp [Instr.slice, run_underlying hu, ha, hsz, hb, hex, Sem.run_bind, Sem.run_pure, Result.andThen]
    | nil Tw =>
      rw [hx] at h4
      simp only [cutOk] at h4
      obtain ⟨e, inf, z, hu, hi', hz, hzs, hpos, hsl⟩ := slT_spec h4.1
      simp only [lnV, List.length_nil] at h3
      have hl0 : l = 0 := by omega
      have hu0 : u = 0 := by omega
      subst hl0 hu0
      obtain ⟨e1, e2⟩ := hlo' 0 (by rw [hx]; rfl)
      refine ⟨.slice none 0 0, fun w' _ => fin (fun w' => ?_) (by simp [hu]) ⟨_, hu⟩ w', by simpa [cutV, VR] using DR.nil none⟩
      have hb := run_sliceBounds (P := P) (isSlice := true) (len := 0) (cap := 0) e1 e2 h2 h3 (Nat.le_refl _) w'
      simp [Instr.slice, run_underlying hu, ha, hb, sizeOf, typeInfo, hi', Sem.run_bind, Sem.run_pure, Result.andThen]
    | sl g Tw es ad cap sz vs hS hab hcap hm hsz hc hd hw =>
      rw [hx] at h4
      simp only [cutOk] at h4
      obtain ⟨e, inf, z, hu, hi', hz, hzs, hpos, hsl⟩ := slT_spec h4.1
      rw [hsl] at h4
      simp only [lnV] at h3
      obtain ⟨e1, e2⟩ := hlo' es.length (by rw [hx]; rfl)
      refine ⟨.slice (some (if cap = l then ad else ad.add (l * inf.size))) (u - l) (cap - l), fun w' _ => fin (fun w' => ?_) (by simp [hu]) ⟨_, hu⟩ w', ?_⟩
      · have hb := run_sliceBounds (P := P) (isSlice := true) (len := es.length) (cap := cap) e1 e2 h2 h3 hcap w'
        simp [Instr.slice, run_underlying hu, ha, hb, sizeOf, typeInfo, hi', Sem.run_bind, Sem.run_pure, Result.andThen]
        split <;> rfl
      · simp only [cutV, VR]
        have hlen : ((es.drop l).take (u - l)).length = u - l := by simp; omega
        have hat : ∀ (i : Nat) (e : List D), ((es.drop l).take (u - l))[i]? = some e → i < u - l ∧ es[l + i]? = some e := by
          intro i e he
          rw [List.getElem?_take] at he
          split at he
          · rename_i hi; exact ⟨hi, by rwa [List.getElem?_drop] at he⟩
          · cases he
        have hsz2 : ∀ (i : Nat) (e : List D), ((es.drop l).take (u - l))[i]? = some e → sz = inf.size := by
          intro i e he
          obtain ⟨_, he⟩ := hat i e he
          exact (hsz _ _ he).symm.trans (h4.2 e (List.mem_of_getElem? he))
        have := DR.sl (S := Sof A0 σ.B ρ σ.m w) (w := w) g none ((es.drop l).take (u - l)) (if cap = l then ad else ad.add (l * inf.size)) (cap - l) sz (fun x => vs (l * sz + x)) hS
          (fun hp => by rw [if_neg (by omega)]; simp [add_block, hab (by omega)]) (by omega) (by unfold maxLen at *; omega)
          (fun i e he => hsz _ _ (hat i e he).2)
          (fun i e he j v hv => by
            obtain ⟨hi, he'⟩ := hat i e he
            have hne : ¬ cap = l := by omega
            have h5 := hc _ _ he' j v hv
            rw [if_neg hne, add_add', ← hsz2 i e he]
            have : (l + i) * sz + j = l * sz + (i * sz + j) := by rw [Nat.add_mul]; omega
            rw [this] at h5
            exact h5)
          (fun i e he j v hv => by
            obtain ⟨hi, he'⟩ := hat i e he
            have h5 := hd _ _ he' j v hv
            have : (l + i) * sz + j = l * sz + (i * sz + j) := by rw [Nat.add_mul]; omega
            rw [this] at h5
            exact h5)
          (by simp)
        rw [hlen] at this
        exact this
    | _ => simp [lnOk] at h1
  | own k lo' n =>
    rw [hx] at hv ht h1 h3 h4
    simp only [cutOk] at h4
    obtain ⟨ht1, ht2, hok⟩ := h4
    obtain ⟨e, inf, z, hu, hi', hz, hzs, hpos, hsl⟩ := slT_spec ht1
    obtain ⟨Te, sz, es, hm, hl⟩ := own_lt (σ := σ) hok
    rw [hsl, hm] at ht2
    simp only [szOf] at ht2
    subst ht2
    simp only [lnV] at h3
    simp only [VR, hm] at hv
    obtain ⟨_, hv⟩ := hv
    obtain ⟨e1, e2⟩ := hlo' n (by rw [hx]; rfl)
    cases hr : ρ k with
    | none =>
      rw [hr] at hv
      obtain ⟨ha, rfl, rfl⟩ := hv
      have hl0 : l = 0 := by omega
      have hu0 : u = 0 := by omega
      subst hl0 hu0
      refine ⟨.slice none 0 0, fun w' _ => fin (fun w' => ?_) (by simp [hu]) ⟨_, hu⟩ w', ?_⟩
      · have hb := run_sliceBounds (P := P) (isSlice := true) (len := 0) (cap := 0) e1 e2 h2 h3 (Nat.le_refl _) w'
        simp [Instr.slice, run_underlying hu, ha, hb, sizeOf, typeInfo, hi', Sem.run_bind, Sem.run_pure, Result.andThen]
      · simp [cutV, VR, hm, hr, OwnV]
    | some p =>
      obtain ⟨g, cap⟩ := p
      rw [hr] at hv
      obtain ⟨ad, c, ha, hab, hnc, hcm, hz', hp⟩ := hv
      refine ⟨.slice (some (if c = l then ad else ad.add (l * inf.size))) (u - l) (c - l), fun w' _ => fin (fun w' => ?_) (by simp [hu]) ⟨_, hu⟩ w', ?_⟩
      · have hb := run_sliceBounds (P := P) (isSlice := true) (len := n) (cap := c) e1 e2 h2 h3 hnc w'
        simp [Instr.slice, run_underlying hu, ha, hb, sizeOf, typeInfo, hi', Sem.run_bind, Sem.run_pure, Result.andThen]
        split <;> rfl
      · simp only [cutV, VR, hm, hr, OwnV]
        refine ⟨by omega, _, _, rfl, ?_, by omega, by unfold maxLen at *; omega, ?_, ?_⟩
        · split <;> simp [add_block, hab]
        · intro h0
          have hl0 : l = 0 := by omega
          have hlo0 : lo' = 0 := by omega
          subst hl0
          obtain ⟨h6, h7⟩ := hz' hlo0
          subst h6 h7
          constructor
          · split
            · rfl
            · simp [add_lit]
          · omega
        · intro hpos'
          rw [if_neg (by omega), hp (by omega), add_lit, Nat.add_mul]
  | _ => rw [hx] at h1; simp [lnOk] at h1
end
end Go.Vs
