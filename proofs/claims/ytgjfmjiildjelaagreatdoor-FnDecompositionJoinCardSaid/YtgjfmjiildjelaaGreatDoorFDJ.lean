/-
  A part of a proof of this seat: a value-level semantics of Go code without maps, walks, plain lemmas. It holds of all that its hypotheses name.
-/
import Derived.Test.YtgjfmjiildjelaaGreatDoorDJ1B3
import Derived.Test.YtgjfmjiildjelaaGreatDoorDJ1R1
import Derived.Test.YtgjfmjiildjelaaGreatDoorRows
import Derived.Test.YtgjfmjiildjelaaGreatDoorChecked
import Derived.Test.YtgjfmjiildjelaaGreatDoorCards
import Derived.Test.YtgjfmjiildjelaaGreatDoorTie
set_option linter.unusedSimpArgs false
set_option linter.unusedVariables false
set_option linter.unnecessarySimpa false
namespace Go.Proofs.YtgjfmjiildjelaaGreatDoor
open Go.Vs Go.Proofs Go
set_option maxRecDepth 100000
set_option maxHeartbeats 1000000
open Go.ChangeShapes Go.WideShapes Go.ChangeAt Go.RowKit Go.ChangeMaps
set_option linter.unusedVariables false
theorem ownKn : ownKnob Tryz.prog.godebug = none:=by kernel_rfl
theorem one_at {W : World} (h : laidMetH Tryz.prog [("loop.example/g01917/impl.oneRational",Rows.laid_loop_example_g01917_impl_oneRational)] W) : ∃ T f,W.heap[0]? = some (.cells #[.int .i64 1,.int .i64 1] T f):=by
 rw [MakeChecks.laidMetH_plain _ _ _ (by kernel_rfl)] at h
 exact uE (t:=62) (by kernel_rfl) (by kernel_rfl) (by kernel_rfl) (by kernel_rfl) (by kernel_rfl) (by kernel_rfl) (by kernel_rfl) h
theorem o_S_B : lX Tryz.prog 22 (cS cW) (okS okI):=
 (uF (e:=5) (sz:=1) (by kernel_rfl) (by kernel_rfl) (by omega) (fun _=>rfl) (zM (k:=.u8) (by kernel_rfl))).map (fun s=>s) (fun _=>rfl) (fun s h=>⟨h.2.1,fun a ha=>trivial⟩)
namespace fnDecompositionJoin
theorem contract (H : Type) (enc : TypeId × Value -> H) (W : World) (base : Nat) (args : Array Value) (ds gs : List (DataW H)) (before : List MemPlace)
  (hval : ∀ (j : Nat) t v,Tryz.f3.params[j]? = some t -> args[j]? = some v -> Value.okWide Tryz.prog W .any base t v)
  (hW : DataW.Whole enc Tryz.prog Tryz.f3.params.toList Rows.fnDecompositionJoinSpec.vars false W args.toList ds gs before) (hL : laidMetH Tryz.prog [("loop.example/g01917/impl.oneRational",Rows.laid_loop_example_g01917_impl_oneRational)] W) :
  Calls Tryz.prog 3 args W fun e W'=>∃ v,e = .returned v /\ Rows.fnDecompositionJoinSpec.post enc Tryz.prog Tryz.f3 false true false false W args v W':=by
 have hW':=hW
 have hone:=one_at hL
 have hz : 0 < W.heap.size:=by
  obtain ⟨T,f,hh⟩:=hone
  have:=(Qh.1 hh).1
  omega
 obtain ⟨p,q,hA,hV,rfl,hfz,hnd⟩:=hW
 rw [Tryz.params3] at hA hval
 obtain ⟨v0,vs0,d0,ds0,p0,q0,hargs,rfl,rfl,t0,s0⟩:=trodAll_cons hA
 obtain ⟨rfl,rfl,rfl⟩:=trodAll_nil s0
 obtain rfl : args = #[v0]:=by cases args; simp_all
 obtain ⟨a0,h0,r0⟩:=yN (e:=5) (f:=dSl cW) o_S_B (by kernel_rfl) (hval 0 22 v0 rfl rfl) t0 hz
 refine E7 (b:=4) (n := "loop.example/g01917/impl.oneRational") (by kernel_rfl) (of_decide_eq_true (by kernel_rfl)) rfl (by kernel_rfl) (fun ds g h=>?_) (by kernel_rfl) (by kernel_rfl) hW' (Et (by kernel_rfl) hone) [.d (dSl cW a0)] ⟨r0,trivial⟩ (g9 a0 )
 match ds,h with
 | [d1],_=>rfl
theorem lifted (os : Os) (started : os.Started) (H : Type) (enc : TypeId × Value -> H) :
  ReturnsInHanded {} Tryz.checked os 3 .any (fun w args=>(Rows.fnDecompositionJoinSpec.pre enc Tryz.prog Tryz.f3 [] false w args /\ laidMetH Tryz.prog [("loop.example/g01917/impl.oneRational",Rows.laid_loop_example_g01917_impl_oneRational)] w) /\ sizedMet enc Tryz.prog Tryz.f3 (OpenSpec.ofChange Rows.fnDecompositionJoinSpec) false w args)
   (Rows.fnDecompositionJoinSpec.post enc Tryz.prog Tryz.f3 false true false false):=by
 refine returnsInHanded_of_change_and (C:=Tryz.checked) (X:=fun w _=>laidMetH Tryz.prog [("loop.example/g01917/impl.oneRational",Rows.laid_loop_example_g01917_impl_oneRational)] w) (fun _ _ _ hh h=>h.of_heap hh) ownKn started (by kernel_rfl) Tryz.func3
  (ChangeSpec.witness_shaped (enc:=enc) (C:=Tryz.checked) (os:=os) (X:=fun w _=>laidMetH Tryz.prog [("loop.example/g01917/impl.oneRational",Rows.laid_loop_example_g01917_impl_oneRational)] w) false (World.laidAll Tryz.prog os [("loop.example/g01917/impl.oneRational",Rows.laid_loop_example_g01917_impl_oneRational)]) #[.slice none 0 0] 8 (World.laidAll_os _ _ _) (World.shaped_of_ZipB (by kernel_rfl) (by kernel_rfl)) (by kernel_rfl) (by kernel_rfl) (by kernel_rfl)
   (by rw [MakeChecks.laidMetH_plain _ _ _ (by kernel_rfl)]; exact laidMet_laidAll _ (by kernel_rfl) (by kernel_rfl))) ?_
 intro W base args ds gs before hval hW _ _ hL _
 exact contract H enc W base args ds gs before hval hW hL
theorem over : Rows.fnDecompositionJoinRow.holds Tryz.pinned (OpenSpec.ofChange Rows.fnDecompositionJoinSpec):=
 OpenClaim.holds_of_wide 3 Tryz.f3 rfl rfl rfl rfl rfl rfl rfl ⟨rfl,rfl,rfl,rfl,rfl⟩ rfl rfl rfl rfl rfl (by kernel_rfl) Tryz.func3 (by kernel_rfl)
  (of_decide_eq_true (by kernel_rfl)) (by unfold Func.isWrapper; first | (rw [if_pos (by decide +kernel)]; kernel_rfl) | (rw [if_neg (by decide +kernel)]; exact ⟨rfl,rfl⟩))
  (fun os started H enc _=>lifted os started H enc)
theorem proved : Rows.FnDecompositionJoinCardSaid:=
 Claim7.holds_tied_plain_at .later [] [.data] true (true, "985fa48a2144d03866d6f49d03a1d177039a3e45bb56626bbc080b292e2aa7c2") false over (fun _ h=>by cases h) (by kernel_rfl) (fun _ h=>by cases h) fnDecompositionJoin_row_tie rfl ⟨rfl,rfl⟩ (by kernel_rfl) rfl
  (fun f fn hf hfn=>by
   obtain rfl : f = 3:=Option.some.inj ((show Tryz.prog.funcNamed "loop.example/g01917/laws.FnDecompositionJoin" = some 3 by kernel_rfl).symm.trans hf) |>.symm
   obtain rfl : fn = Tryz.f3:=(Option.some.inj (Tryz.func3.symm.trans hfn)).symm
   exact ⟨by kernel_rfl,fun j t ht=>by
    rw [Tryz.params3] at ht
    have hm : t ∈ [22]:=by simpa using Array.mem_of_getElem? ht
    have hall : ([22].all fun u=>!Tryz.prog.wantsStandIn u) = true:=by kernel_rfl
    exact (show Tryz.prog.wantsStandIn t = false by simpa using Jk.1 hall t hm)⟩)
  (by kernel_rfl)
end fnDecompositionJoin
end Go.Proofs.YtgjfmjiildjelaaGreatDoor
