/-
  FEV: a part of a proof of this seat: the value-level semantics of Go code without maps, its walk rules, the frame of a row, facts of types, schedules, walks, plain lemmas (REV). It holds of every program and state that its hypotheses name.
-/
import Derived.Test.YtglilmkmkdkedaaGreatDoorEV1B3
import Derived.Test.YtglilmkmkdkedaaGreatDoorEV1R1
import Derived.Test.YtglilmkmkdkedaaGreatDoorRows
import Derived.Test.YtglilmkmkdkedaaGreatDoorChecked
import Derived.Test.YtglilmkmkdkedaaGreatDoorCards
import Derived.Test.YtglilmkmkdkedaaGreatDoorTie
set_option linter.unusedSimpArgs false
set_option linter.unusedVariables false
set_option linter.unnecessarySimpa false
namespace Go.Proofs.YtglilmkmkdkedaaGreatDoor
open Go.Vs Go.Proofs Go
set_option maxRecDepth 100000
set_option maxHeartbeats 1000000
open Go.ChangeShapes Go.WideShapes Go.ChangeAt Go.RowKit Go.ChangeMaps
set_option linter.unusedVariables false
theorem ownKn : ownKnob Tryz.prog.godebug = none:=by kernel_rfl
theorem one_at {W : World} (h : laidMetH Tryz.prog [("loop.example/g01917/impl.oneRational",Rows.laid_loop_example_g01917_impl_oneRational)] W) : ∃ T f,W.heap[0]? = some (.cells #[.int .i64 1,.int .i64 1] T f):=by
 rw [MakeChecks.laidMetH_plain _ _ _ (by kernel_rfl)] at h
 exact one_of_laid (t:=87) (by kernel_rfl) (by kernel_rfl) (by kernel_rfl) (by kernel_rfl) (by kernel_rfl) (by kernel_rfl) (by kernel_rfl) h
theorem o_S_I : Opens Tryz.prog 26 (cS cI) (okS okI):=
 (opens_slice (e:=3) (sz:=1) (by kernel_rfl) (by kernel_rfl) (by omega) (fun _=>rfl) (opens_int (k:=.i64) (by kernel_rfl))).map (fun s=>s) (fun _=>rfl) (fun s h=>⟨h.2.1,fun a ha=>trivial⟩)
theorem o_S_S_I : Opens Tryz.prog 31 (cS (cS cI)) (okS (okS okI)):=
 (opens_slice (e:=26) (sz:=1) (by kernel_rfl) (by kernel_rfl) (by omega) (fun _=>rfl) o_S_I).map (fun s=>s) (fun _=>rfl) (fun s h=>⟨h.2.1,fun a ha=>h.2.2 a ha⟩)
theorem o_Reln : Opens Tryz.prog 107 cReln okReln:=
 (opens_struct (P:=Tryz.prog) (t:=107) (l:=[(0,3),(1,31)]) (n:=2) (by kernel_rfl) (by kernel_rfl) (opensF_cons (k:=1) (by kernel_rfl) (fun _=>rfl) (opens_int (k:=.i64) (by kernel_rfl)) (opensF_cons (k:=1) (by kernel_rfl) (fun _=>rfl) o_S_S_I (opensF_nil _)))).map (fun x=>(⟨x.1,x.2.1⟩ : Reln)) (fun a=>rfl) (fun a h=>⟨trivial,h.2.1⟩)
theorem o_Tab : Opens Tryz.prog 109 cTab okTab:=
 (opens_struct (P:=Tryz.prog) (t:=109) (l:=[(0,9),(1,107)]) (n:=3) (by kernel_rfl) (by kernel_rfl) (opensF_cons (k:=1) (by kernel_rfl) (fun _=>rfl) (opens_str (by kernel_rfl)) (opensF_cons (k:=2) (by kernel_rfl) (fun _=>rfl) o_Reln (opensF_nil _)))).map (fun x=>(⟨x.1,x.2.1⟩ : Tab)) (fun a=>rfl) (fun a h=>⟨h.1,h.2.1⟩)
theorem o_S_Tab : Opens Tryz.prog 22 (cS cTab) (okS okTab):=
 (opens_slice (e:=109) (sz:=3) (by kernel_rfl) (by kernel_rfl) (by omega) (fun _=>rfl) o_Tab).map (fun s=>s) (fun _=>rfl) (fun s h=>⟨h.2.1,fun a ha=>h.2.2 a ha⟩)
theorem o_Db : Opens Tryz.prog 24 cDb okDb:=
 (opens_struct (P:=Tryz.prog) (t:=24) (l:=[(0,22)]) (n:=1) (by kernel_rfl) (by kernel_rfl) (opensF_cons (k:=1) (by kernel_rfl) (fun _=>rfl) o_S_Tab (opensF_nil _))).map (fun x=>(⟨x.1⟩ : Db)) (fun a=>rfl) (fun a h=>h.1)
theorem o_Atom : Opens Tryz.prog 111 cAtom okAtom:=
 (opens_struct (P:=Tryz.prog) (t:=111) (l:=[(0,9),(1,26)]) (n:=2) (by kernel_rfl) (by kernel_rfl) (opensF_cons (k:=1) (by kernel_rfl) (fun _=>rfl) (opens_str (by kernel_rfl)) (opensF_cons (k:=1) (by kernel_rfl) (fun _=>rfl) o_S_I (opensF_nil _)))).map (fun x=>(⟨x.1,x.2.1⟩ : Atom)) (fun a=>rfl) (fun a h=>⟨h.1,h.2.1⟩)
theorem o_S_Atom : Opens Tryz.prog 25 (cS cAtom) (okS okAtom):=
 (opens_slice (e:=111) (sz:=2) (by kernel_rfl) (by kernel_rfl) (by omega) (fun _=>rfl) o_Atom).map (fun s=>s) (fun _=>rfl) (fun s h=>⟨h.2.1,fun a ha=>h.2.2 a ha⟩)
theorem o_Query : Opens Tryz.prog 28 cQuery okQuery:=
 (opens_struct (P:=Tryz.prog) (t:=28) (l:=[(0,3),(1,25),(2,26)]) (n:=3) (by kernel_rfl) (by kernel_rfl) (opensF_cons (k:=1) (by kernel_rfl) (fun _=>rfl) (opens_int (k:=.i64) (by kernel_rfl)) (opensF_cons (k:=1) (by kernel_rfl) (fun _=>rfl) o_S_Atom (opensF_cons (k:=1) (by kernel_rfl) (fun _=>rfl) o_S_I (opensF_nil _))))).map (fun x=>(⟨x.1,x.2.1,x.2.2.1⟩ : Query)) (fun a=>rfl) (fun a h=>⟨trivial,h.2.1,h.2.2.1⟩)
theorem o_Dec : Opens Tryz.prog 57 cDec okDec:=
 (opens_struct (P:=Tryz.prog) (t:=57) (l:=[(0,31),(1,26)]) (n:=2) (by kernel_rfl) (by kernel_rfl) (opensF_cons (k:=1) (by kernel_rfl) (fun _=>rfl) o_S_S_I (opensF_cons (k:=1) (by kernel_rfl) (fun _=>rfl) o_S_I (opensF_nil _)))).map (fun x=>(⟨x.1,x.2.1⟩ : Dec)) (fun a=>rfl) (fun a h=>⟨h.1,h.2.1⟩)
namespace evaluateByDecomposition
theorem contract (H : Type) (enc : TypeId × Value -> H) (W : World) (base : Nat) (args : Array Value) (ds gs : List (DataW H)) (before : List MemPlace)
  (hval : ∀ (j : Nat) t v,Tryz.f6.params[j]? = some t -> args[j]? = some v -> Value.okWide Tryz.prog W .any base t v)
  (hW : DataW.Whole enc Tryz.prog Tryz.f6.params.toList Rows.fnExactEvaluateByDecompositionSpec.vars false W args.toList ds gs before) (hL : laidMetH Tryz.prog [("loop.example/g01917/impl.oneRational",Rows.laid_loop_example_g01917_impl_oneRational)] W) :
  Calls Tryz.prog 6 args W fun e W'=>∃ v,e = .returned v /\ Rows.fnExactEvaluateByDecompositionSpec.post enc Tryz.prog Tryz.f6 false true false false W args v W':=by
 have hW':=hW
 have hone:=one_at hL
 have hz : 0 < W.heap.size:=by
  obtain ⟨T,f,hh⟩:=hone
  have:=(Array.getElem?_eq_some_iff.1 hh).1
  omega
 obtain ⟨p,q,hA,hV,rfl,hfz,hnd⟩:=hW
 rw [Tryz.params6] at hA hval
 obtain ⟨v0,vs0,d0,ds0,p0,q0,hargs,rfl,rfl,t0,s0⟩:=trodAll_cons hA
 obtain ⟨v1,vs1,d1,ds1,p1,q1,rfl,rfl,rfl,t1,s1⟩:=trodAll_cons s0
 obtain ⟨v2,vs2,d2,ds2,p2,q2,rfl,rfl,rfl,t2,s2⟩:=trodAll_cons s1
 obtain ⟨rfl,rfl,rfl⟩:=trodAll_nil s2
 obtain rfl : args = #[v0,v1,v2]:=by cases args; simp_all
 obtain ⟨a0,h0,r0⟩:=arg_agg o_Db (l:=[(0,22)]) (by kernel_rfl) (hval 0 24 v0 rfl rfl) t0 hz
 obtain ⟨a1,h1,r1⟩:=arg_agg o_Query (l:=[(0,3),(1,25),(2,26)]) (by kernel_rfl) (hval 1 28 v1 rfl rfl) t1 hz
 obtain ⟨a2,h2,r2⟩:=arg_agg o_Dec (l:=[(0,31),(1,26)]) (by kernel_rfl) (hval 2 57 v2 rfl rfl) t2 hz
 refine row_ofT (b:=4) (n := "loop.example/g01917/impl.oneRational") (by kernel_rfl) (of_decide_eq_true (by kernel_rfl)) rfl (by kernel_rfl) (fun ds g h=>?_) (by kernel_rfl) (by kernel_rfl) hW' (glob_of (by kernel_rfl) hone) [.agg ((cDb a0).map V.d),.agg ((cQuery a1).map V.d),.agg ((cDec a2).map V.d)] ⟨r0,r1,r2,trivial⟩ (w_laws_FnExactEvaluateByDecomposition a0 a1 a2 h0 h1 h2)
 match ds,h with
 | [d1,d2,d3],_=>rfl
theorem lifted (os : Os) (started : os.Started) (H : Type) (enc : TypeId × Value -> H) :
  ReturnsInHanded {} Tryz.checked os 6 .any (fun w args=>(Rows.fnExactEvaluateByDecompositionSpec.pre enc Tryz.prog Tryz.f6 [] false w args /\ laidMetH Tryz.prog [("loop.example/g01917/impl.oneRational",Rows.laid_loop_example_g01917_impl_oneRational)] w) /\ sizedMet enc Tryz.prog Tryz.f6 (OpenSpec.ofChange Rows.fnExactEvaluateByDecompositionSpec) false w args)
   (Rows.fnExactEvaluateByDecompositionSpec.post enc Tryz.prog Tryz.f6 false true false false):=by
 refine returnsInHanded_of_change_and (C:=Tryz.checked) (X:=fun w _=>laidMetH Tryz.prog [("loop.example/g01917/impl.oneRational",Rows.laid_loop_example_g01917_impl_oneRational)] w) (fun _ _ _ hh h=>h.of_heap hh) ownKn started (by kernel_rfl) Tryz.func6
  (ChangeSpec.witness_shaped (enc:=enc) (C:=Tryz.checked) (os:=os) (X:=fun w _=>laidMetH Tryz.prog [("loop.example/g01917/impl.oneRational",Rows.laid_loop_example_g01917_impl_oneRational)] w) false (World.laidAll Tryz.prog os [("loop.example/g01917/impl.oneRational",Rows.laid_loop_example_g01917_impl_oneRational)]) #[.agg #[.slice none 0 0],.agg #[.int .i64 0,.slice none 0 0,.slice none 0 0],.agg #[.slice none 0 0,.slice none 0 0]] 8 (World.laidAll_os _ _ _) (World.shaped_of_ZipB (by kernel_rfl) (by kernel_rfl)) (by kernel_rfl) (by kernel_rfl) (by kernel_rfl)
   (by rw [MakeChecks.laidMetH_plain _ _ _ (by kernel_rfl)]; exact laidMet_laidAll _ (by kernel_rfl) (by kernel_rfl))) ?_
 intro W base args ds gs before hval hW _ _ hL _
 exact contract H enc W base args ds gs before hval hW hL
theorem over : Rows.fnExactEvaluateByDecompositionRow.holds Tryz.pinned (OpenSpec.ofChange Rows.fnExactEvaluateByDecompositionSpec):=
 OpenClaim.holds_of_wide 6 Tryz.f6 rfl rfl rfl rfl rfl rfl rfl ⟨rfl,rfl,rfl,rfl,rfl⟩ rfl rfl rfl rfl rfl (by kernel_rfl) Tryz.func6 (by kernel_rfl)
  (of_decide_eq_true (by kernel_rfl)) (by unfold Func.isWrapper; first | (rw [if_pos (by decide +kernel)]; kernel_rfl) | (rw [if_neg (by decide +kernel)]; exact ⟨rfl,rfl⟩))
  (fun os started H enc _=>lifted os started H enc)
theorem proved : Rows.FnExactEvaluateByDecompositionCardSaid:=
 Claim7.holds_tied_plain_at .later [] [.data] true (true, "af5abbdc3a519a526fd1dd3fd5e6b27d26f638c6e3fba85876d02bd370b1cf2e") false over (fun _ h=>by cases h) (by kernel_rfl) (fun _ h=>by cases h) fnExactEvaluateByDecomposition_row_tie rfl ⟨rfl,rfl⟩ (by kernel_rfl) rfl
  (fun f fn hf hfn=>by
   obtain rfl : f = 6:=Option.some.inj ((show Tryz.prog.funcNamed "loop.example/g01917/laws.FnExactEvaluateByDecomposition" = some 6 by kernel_rfl).symm.trans hf) |>.symm
   obtain rfl : fn = Tryz.f6:=(Option.some.inj (Tryz.func6.symm.trans hfn)).symm
   exact ⟨by kernel_rfl,fun j t ht=>by
    rw [Tryz.params6] at ht
    have hm : t ∈ [24,28,57]:=by simpa using Array.mem_of_getElem? ht
    have hall : ([24,28,57].all fun u=>!Tryz.prog.wantsStandIn u) = true:=by kernel_rfl
    exact (show Tryz.prog.wantsStandIn t = false by simpa using List.all_eq_true.1 hall t hm)⟩)
  (by kernel_rfl)
end evaluateByDecomposition
end Go.Proofs.YtglilmkmkdkedaaGreatDoor
