/-
  EV1B1: a part of a proof of this seat: the value-level semantics of Go code without maps, its walk rules, the frame of a row, facts of types, schedules, walks, plain lemmas (Facts1 Sched1 H0 HP1 HP2 H1 HP3 P1 P1b P1c P1d Q1 Q2 Q3 V1 P2 N1 M1 P5 P5b M2 M3 M4 S12 P5e). It holds of every program and state that its hypotheses name.
-/
import Derived.Test.YtglilmkmkdkedaaGreatDoorEV1A5
import Derived.Test.YtglilmkmkdkedaaGreatDoorProg
import Derived.KernelRfl
set_option linter.unusedSimpArgs false
set_option linter.unusedVariables false
set_option linter.unnecessarySimpa false
namespace Go.Proofs.YtglilmkmkdkedaaGreatDoor
open Go.Vs Go.Proofs
theorem gcs0 : gcs Tryz.prog 0 = [1,1]:=by kernel_rfl
theorem gis0 : ((gdat Tryz.prog).lookup 0).isSome = true:=by kernel_rfl
theorem tsz3 : tsz Tryz.prog 3 = some 1:=by kernel_rfl
theorem tsz4 : tsz Tryz.prog 4 = some 1:=by kernel_rfl
theorem tsz9 : tsz Tryz.prog 9 = some 1:=by kernel_rfl
theorem tsz22 : tsz Tryz.prog 22 = some 1:=by kernel_rfl
theorem tsz24 : tsz Tryz.prog 24 = some 1:=by kernel_rfl
theorem tsz25 : tsz Tryz.prog 25 = some 1:=by kernel_rfl
theorem tsz26 : tsz Tryz.prog 26 = some 1:=by kernel_rfl
theorem tsz28 : tsz Tryz.prog 28 = some 3:=by kernel_rfl
theorem tsz31 : tsz Tryz.prog 31 = some 1:=by kernel_rfl
theorem tsz33 : tsz Tryz.prog 33 = some 2:=by kernel_rfl
theorem tsz35 : tsz Tryz.prog 35 = some 3:=by kernel_rfl
theorem tsz38 : tsz Tryz.prog 38 = some 1:=by kernel_rfl
theorem tsz40 : tsz Tryz.prog 40 = some 1:=by kernel_rfl
theorem tsz42 : tsz Tryz.prog 42 = some 1:=by kernel_rfl
theorem tsz44 : tsz Tryz.prog 44 = some 3:=by kernel_rfl
theorem tsz57 : tsz Tryz.prog 57 = some 2:=by kernel_rfl
theorem tsz61 : tsz Tryz.prog 61 = some 2:=by kernel_rfl
theorem tsz81 : tsz Tryz.prog 81 = some 2:=by kernel_rfl
theorem tsz87 : tsz Tryz.prog 87 = some 2:=by kernel_rfl
theorem tsz102 : tsz Tryz.prog 102 = some 1:=by kernel_rfl
theorem tsz107 : tsz Tryz.prog 107 = some 2:=by kernel_rfl
theorem tsz109 : tsz Tryz.prog 109 = some 3:=by kernel_rfl
theorem tsz111 : tsz Tryz.prog 111 = some 2:=by kernel_rfl
theorem tsz124 : tsz Tryz.prog 124 = some 3:=by kernel_rfl
theorem tsz127 : tsz Tryz.prog 127 = some 1:=by kernel_rfl
theorem tsz130 : tsz Tryz.prog 130 = some 1:=by kernel_rfl
theorem tsz132 : tsz Tryz.prog 132 = some 3:=by kernel_rfl
theorem tsz164 : tsz Tryz.prog 164 = some 1:=by kernel_rfl
theorem tagg3 : tagg Tryz.prog 3 = some false:=by kernel_rfl
theorem tagg4 : tagg Tryz.prog 4 = some false:=by kernel_rfl
theorem tagg9 : tagg Tryz.prog 9 = some false:=by kernel_rfl
theorem tagg22 : tagg Tryz.prog 22 = some false:=by kernel_rfl
theorem tagg24 : tagg Tryz.prog 24 = some true:=by kernel_rfl
theorem tagg25 : tagg Tryz.prog 25 = some false:=by kernel_rfl
theorem tagg26 : tagg Tryz.prog 26 = some false:=by kernel_rfl
theorem tagg28 : tagg Tryz.prog 28 = some true:=by kernel_rfl
theorem tagg31 : tagg Tryz.prog 31 = some false:=by kernel_rfl
theorem tagg33 : tagg Tryz.prog 33 = some true:=by kernel_rfl
theorem tagg35 : tagg Tryz.prog 35 = some true:=by kernel_rfl
theorem tagg38 : tagg Tryz.prog 38 = some false:=by kernel_rfl
theorem tagg40 : tagg Tryz.prog 40 = some true:=by kernel_rfl
theorem tagg42 : tagg Tryz.prog 42 = some false:=by kernel_rfl
theorem tagg44 : tagg Tryz.prog 44 = some true:=by kernel_rfl
theorem tagg57 : tagg Tryz.prog 57 = some true:=by kernel_rfl
theorem tagg61 : tagg Tryz.prog 61 = some true:=by kernel_rfl
theorem tagg81 : tagg Tryz.prog 81 = some true:=by kernel_rfl
theorem tagg87 : tagg Tryz.prog 87 = some true:=by kernel_rfl
theorem tagg102 : tagg Tryz.prog 102 = some true:=by kernel_rfl
theorem tagg107 : tagg Tryz.prog 107 = some true:=by kernel_rfl
theorem tagg109 : tagg Tryz.prog 109 = some true:=by kernel_rfl
theorem tagg111 : tagg Tryz.prog 111 = some true:=by kernel_rfl
theorem tagg124 : tagg Tryz.prog 124 = some true:=by kernel_rfl
theorem tagg127 : tagg Tryz.prog 127 = some false:=by kernel_rfl
theorem tagg130 : tagg Tryz.prog 130 = some false:=by kernel_rfl
theorem tagg132 : tagg Tryz.prog 132 = some true:=by kernel_rfl
theorem tagg164 : tagg Tryz.prog 164 = some false:=by kernel_rfl
theorem tzero3 : tzero Tryz.prog 3 = some [.int .i64 0]:=by kernel_rfl
theorem tzero4 : tzero Tryz.prog 4 = some [.bool false]:=by kernel_rfl
theorem tzero26 : tzero Tryz.prog 26 = some [.sl none none []]:=by kernel_rfl
theorem tzero33 : tzero Tryz.prog 33 = some [.int .i64 0,.sl none none []]:=by kernel_rfl
theorem tzero35 : tzero Tryz.prog 35 = some [.sl none none [],.int .i64 0,.sl none none []]:=by kernel_rfl
theorem tzero40 : tzero Tryz.prog 40 = some [.sl none none []]:=by kernel_rfl
theorem tzero44 : tzero Tryz.prog 44 = some [.int .i64 0,.sl none none [],.sl none none []]:=by kernel_rfl
theorem tzero61 : tzero Tryz.prog 61 = some [.sl none none [],.sl none none []]:=by kernel_rfl
theorem tzero81 : tzero Tryz.prog 81 = some [.str [],.sl none none []]:=by kernel_rfl
theorem tzero87 : tzero Tryz.prog 87 = some [.int .i64 0,.int .i64 0]:=by kernel_rfl
theorem tzero102 : tzero Tryz.prog 102 = some [.sl none none []]:=by kernel_rfl
theorem tzero124 : tzero Tryz.prog 124 = some [.str [],.int .i64 0,.sl none none []]:=by kernel_rfl
theorem tzero127 : tzero Tryz.prog 127 = some [.sl none none []]:=by kernel_rfl
theorem tzero130 : tzero Tryz.prog 130 = some [.sl none none []]:=by kernel_rfl
theorem tzero132 : tzero Tryz.prog 132 = some [.sl none none [],.sl none none [],.sl none none []]:=by kernel_rfl
theorem tzeroN164 : (tzero Tryz.prog 164).isSome = false:=by kernel_rfl
theorem zfn164 : zfn Tryz.prog 164 = true:=by kernel_rfl
theorem tslice22 : tslice Tryz.prog 22 = some (109,3,48):=by kernel_rfl
theorem telem22 : telem Tryz.prog 22 = some 109:=by kernel_rfl
theorem tslice25 : tslice Tryz.prog 25 = some (111,2,40):=by kernel_rfl
theorem telem25 : telem Tryz.prog 25 = some 111:=by kernel_rfl
theorem tslice26 : tslice Tryz.prog 26 = some (3,1,8):=by kernel_rfl
theorem telem26 : telem Tryz.prog 26 = some 3:=by kernel_rfl
theorem tslice31 : tslice Tryz.prog 31 = some (26,1,24):=by kernel_rfl
theorem telem31 : telem Tryz.prog 31 = some 26:=by kernel_rfl
theorem tslice38 : tslice Tryz.prog 38 = some (124,3,48):=by kernel_rfl
theorem telem38 : telem Tryz.prog 38 = some 124:=by kernel_rfl
theorem tslice42 : tslice Tryz.prog 42 = some (81,2,40):=by kernel_rfl
theorem telem42 : telem Tryz.prog 42 = some 81:=by kernel_rfl
theorem tslice66 : tslice Tryz.prog 66 = some (35,3,56):=by kernel_rfl
theorem telem66 : telem Tryz.prog 66 = some 35:=by kernel_rfl
theorem tslice127 : tslice Tryz.prog 127 = some (87,2,16):=by kernel_rfl
theorem telem127 : telem Tryz.prog 127 = some 87:=by kernel_rfl
theorem tslice130 : tslice Tryz.prog 130 = some (127,1,24):=by kernel_rfl
theorem telem130 : telem Tryz.prog 130 = some 127:=by kernel_rfl
theorem tslice150 : tslice Tryz.prog 150 = some (4,1,1):=by kernel_rfl
theorem telem150 : telem Tryz.prog 150 = some 4:=by kernel_rfl
theorem tslice154 : tslice Tryz.prog 154 = some (5,1,1):=by kernel_rfl
theorem telem154 : telem Tryz.prog 154 = some 5:=by kernel_rfl
theorem tstr9 : tstr Tryz.prog 9 = some true:=by kernel_rfl
theorem tstr22 : tstr Tryz.prog 22 = some false:=by kernel_rfl
theorem tstr25 : tstr Tryz.prog 25 = some false:=by kernel_rfl
theorem tstr26 : tstr Tryz.prog 26 = some false:=by kernel_rfl
theorem tstr31 : tstr Tryz.prog 31 = some false:=by kernel_rfl
theorem tstr38 : tstr Tryz.prog 38 = some false:=by kernel_rfl
theorem tstr42 : tstr Tryz.prog 42 = some false:=by kernel_rfl
theorem tstr66 : tstr Tryz.prog 66 = some false:=by kernel_rfl
theorem tstr127 : tstr Tryz.prog 127 = some false:=by kernel_rfl
theorem tstr130 : tstr Tryz.prog 130 = some false:=by kernel_rfl
theorem tstr150 : tstr Tryz.prog 150 = some false:=by kernel_rfl
theorem tfld33 : tfld Tryz.prog 33 = true:=by kernel_rfl
theorem tfld35 : tfld Tryz.prog 35 = true:=by kernel_rfl
theorem tfld40 : tfld Tryz.prog 40 = true:=by kernel_rfl
theorem tfld44 : tfld Tryz.prog 44 = true:=by kernel_rfl
theorem tfld61 : tfld Tryz.prog 61 = true:=by kernel_rfl
theorem tfld81 : tfld Tryz.prog 81 = true:=by kernel_rfl
theorem tfld87 : tfld Tryz.prog 87 = true:=by kernel_rfl
theorem tfld102 : tfld Tryz.prog 102 = true:=by kernel_rfl
theorem tfld124 : tfld Tryz.prog 124 = true:=by kernel_rfl
theorem tfld132 : tfld Tryz.prog 132 = true:=by kernel_rfl
theorem foff24_0 : foff Tryz.prog 24 0 = some (0,1):=by kernel_rfl
theorem foff28_0 : foff Tryz.prog 28 0 = some (0,1):=by kernel_rfl
theorem foff28_1 : foff Tryz.prog 28 1 = some (1,1):=by kernel_rfl
theorem foff28_2 : foff Tryz.prog 28 2 = some (2,1):=by kernel_rfl
theorem foff33_0 : foff Tryz.prog 33 0 = some (0,1):=by kernel_rfl
theorem foff33_1 : foff Tryz.prog 33 1 = some (1,1):=by kernel_rfl
theorem foff35_0 : foff Tryz.prog 35 0 = some (0,1):=by kernel_rfl
theorem foff35_1 : foff Tryz.prog 35 1 = some (1,2):=by kernel_rfl
theorem foff40_0 : foff Tryz.prog 40 0 = some (0,1):=by kernel_rfl
theorem foff44_0 : foff Tryz.prog 44 0 = some (0,1):=by kernel_rfl
theorem foff44_1 : foff Tryz.prog 44 1 = some (1,1):=by kernel_rfl
theorem foff44_2 : foff Tryz.prog 44 2 = some (2,1):=by kernel_rfl
theorem foff57_0 : foff Tryz.prog 57 0 = some (0,1):=by kernel_rfl
theorem foff57_1 : foff Tryz.prog 57 1 = some (1,1):=by kernel_rfl
theorem foff61_0 : foff Tryz.prog 61 0 = some (0,1):=by kernel_rfl
theorem foff61_1 : foff Tryz.prog 61 1 = some (1,1):=by kernel_rfl
theorem foff81_0 : foff Tryz.prog 81 0 = some (0,1):=by kernel_rfl
theorem foff81_1 : foff Tryz.prog 81 1 = some (1,1):=by kernel_rfl
theorem foff87_0 : foff Tryz.prog 87 0 = some (0,1):=by kernel_rfl
theorem foff87_1 : foff Tryz.prog 87 1 = some (1,1):=by kernel_rfl
theorem foff102_0 : foff Tryz.prog 102 0 = some (0,1):=by kernel_rfl
theorem foff107_0 : foff Tryz.prog 107 0 = some (0,1):=by kernel_rfl
theorem foff107_1 : foff Tryz.prog 107 1 = some (1,1):=by kernel_rfl
theorem foff109_0 : foff Tryz.prog 109 0 = some (0,1):=by kernel_rfl
theorem foff109_1 : foff Tryz.prog 109 1 = some (1,2):=by kernel_rfl
theorem foff111_0 : foff Tryz.prog 111 0 = some (0,1):=by kernel_rfl
theorem foff111_1 : foff Tryz.prog 111 1 = some (1,1):=by kernel_rfl
theorem foff124_0 : foff Tryz.prog 124 0 = some (0,1):=by kernel_rfl
theorem foff124_1 : foff Tryz.prog 124 1 = some (1,2):=by kernel_rfl
theorem foff132_0 : foff Tryz.prog 132 0 = some (0,1):=by kernel_rfl
theorem foff132_1 : foff Tryz.prog 132 1 = some (1,1):=by kernel_rfl
theorem foff132_2 : foff Tryz.prog 132 2 = some (2,1):=by kernel_rfl
theorem teqk87 : tEqK Tryz.prog 87 = some [.int,.int]:=by kernel_rfl
attribute [simp] gcs0 gis0 tsz3 tsz4 tsz9 tsz22 tsz24 tsz25 tsz26 tsz28 tsz31 tsz33 tsz35 tsz38 tsz40 tsz42 tsz44 tsz57 tsz61 tsz81 tsz87 tsz102 tsz107 tsz109 tsz111 tsz124 tsz127 tsz130 tsz132 tsz164 tagg3 tagg4 tagg9 tagg22 tagg24 tagg25 tagg26 tagg28 tagg31 tagg33 tagg35 tagg38 tagg40 tagg42 tagg44 tagg57 tagg61 tagg81 tagg87 tagg102 tagg107 tagg109 tagg111 tagg124 tagg127 tagg130 tagg132 tagg164 tzero3 tzero4 tzero26 tzero33 tzero35 tzero40 tzero44 tzero61 tzero81 tzero87 tzero102 tzero124 tzero127 tzero130 tzero132 tzeroN164 zfn164 tslice22 telem22 tslice25 telem25 tslice26 telem26 tslice31 telem31 tslice38 telem38 tslice42 telem42 tslice66 telem66 tslice127 telem127 tslice130 telem130 tslice150 telem150 tslice154 telem154 tstr9 tstr22 tstr25 tstr26 tstr31 tstr38 tstr42 tstr66 tstr127 tstr130 tstr150 tfld33 tfld35 tfld40 tfld44 tfld61 tfld81 tfld87 tfld102 tfld124 tfld132 foff24_0 foff28_0 foff28_1 foff28_2 foff33_0 foff33_1 foff35_0 foff35_1 foff40_0 foff44_0 foff44_1 foff44_2 foff57_0 foff57_1 foff61_0 foff61_1 foff81_0 foff81_1 foff87_0 foff87_1 foff102_0 foff107_0 foff107_1 foff109_0 foff109_1 foff111_0 foff111_1 foff124_0 foff124_1 foff132_0 foff132_1 foff132_2 teqk87
end Go.Proofs.YtglilmkmkdkedaaGreatDoor
namespace Go.Proofs.YtglilmkmkdkedaaGreatDoor
open Go.Vs Go.Proofs Go
def E : Md:=⟨fun f=>[18,19,20,21,28,33,38,60,61,65,158].contains f,false⟩
def EP : Md:=⟨E.e,true⟩
@[simp] theorem E_p : E.p = false:=Eq.trans rfl rfl
@[simp] theorem EP_p : EP.p = true:=Eq.trans rfl rfl
theorem E18 : E 18 = true:=rfl
theorem E19 : E 19 = true:=rfl
theorem E20 : E 20 = true:=rfl
theorem E28 : E 28 = true:=rfl
theorem E38 : E 38 = true:=rfl
theorem E60 : E 60 = true:=rfl
theorem E61 : E 61 = true:=rfl
theorem E65 : E 65 = true:=rfl
theorem E158 : E 158 = true:=rfl
def s3 (i : Nat) : Tr:=if i = 10 then .seq [0,2,4] (.both (.seq [1] (.both (.seq [3] (.both (.seq [5] (.both (.seq [6,7,8,9,10,11,12] .nil) (.seq [10,6,7,8,9,11,12] .nil))) (.seq [10,5,6,7,8,9,11,12] .nil))) (.seq [10,3,5,6,7,8,9,11,12] .nil))) (.seq [10,1,3,5,6,7,8,9,11,12] .nil)) else if i = 17 then .seq [0,1,2,3,4] .nil else if i = 19 then .seq [0,1,2,3,4] .nil else if i = 37 then .seq [0,2,4] (.both (.seq [1] (.both (.seq [3] (.both (.seq [5] (.both (.seq [6,7,8,9,10,11,12] .nil) (.seq [10,6,7,8,9,11,12] .nil))) (.seq [10,5,6,7,8,9,11,12] .nil))) (.seq [10,3,5,6,7,8,9,11,12] .nil))) (.seq [10,1,3,5,6,7,8,9,11,12] .nil)) else .nil
def s4 (i : Nat) : Tr:=if i = 11 then .seq [0,2,4,1,3,5,6,7,8,9,10,11] .nil else if i = 18 then .seq [0,1,2,3,4] .nil else if i = 20 then .seq [0,1,2,3,4] .nil else if i = 22 then .seq [0,1,2,3,4] .nil else if i = 38 then .seq [0,2,4,1,3,5,6,7,8,9,10,11] .nil else .nil
def s5 (i : Nat) : Tr:=if i = 11 then .seq [0,2,4,1,3,5,6,7,8,9,10,11] .nil else if i = 18 then .seq [0,1,2,3,4] .nil else if i = 20 then .seq [0,1,2,3,4] .nil else if i = 22 then .seq [0,1,2,3,4] .nil else if i = 38 then .seq [0,2,4,1,3,5,6,7,8,9,10,11] .nil else .nil
def s6 (i : Nat) : Tr:=if i = 11 then .seq [0,2,4] (.both (.seq [1] (.both (.seq [3] (.both (.seq [5] (.both (.seq [6,7,8,9,10,11,12] .nil) (.seq [10,6,7,8,9,11,12] .nil))) (.seq [10,5,6,7,8,9,11,12] .nil))) (.seq [10,3,5,6,7,8,9,11,12] .nil))) (.seq [10,1,3,5,6,7,8,9,11,12] .nil)) else if i = 18 then .seq [0,1,2,3,4] .nil else if i = 20 then .seq [0,1,2,3,4] .nil else if i = 22 then .seq [0,1,2,3,4] .nil else if i = 38 then .seq [0,2,4] (.both (.seq [1] (.both (.seq [3] (.both (.seq [5] (.both (.seq [6,7,8,9,10,11,12] .nil) (.seq [10,6,7,8,9,11,12] .nil))) (.seq [10,5,6,7,8,9,11,12] .nil))) (.seq [10,3,5,6,7,8,9,11,12] .nil))) (.seq [10,1,3,5,6,7,8,9,11,12] .nil)) else .nil
theorem s6_11 : s6 11 = .seq [0,2,4] (.both (.seq [1] (.both (.seq [3] (.both (.seq [5] (.both (.seq [6,7,8,9,10,11,12] .nil) (.seq [10,6,7,8,9,11,12] .nil))) (.seq [10,5,6,7,8,9,11,12] .nil))) (.seq [10,3,5,6,7,8,9,11,12] .nil))) (.seq [10,1,3,5,6,7,8,9,11,12] .nil)):=rfl
theorem s6_18 : s6 18 = .seq [0,1,2,3,4] .nil:=rfl
theorem s6_20 : s6 20 = .seq [0,1,2,3,4] .nil:=rfl
theorem s6_22 : s6 22 = .seq [0,1,2,3,4] .nil:=rfl
theorem s6_38 : s6 38 = .seq [0,2,4] (.both (.seq [1] (.both (.seq [3] (.both (.seq [5] (.both (.seq [6,7,8,9,10,11,12] .nil) (.seq [10,6,7,8,9,11,12] .nil))) (.seq [10,5,6,7,8,9,11,12] .nil))) (.seq [10,3,5,6,7,8,9,11,12] .nil))) (.seq [10,1,3,5,6,7,8,9,11,12] .nil)):=rfl
theorem s6_ok : okCode E 142 s6 (Tryz.f6.body.getD .skip) = true:=by kernel_rfl
def s7 (_ : Nat) : Tr:=.nil
theorem s7_ok : okCode E 12 s7 (Tryz.f7.body.getD .skip) = true:=by kernel_rfl
def s8 (_ : Nat) : Tr:=.nil
theorem s8_ok : okCode E 18 s8 (Tryz.f8.body.getD .skip) = true:=by kernel_rfl
def s9 (i : Nat) : Tr:=if i = 7 then .seq [0,1,2,3,4,5] (.both (.seq [6,7,8] .nil) (.seq [7,6,8] .nil)) else .nil
theorem s9_7 : s9 7 = .seq [0,1,2,3,4,5] (.both (.seq [6,7,8] .nil) (.seq [7,6,8] .nil)):=rfl
theorem s9_ok : okCode E 99 s9 (Tryz.f9.body.getD .skip) = true:=by kernel_rfl
def s10 (_ : Nat) : Tr:=.nil
theorem s10_ok : okCode E 9 s10 (Tryz.f10.body.getD .skip) = true:=by kernel_rfl
def s11 (_ : Nat) : Tr:=.nil
theorem s11_ok : okCode E 16 s11 (Tryz.f11.body.getD .skip) = true:=by kernel_rfl
def s12 (_ : Nat) : Tr:=.nil
theorem s12_ok : okCode E 22 s12 (Tryz.f12.body.getD .skip) = true:=by kernel_rfl
def s13 (i : Nat) : Tr:=if i = 9 then .seq [0,1,2,4] (.both (.seq [3] (.both (.seq [5] (.both (.seq [6,7,8,9,10,11,12] .nil) (.seq [10,6,7,8,9,11,12] .nil))) (.seq [10,5,6,7,8,9,11,12] .nil))) (.seq [10,3,5,6,7,8,9,11,12] .nil)) else .nil
theorem s13_9 : s13 9 = .seq [0,1,2,4] (.both (.seq [3] (.both (.seq [5] (.both (.seq [6,7,8,9,10,11,12] .nil) (.seq [10,6,7,8,9,11,12] .nil))) (.seq [10,5,6,7,8,9,11,12] .nil))) (.seq [10,3,5,6,7,8,9,11,12] .nil)):=rfl
theorem s13_ok : okCode E 63 s13 (Tryz.f13.body.getD .skip) = true:=by kernel_rfl
def s15 (_ : Nat) : Tr:=.nil
theorem s15_ok : okCode E 11 s15 (Tryz.f15.body.getD .skip) = true:=by kernel_rfl
def s16 (_ : Nat) : Tr:=.nil
theorem s16_ok : okCode E 22 s16 (Tryz.f16.body.getD .skip) = true:=by kernel_rfl
def s17 (i : Nat) : Tr:=if i = 6 then .seq [0,1,2,3,4,5,6,7,8] .nil else .nil
theorem s17_6 : s17 6 = .seq [0,1,2,3,4,5,6,7,8] .nil:=rfl
theorem s17_ok : okCode E 26 s17 (Tryz.f17.body.getD .skip) = true:=by kernel_rfl
def s18 (_ : Nat) : Tr:=.nil
theorem s18_ok : okCode E 10 s18 (Tryz.f18.body.getD .skip) = true:=by kernel_rfl
def s19 (_ : Nat) : Tr:=.nil
theorem s19_ok : okCode E 14 s19 (Tryz.f19.body.getD .skip) = true:=by kernel_rfl
def s20 (_ : Nat) : Tr:=.nil
theorem s20_ok : okCode E 19 s20 (Tryz.f20.body.getD .skip) = true:=by kernel_rfl
def s23 (_ : Nat) : Tr:=.nil
theorem s23_ok : okCode E 18 s23 (Tryz.f23.body.getD .skip) = true:=by kernel_rfl
def s25 (_ : Nat) : Tr:=.nil
theorem s25_ok : okCode E 13 s25 (Tryz.f25.body.getD .skip) = true:=by kernel_rfl
def s27 (_ : Nat) : Tr:=.nil
theorem s27_ok : okCode E 17 s27 (Tryz.f27.body.getD .skip) = true:=by kernel_rfl
def s28 (_ : Nat) : Tr:=.nil
theorem s28_ok : okCode E 14 s28 (Tryz.f28.body.getD .skip) = true:=by kernel_rfl
def s29 (_ : Nat) : Tr:=.nil
theorem s29_ok : okCode E 21 s29 (Tryz.f29.body.getD .skip) = true:=by kernel_rfl
def s30 (i : Nat) : Tr:=if i = 7 then .seq [0,1,2,3,4,5,6] (.both (.seq [7,8,9,10,11,12,13] .nil) (.seq [11,7,8,9,10,12,13] .nil)) else .nil
theorem s30_7 : s30 7 = .seq [0,1,2,3,4,5,6] (.both (.seq [7,8,9,10,11,12,13] .nil) (.seq [11,7,8,9,10,12,13] .nil)):=rfl
theorem s30_ok : okCode E 44 s30 (Tryz.f30.body.getD .skip) = true:=by kernel_rfl
def s31 (_ : Nat) : Tr:=.nil
theorem s31_ok : okCode E 39 s31 (Tryz.f31.body.getD .skip) = true:=by kernel_rfl
def s35 (i : Nat) : Tr:=if i = 5 then .seq [0,1,2,3,4] .nil else if i = 9 then .seq [0,1,2,3,4,5,6,7,8,9,10,11,12,13,14,15,16,17,18,19,20,21,22,23,24,25,26,27,28,29,30,31,32] .nil else if i = 13 then .seq [0,1,2,3,4,5,6,7,8,9,10,11,12,13,14,15,16,17] (.both (.seq [18,19,20,21,22,23,24] .nil) (.seq [22,18,19,20,21,23,24] .nil)) else if i = 16 then .seq [0,1,2,3,4,5,6,7,8,9,10,11] .nil else if i = 17 then .seq [0,1,6,7] (.both (.seq [2,3,4,5] (.both (.seq [8,9,10,11,12,13,14] .nil) (.seq [12,8,9,10,11,13,14] .nil))) (.seq [12,2,3,4,5,8,9,10,11,13,14] .nil)) else .nil
theorem s35_5 : s35 5 = .seq [0,1,2,3,4] .nil:=rfl
theorem s35_9 : s35 9 = .seq [0,1,2,3,4,5,6,7,8,9,10,11,12,13,14,15,16,17,18,19,20,21,22,23,24,25,26,27,28,29,30,31,32] .nil:=rfl
theorem s35_13 : s35 13 = .seq [0,1,2,3,4,5,6,7,8,9,10,11,12,13,14,15,16,17] (.both (.seq [18,19,20,21,22,23,24] .nil) (.seq [22,18,19,20,21,23,24] .nil)):=rfl
theorem s35_16 : s35 16 = .seq [0,1,2,3,4,5,6,7,8,9,10,11] .nil:=rfl
theorem s35_17 : s35 17 = .seq [0,1,6,7] (.both (.seq [2,3,4,5] (.both (.seq [8,9,10,11,12,13,14] .nil) (.seq [12,8,9,10,11,13,14] .nil))) (.seq [12,2,3,4,5,8,9,10,11,13,14] .nil)):=rfl
theorem s35_ok : okCode E 131 s35 (Tryz.f35.body.getD .skip) = true:=by kernel_rfl
def s36 (i : Nat) : Tr:=if i = 12 then .seq [0,1,2,3,4,5,6,7,8,9,10,11,12,13,14,15] .nil else if i = 21 then .seq [0,1,2,3,4,5,6,7] (.both (.seq [8,9,10,11,12,13,14] .nil) (.seq [12,8,9,10,11,13,14] .nil)) else if i = 27 then .seq [0,1,6,7,2,3,4,5,8,9,10,11,12] .nil else .nil
theorem s36_12 : s36 12 = .seq [0,1,2,3,4,5,6,7,8,9,10,11,12,13,14,15] .nil:=rfl
theorem s36_21 : s36 21 = .seq [0,1,2,3,4,5,6,7] (.both (.seq [8,9,10,11,12,13,14] .nil) (.seq [12,8,9,10,11,13,14] .nil)):=rfl
theorem s36_27 : s36 27 = .seq [0,1,6,7,2,3,4,5,8,9,10,11,12] .nil:=rfl
theorem s36_ok : okCode E 114 s36 (Tryz.f36.body.getD .skip) = true:=by kernel_rfl
def s37 (_ : Nat) : Tr:=.nil
theorem s37_ok : okCode E 16 s37 (Tryz.f37.body.getD .skip) = true:=by kernel_rfl
def s38 (_ : Nat) : Tr:=.nil
theorem s38_ok : okCode E 10 s38 (Tryz.f38.body.getD .skip) = true:=by kernel_rfl
def s39 (_ : Nat) : Tr:=.nil
theorem s39_ok : okCode E 12 s39 (Tryz.f39.body.getD .skip) = true:=by kernel_rfl
def s40 (_ : Nat) : Tr:=.nil
theorem s40_ok : okCode E 27 s40 (Tryz.f40.body.getD .skip) = true:=by kernel_rfl
def s41 (_ : Nat) : Tr:=.nil
theorem s41_ok : okCode E 27 s41 (Tryz.f41.body.getD .skip) = true:=by kernel_rfl
def s42 (_ : Nat) : Tr:=.nil
theorem s42_ok : okCode E 12 s42 (Tryz.f42.body.getD .skip) = true:=by kernel_rfl
def s43 (i : Nat) : Tr:=if i = 4 then .seq [0,1,2,3,4,5,6] (.both (.seq [7,8,9,10,11,12,13] .nil) (.seq [11,7,8,9,10,12,13] .nil)) else if i = 5 then .seq [0,1,2,3,4,5,6,7,8,9,10,11,12,13] .nil else .nil
theorem s43_4 : s43 4 = .seq [0,1,2,3,4,5,6] (.both (.seq [7,8,9,10,11,12,13] .nil) (.seq [11,7,8,9,10,12,13] .nil)):=rfl
theorem s43_5 : s43 5 = .seq [0,1,2,3,4,5,6,7,8,9,10,11,12,13] .nil:=rfl
theorem s43_ok : okCode E 46 s43 (Tryz.f43.body.getD .skip) = true:=by kernel_rfl
def s44 (i : Nat) : Tr:=if i = 4 then .seq [0,1,2,3,4,5,6,7,8,9,10,11,12,13,14,15,16,17,18,19,20,21,22,23,24] .nil else .nil
theorem s44_4 : s44 4 = .seq [0,1,2,3,4,5,6,7,8,9,10,11,12,13,14,15,16,17,18,19,20,21,22,23,24] .nil:=rfl
theorem s44_ok : okCode E 40 s44 (Tryz.f44.body.getD .skip) = true:=by kernel_rfl
def s45 (i : Nat) : Tr:=if i = 1 then .seq [0,2,3,1,4,5,6] .nil else .nil
theorem s45_1 : s45 1 = .seq [0,2,3,1,4,5,6] .nil:=rfl
theorem s45_ok : okCode E 11 s45 (Tryz.f45.body.getD .skip) = true:=by kernel_rfl
def s46 (_ : Nat) : Tr:=.nil
theorem s46_ok : okCode E 19 s46 (Tryz.f46.body.getD .skip) = true:=by kernel_rfl
def s47 (i : Nat) : Tr:=if i = 4 then .seq [0,1,2,3,4,5,6,7,8] .nil else .nil
theorem s47_4 : s47 4 = .seq [0,1,2,3,4,5,6,7,8] .nil:=rfl
theorem s47_ok : okCode E 63 s47 (Tryz.f47.body.getD .skip) = true:=by kernel_rfl
def s48 (i : Nat) : Tr:=if i = 12 then .seq [0,1,2,3,4,5,6,8,9,10,11,12,13,14,7,15,16,17] .nil else if i = 17 then .seq [0,1,2,3,4,5,6,7] .nil else if i = 20 then .seq [0,1,2,3,4,5,6,7,8,9,10,11,12,13,14,15,16,17,18] .nil else .nil
theorem s48_12 : s48 12 = .seq [0,1,2,3,4,5,6,8,9,10,11,12,13,14,7,15,16,17] .nil:=rfl
theorem s48_17 : s48 17 = .seq [0,1,2,3,4,5,6,7] .nil:=rfl
theorem s48_20 : s48 20 = .seq [0,1,2,3,4,5,6,7,8,9,10,11,12,13,14,15,16,17,18] .nil:=rfl
theorem s48_ok : okCode E 135 s48 (Tryz.f48.body.getD .skip) = true:=by kernel_rfl
def s49 (_ : Nat) : Tr:=.nil
theorem s49_ok : okCode E 23 s49 (Tryz.f49.body.getD .skip) = true:=by kernel_rfl
def s50 (_ : Nat) : Tr:=.nil
theorem s50_ok : okCode E 23 s50 (Tryz.f50.body.getD .skip) = true:=by kernel_rfl
def s51 (_ : Nat) : Tr:=.nil
theorem s51_ok : okCode E 29 s51 (Tryz.f51.body.getD .skip) = true:=by kernel_rfl
def s52 (_ : Nat) : Tr:=.nil
theorem s52_ok : okCode E 42 s52 (Tryz.f52.body.getD .skip) = true:=by kernel_rfl
def s53 (_ : Nat) : Tr:=.nil
theorem s53_ok : okCode E 23 s53 (Tryz.f53.body.getD .skip) = true:=by kernel_rfl
def s54 (_ : Nat) : Tr:=.nil
theorem s54_ok : okCode E 17 s54 (Tryz.f54.body.getD .skip) = true:=by kernel_rfl
def s55 (_ : Nat) : Tr:=.nil
theorem s55_ok : okCode E 73 s55 (Tryz.f55.body.getD .skip) = true:=by kernel_rfl
def s56 (_ : Nat) : Tr:=.nil
theorem s56_ok : okCode E 39 s56 (Tryz.f56.body.getD .skip) = true:=by kernel_rfl
def s57 (i : Nat) : Tr:=if i = 1 then .seq [0,2,3,1,4,5,6] .nil else .nil
theorem s57_1 : s57 1 = .seq [0,2,3,1,4,5,6] .nil:=rfl
theorem s57_ok : okCode E 11 s57 (Tryz.f57.body.getD .skip) = true:=by kernel_rfl
def s58 (i : Nat) : Tr:=if i = 6 then .seq [0,1,2,3,4,5,6,7,8,9] .nil else .nil
theorem s58_6 : s58 6 = .seq [0,1,2,3,4,5,6,7,8,9] .nil:=rfl
theorem s58_ok : okCode E 27 s58 (Tryz.f58.body.getD .skip) = true:=by kernel_rfl
def s59 (i : Nat) : Tr:=if i = 6 then .seq [0,1,2,3,4,5,6,7,8,9] .nil else .nil
theorem s59_6 : s59 6 = .seq [0,1,2,3,4,5,6,7,8,9] .nil:=rfl
theorem s59_ok : okCode E 27 s59 (Tryz.f59.body.getD .skip) = true:=by kernel_rfl
def s60 (_ : Nat) : Tr:=.nil
theorem s60_ok : okCode E 37 s60 (Tryz.f60.body.getD .skip) = true:=by kernel_rfl
def s61 (_ : Nat) : Tr:=.nil
theorem s61_ok : okCode E 28 s61 (Tryz.f61.body.getD .skip) = true:=by kernel_rfl
def s62 (_ : Nat) : Tr:=.nil
theorem s62_ok : okCode E 27 s62 (Tryz.f62.body.getD .skip) = true:=by kernel_rfl
def s63 (_ : Nat) : Tr:=.nil
theorem s63_ok : okCode E 23 s63 (Tryz.f63.body.getD .skip) = true:=by kernel_rfl
def s64 (i : Nat) : Tr:=if i = 6 then .seq [0,1,2,3,4,5,6,7,8,9] .nil else .nil
theorem s64_6 : s64 6 = .seq [0,1,2,3,4,5,6,7,8,9] .nil:=rfl
theorem s64_ok : okCode E 27 s64 (Tryz.f64.body.getD .skip) = true:=by kernel_rfl
def s65 (_ : Nat) : Tr:=.nil
theorem s65_ok : okCode E 19 s65 (Tryz.f65.body.getD .skip) = true:=by kernel_rfl
def s66 (i : Nat) : Tr:=if i = 8 then .seq [0,1,2,3,4,5,6,7,8,9,10,11,12,13,14,15,16,17,18,19,20,21,22,23,24,25,26] .nil else if i = 17 then .seq [0,1,2,3,4,5,6,7,8,9,10,11,12,13,14] .nil else if i = 27 then .seq [0,1,2,3,4,5,6,7,8,9,10,11,12,13,14,15,16,17,18,19,20,21,22,23,24,25,26,27,28,29] .nil else .nil
theorem s66_8 : s66 8 = .seq [0,1,2,3,4,5,6,7,8,9,10,11,12,13,14,15,16,17,18,19,20,21,22,23,24,25,26] .nil:=rfl
theorem s66_17 : s66 17 = .seq [0,1,2,3,4,5,6,7,8,9,10,11,12,13,14] .nil:=rfl
theorem s66_27 : s66 27 = .seq [0,1,2,3,4,5,6,7,8,9,10,11,12,13,14,15,16,17,18,19,20,21,22,23,24,25,26,27,28,29] .nil:=rfl
theorem s66_ok : okCode E 148 s66 (Tryz.f66.body.getD .skip) = true:=by kernel_rfl
def s67 (i : Nat) : Tr:=if i = 17 then .seq [0,1,2,4,7,3,5,6,8,9,10,11,12] .nil else .nil
theorem s67_17 : s67 17 = .seq [0,1,2,4,7,3,5,6,8,9,10,11,12] .nil:=rfl
theorem s67_ok : okCode E 88 s67 (Tryz.f67.body.getD .skip) = true:=by kernel_rfl
def s68 (_ : Nat) : Tr:=.nil
theorem s68_ok : okCode E 21 s68 (Tryz.f68.body.getD .skip) = true:=by kernel_rfl
def s69 (i : Nat) : Tr:=if i = 6 then .seq [0,1,2,3,4,5,6,7,8] .nil else .nil
theorem s69_6 : s69 6 = .seq [0,1,2,3,4,5,6,7,8] .nil:=rfl
theorem s69_ok : okCode E 30 s69 (Tryz.f69.body.getD .skip) = true:=by kernel_rfl
def s70 (_ : Nat) : Tr:=.nil
theorem s70_ok : okCode E 22 s70 (Tryz.f70.body.getD .skip) = true:=by kernel_rfl
def s71 (i : Nat) : Tr:=if i = 5 then .seq [1,2,4,5,6,7] (.both (.seq [0] (.both (.app 3 [41] (.seq [8,9,10] .nil)) (.seq [9] (.app 3 [41] (.seq [8,10] .nil))))) (.seq [9,0] (.app 3 [41] (.seq [8,10] .nil)))) else if i = 9 then .seq [0,1,2,3,4,5,6,7,8,9,10,11,12,13,14] .nil else if i = 11 then .seq [0,1,2,4,5,6,7,8,9,3] (.app 10 [68] (.seq [11,12,13,14,15] .nil)) else .nil
theorem s71_5 : s71 5 = .seq [1,2,4,5,6,7] (.both (.seq [0] (.both (.app 3 [41] (.seq [8,9,10] .nil)) (.seq [9] (.app 3 [41] (.seq [8,10] .nil))))) (.seq [9,0] (.app 3 [41] (.seq [8,10] .nil)))):=rfl
theorem s71_9 : s71 9 = .seq [0,1,2,3,4,5,6,7,8,9,10,11,12,13,14] .nil:=rfl
theorem s71_11 : s71 11 = .seq [0,1,2,4,5,6,7,8,9,3] (.app 10 [68] (.seq [11,12,13,14,15] .nil)):=rfl
theorem s71_ok : okCode E 83 s71 (Tryz.f71.body.getD .skip) = true:=by kernel_rfl
def s72 (i : Nat) : Tr:=if i = 5 then .seq [0,1,2,3,4,5,6,7,8] .nil else if i = 9 then .seq [0,1,2,3,4,5,6,7,8,9,10,11,12,13,14,15] .nil else .nil
theorem s72_5 : s72 5 = .seq [0,1,2,3,4,5,6,7,8] .nil:=rfl
theorem s72_9 : s72 9 = .seq [0,1,2,3,4,5,6,7,8,9,10,11,12,13,14,15] .nil:=rfl
theorem s72_ok : okCode E 49 s72 (Tryz.f72.body.getD .skip) = true:=by kernel_rfl
def s73 (_ : Nat) : Tr:=.nil
theorem s73_ok : okCode E 29 s73 (Tryz.f73.body.getD .skip) = true:=by kernel_rfl
def s74 (i : Nat) : Tr:=if i = 3 then .seq [0,1,3,4,5,6] (.both (.seq [2,7,8,9] .nil) (.seq [8,2,7,9] .nil)) else if i = 13 then .seq [0,1,2,3,4,5,6,7,8,9] .nil else .nil
theorem s74_3 : s74 3 = .seq [0,1,3,4,5,6] (.both (.seq [2,7,8,9] .nil) (.seq [8,2,7,9] .nil)):=rfl
theorem s74_13 : s74 13 = .seq [0,1,2,3,4,5,6,7,8,9] .nil:=rfl
theorem s74_ok : okCode E 76 s74 (Tryz.f74.body.getD .skip) = true:=by kernel_rfl
def s75 (_ : Nat) : Tr:=.nil
theorem s75_ok : okCode E 40 s75 (Tryz.f75.body.getD .skip) = true:=by kernel_rfl
def s76 (_ : Nat) : Tr:=.nil
theorem s76_ok : okCode E 21 s76 (Tryz.f76.body.getD .skip) = true:=by kernel_rfl
def s77 (_ : Nat) : Tr:=.nil
theorem s77_ok : okCode E 19 s77 (Tryz.f77.body.getD .skip) = true:=by kernel_rfl
def s78 (_ : Nat) : Tr:=.nil
theorem s78_ok : okCode E 19 s78 (Tryz.f78.body.getD .skip) = true:=by kernel_rfl
def s79 (_ : Nat) : Tr:=.nil
theorem s79_ok : okCode E 34 s79 (Tryz.f79.body.getD .skip) = true:=by kernel_rfl
def s80 (i : Nat) : Tr:=if i = 11 then .seq [0,1,2,3,4,5,6,7,8,9,10,11,12,13] .nil else if i = 26 then .seq [0,1,2,3,4,5,6,7,8,9,10,11,12,13,14,15,16,17,18,19,20,21,22] .nil else .nil
theorem s80_11 : s80 11 = .seq [0,1,2,3,4,5,6,7,8,9,10,11,12,13] .nil:=rfl
theorem s80_26 : s80 26 = .seq [0,1,2,3,4,5,6,7,8,9,10,11,12,13,14,15,16,17,18,19,20,21,22] .nil:=rfl
theorem s80_ok : okCode E 134 s80 (Tryz.f80.body.getD .skip) = true:=by kernel_rfl
def s81 (i : Nat) : Tr:=if i = 5 then .seq [0,1,2,3,4,5,6,7,8,9,10,11,12,13,14,15,16,17,18,19,20,21,22,23,24,25,26,27,28,29,30,31,32,33,34,35,36,37,38] .nil else .nil
theorem s81_5 : s81 5 = .seq [0,1,2,3,4,5,6,7,8,9,10,11,12,13,14,15,16,17,18,19,20,21,22,23,24,25,26,27,28,29,30,31,32,33,34,35,36,37,38] .nil:=rfl
theorem s81_ok : okCode E 60 s81 (Tryz.f81.body.getD .skip) = true:=by kernel_rfl
def s82 (_ : Nat) : Tr:=.nil
theorem s82_ok : okCode E 15 s82 (Tryz.f82.body.getD .skip) = true:=by kernel_rfl
def s83 (_ : Nat) : Tr:=.nil
theorem s83_ok : okCode E 18 s83 (Tryz.f83.body.getD .skip) = true:=by kernel_rfl
def s84 (i : Nat) : Tr:=if i = 14 then .seq [0,1,2,3,4,5,6,7,8,9,10,11,12,13,14,15,16,17] .nil else if i = 20 then .seq [0,1,2,3,4,5,6,7,8,9,10,11,12,13,14,15,16,17,18,19,20] .nil else .nil
theorem s84_14 : s84 14 = .seq [0,1,2,3,4,5,6,7,8,9,10,11,12,13,14,15,16,17] .nil:=rfl
theorem s84_20 : s84 20 = .seq [0,1,2,3,4,5,6,7,8,9,10,11,12,13,14,15,16,17,18,19,20] .nil:=rfl
theorem s84_ok : okCode E 123 s84 (Tryz.f84.body.getD .skip) = true:=by kernel_rfl
def s85 (i : Nat) : Tr:=if i = 6 then .seq [0,1,2,3,4,5,6,7,8,9,10,11,12,13,14,15,16,17,18,19,20,21,22,23,24,25,26,27,28,29,30,31,32,33,34,35,36] .nil else .nil
theorem s85_6 : s85 6 = .seq [0,1,2,3,4,5,6,7,8,9,10,11,12,13,14,15,16,17,18,19,20,21,22,23,24,25,26,27,28,29,30,31,32,33,34,35,36] .nil:=rfl
theorem s85_ok : okCode E 58 s85 (Tryz.f85.body.getD .skip) = true:=by kernel_rfl
def s86 (_ : Nat) : Tr:=.nil
theorem s86_ok : okCode E 25 s86 (Tryz.f86.body.getD .skip) = true:=by kernel_rfl
def s87 (_ : Nat) : Tr:=.nil
theorem s87_ok : okCode E 40 s87 (Tryz.f87.body.getD .skip) = true:=by kernel_rfl
def s88 (i : Nat) : Tr:=if i = 4 then .seq [0,1,2,3,4,5,6,7,8,9,10,11,12,13,14,15,16,17,18,19,20,21,22,23,24] .nil else .nil
theorem s88_4 : s88 4 = .seq [0,1,2,3,4,5,6,7,8,9,10,11,12,13,14,15,16,17,18,19,20,21,22,23,24] .nil:=rfl
theorem s88_ok : okCode E 48 s88 (Tryz.f88.body.getD .skip) = true:=by kernel_rfl
def s89 (i : Nat) : Tr:=if i = 6 then .seq [0,1,2,3,4,5,6,7,8] .nil else .nil
theorem s89_6 : s89 6 = .seq [0,1,2,3,4,5,6,7,8] .nil:=rfl
theorem s89_ok : okCode E 39 s89 (Tryz.f89.body.getD .skip) = true:=by kernel_rfl
def s90 (_ : Nat) : Tr:=.nil
theorem s90_ok : okCode E 27 s90 (Tryz.f90.body.getD .skip) = true:=by kernel_rfl
def s91 (i : Nat) : Tr:=if i = 4 then .seq [0,1,2,3,4,5,6,7,8] .nil else if i = 6 then .seq [0,1,2,3,4,5,6,7,8] .nil else .nil
theorem s91_4 : s91 4 = .seq [0,1,2,3,4,5,6,7,8] .nil:=rfl
theorem s91_6 : s91 6 = .seq [0,1,2,3,4,5,6,7,8] .nil:=rfl
theorem s91_ok : okCode E 46 s91 (Tryz.f91.body.getD .skip) = true:=by kernel_rfl
def s92 (_ : Nat) : Tr:=.nil
theorem s92_ok : okCode E 12 s92 (Tryz.f92.body.getD .skip) = true:=by kernel_rfl
def s93 (_ : Nat) : Tr:=.nil
theorem s93_ok : okCode E 12 s93 (Tryz.f93.body.getD .skip) = true:=by kernel_rfl
def s94 (_ : Nat) : Tr:=.nil
theorem s94_ok : okCode E 76 s94 (Tryz.f94.body.getD .skip) = true:=by kernel_rfl
def s95 (_ : Nat) : Tr:=.nil
theorem s95_ok : okCode E 18 s95 (Tryz.f95.body.getD .skip) = true:=by kernel_rfl
def s96 (_ : Nat) : Tr:=.nil
theorem s96_ok : okCode E 28 s96 (Tryz.f96.body.getD .skip) = true:=by kernel_rfl
def s97 (_ : Nat) : Tr:=.nil
theorem s97_ok : okCode E 59 s97 (Tryz.f97.body.getD .skip) = true:=by kernel_rfl
def s98 (i : Nat) : Tr:=if i = 6 then .seq [0,1,2,3,4,5,6,7,8,9,10,11,12,13,14,15,16,17,18,19,20,21,22,23,24,25,26,27,28,29,30,31,32,33,34,35,36,37,38] .nil else .nil
theorem s98_6 : s98 6 = .seq [0,1,2,3,4,5,6,7,8,9,10,11,12,13,14,15,16,17,18,19,20,21,22,23,24,25,26,27,28,29,30,31,32,33,34,35,36,37,38] .nil:=rfl
theorem s98_ok : okCode E 57 s98 (Tryz.f98.body.getD .skip) = true:=by kernel_rfl
def s99 (_ : Nat) : Tr:=.nil
theorem s99_ok : okCode E 26 s99 (Tryz.f99.body.getD .skip) = true:=by kernel_rfl
def s100 (_ : Nat) : Tr:=.nil
theorem s100_ok : okCode E 9 s100 (Tryz.f100.body.getD .skip) = true:=by kernel_rfl
def s101 (_ : Nat) : Tr:=.nil
theorem s101_ok : okCode E 9 s101 (Tryz.f101.body.getD .skip) = true:=by kernel_rfl
def s102 (_ : Nat) : Tr:=.nil
theorem s102_ok : okCode E 43 s102 (Tryz.f102.body.getD .skip) = true:=by kernel_rfl
def s103 (i : Nat) : Tr:=if i = 9 then .seq [0,1,2,4,7,8,9] (.both (.seq [3,5,6,10,11] .nil) (.seq [5,3,6,10,11] .nil)) else .nil
theorem s103_9 : s103 9 = .seq [0,1,2,4,7,8,9] (.both (.seq [3,5,6,10,11] .nil) (.seq [5,3,6,10,11] .nil)):=rfl
theorem s103_ok : okCode E 56 s103 (Tryz.f103.body.getD .skip) = true:=by kernel_rfl
def s104 (i : Nat) : Tr:=if i = 7 then .seq [0,1,2,3,4,5,6,7,8,9,10,11,12,13,14,15,16,17] .nil else .nil
theorem s104_7 : s104 7 = .seq [0,1,2,3,4,5,6,7,8,9,10,11,12,13,14,15,16,17] .nil:=rfl
theorem s104_ok : okCode E 67 s104 (Tryz.f104.body.getD .skip) = true:=by kernel_rfl
def s105 (i : Nat) : Tr:=if i = 4 then .seq [0,1,2,4,5,6,3,7,8,9] .nil else if i = 11 then .seq [0,1,2,3,4,5,6,7] .nil else .nil
theorem s105_4 : s105 4 = .seq [0,1,2,4,5,6,3,7,8,9] .nil:=rfl
theorem s105_11 : s105 11 = .seq [0,1,2,3,4,5,6,7] .nil:=rfl
theorem s105_ok : okCode E 68 s105 (Tryz.f105.body.getD .skip) = true:=by kernel_rfl
def s106 (_ : Nat) : Tr:=.nil
theorem s106_ok : okCode E 19 s106 (Tryz.f106.body.getD .skip) = true:=by kernel_rfl
def s107 (i : Nat) : Tr:=if i = 16 then .seq [0,1,2,3,4,5,6,7,8,9,10,11,12] .nil else .nil
theorem s107_16 : s107 16 = .seq [0,1,2,3,4,5,6,7,8,9,10,11,12] .nil:=rfl
theorem s107_ok : okCode E 98 s107 (Tryz.f107.body.getD .skip) = true:=by kernel_rfl
def s108 (_ : Nat) : Tr:=.nil
theorem s108_ok : okCode E 16 s108 (Tryz.f108.body.getD .skip) = true:=by kernel_rfl
def s109 (_ : Nat) : Tr:=.nil
theorem s109_ok : okCode E 16 s109 (Tryz.f109.body.getD .skip) = true:=by kernel_rfl
def s110 (_ : Nat) : Tr:=.nil
theorem s110_ok : okCode E 20 s110 (Tryz.f110.body.getD .skip) = true:=by kernel_rfl
def s111 (_ : Nat) : Tr:=.nil
theorem s111_ok : okCode E 31 s111 (Tryz.f111.body.getD .skip) = true:=by kernel_rfl
def s112 (_ : Nat) : Tr:=.nil
theorem s112_ok : okCode E 21 s112 (Tryz.f112.body.getD .skip) = true:=by kernel_rfl
def s113 (_ : Nat) : Tr:=.nil
theorem s113_ok : okCode E 51 s113 (Tryz.f113.body.getD .skip) = true:=by kernel_rfl
def s114 (_ : Nat) : Tr:=.nil
theorem s114_ok : okCode E 43 s114 (Tryz.f114.body.getD .skip) = true:=by kernel_rfl
def s115 (_ : Nat) : Tr:=.nil
theorem s115_ok : okCode E 31 s115 (Tryz.f115.body.getD .skip) = true:=by kernel_rfl
def s116 (_ : Nat) : Tr:=.nil
theorem s116_ok : okCode E 46 s116 (Tryz.f116.body.getD .skip) = true:=by kernel_rfl
def s117 (_ : Nat) : Tr:=.nil
theorem s117_ok : okCode E 6 s117 (Tryz.f117.body.getD .skip) = true:=by kernel_rfl
def s118 (_ : Nat) : Tr:=.nil
theorem s118_ok : okCode E 8 s118 (Tryz.f118.body.getD .skip) = true:=by kernel_rfl
def s119 (_ : Nat) : Tr:=.nil
theorem s119_ok : okCode E 22 s119 (Tryz.f119.body.getD .skip) = true:=by kernel_rfl
def s120 (_ : Nat) : Tr:=.nil
theorem s120_ok : okCode E 24 s120 (Tryz.f120.body.getD .skip) = true:=by kernel_rfl
def s121 (_ : Nat) : Tr:=.nil
theorem s121_ok : okCode E 35 s121 (Tryz.f121.body.getD .skip) = true:=by kernel_rfl
def s122 (_ : Nat) : Tr:=.nil
theorem s122_ok : okCode E 12 s122 (Tryz.f122.body.getD .skip) = true:=by kernel_rfl
def s123 (i : Nat) : Tr:=if i = 5 then .seq [0,1,3,4,5,6,7,2] (.app 8 [15] (.seq [9,10,11,12] .nil)) else .nil
theorem s123_5 : s123 5 = .seq [0,1,3,4,5,6,7,2] (.app 8 [15] (.seq [9,10,11,12] .nil)):=rfl
theorem s123_ok : okCode E 28 s123 (Tryz.f123.body.getD .skip) = true:=by kernel_rfl
def s124 (_ : Nat) : Tr:=.nil
theorem s124_ok : okCode E 23 s124 (Tryz.f124.body.getD .skip) = true:=by kernel_rfl
def s125 (_ : Nat) : Tr:=.nil
theorem s125_ok : okCode E 20 s125 (Tryz.f125.body.getD .skip) = true:=by kernel_rfl
def s126 (_ : Nat) : Tr:=.nil
theorem s126_ok : okCode E 16 s126 (Tryz.f126.body.getD .skip) = true:=by kernel_rfl
def s127 (i : Nat) : Tr:=if i = 13 then .seq [0,1,2,3,4,5,6,7] .nil else .nil
theorem s127_13 : s127 13 = .seq [0,1,2,3,4,5,6,7] .nil:=rfl
theorem s127_ok : okCode E 80 s127 (Tryz.f127.body.getD .skip) = true:=by kernel_rfl
def s128 (_ : Nat) : Tr:=.nil
theorem s128_ok : okCode E 12 s128 (Tryz.f128.body.getD .skip) = true:=by kernel_rfl
def s129 (_ : Nat) : Tr:=.nil
theorem s129_ok : okCode E 15 s129 (Tryz.f129.body.getD .skip) = true:=by kernel_rfl
def s130 (_ : Nat) : Tr:=.nil
theorem s130_ok : okCode E 27 s130 (Tryz.f130.body.getD .skip) = true:=by kernel_rfl
def s131 (_ : Nat) : Tr:=.nil
theorem s131_ok : okCode E 5 s131 (Tryz.f131.body.getD .skip) = true:=by kernel_rfl
def s132 (i : Nat) : Tr:=if i = 4 then .seq [0,1,2,3,4,5,6,7,8,9] .nil else .nil
theorem s132_4 : s132 4 = .seq [0,1,2,3,4,5,6,7,8,9] .nil:=rfl
theorem s132_ok : okCode E 20 s132 (Tryz.f132.body.getD .skip) = true:=by kernel_rfl
def s133 (_ : Nat) : Tr:=.nil
theorem s133_ok : okCode E 57 s133 (Tryz.f133.body.getD .skip) = true:=by kernel_rfl
def s134 (i : Nat) : Tr:=if i = 9 then .seq [0,1,2,3,4] .nil else if i = 11 then .seq [0,1,2,3,4,5] .nil else .nil
theorem s134_9 : s134 9 = .seq [0,1,2,3,4] .nil:=rfl
theorem s134_11 : s134 11 = .seq [0,1,2,3,4,5] .nil:=rfl
theorem s134_ok : okCode E 48 s134 (Tryz.f134.body.getD .skip) = true:=by kernel_rfl
def s135 (_ : Nat) : Tr:=.nil
theorem s135_ok : okCode E 4 s135 (Tryz.f135.body.getD .skip) = true:=by kernel_rfl
def s136 (i : Nat) : Tr:=if i = 1 then .seq [0,1,2,3,4,5,6] .nil else .nil
theorem s136_1 : s136 1 = .seq [0,1,2,3,4,5,6] .nil:=rfl
theorem s136_ok : okCode E 9 s136 (Tryz.f136.body.getD .skip) = true:=by kernel_rfl
def s137 (_ : Nat) : Tr:=.nil
theorem s137_ok : okCode E 19 s137 (Tryz.f137.body.getD .skip) = true:=by kernel_rfl
def s138 (i : Nat) : Tr:=if i = 4 then .seq [0,1,2,3,4,5,6,7,8] .nil else if i = 5 then .seq [0,1,2,3,4,5,6,7,8,9] .nil else .nil
theorem s138_4 : s138 4 = .seq [0,1,2,3,4,5,6,7,8] .nil:=rfl
theorem s138_5 : s138 5 = .seq [0,1,2,3,4,5,6,7,8,9] .nil:=rfl
theorem s138_ok : okCode E 41 s138 (Tryz.f138.body.getD .skip) = true:=by kernel_rfl
def s139 (_ : Nat) : Tr:=.nil
theorem s139_ok : okCode E 46 s139 (Tryz.f139.body.getD .skip) = true:=by kernel_rfl
def s140 (_ : Nat) : Tr:=.nil
theorem s140_ok : okCode E 15 s140 (Tryz.f140.body.getD .skip) = true:=by kernel_rfl
def s141 (_ : Nat) : Tr:=.nil
theorem s141_ok : okCode E 31 s141 (Tryz.f141.body.getD .skip) = true:=by kernel_rfl
def s142 (_ : Nat) : Tr:=.nil
theorem s142_ok : okCode E 15 s142 (Tryz.f142.body.getD .skip) = true:=by kernel_rfl
def s143 (_ : Nat) : Tr:=.nil
theorem s143_ok : okCode E 54 s143 (Tryz.f143.body.getD .skip) = true:=by kernel_rfl
def s144 (i : Nat) : Tr:=if i = 7 then .seq [0,1,2,3,4,5,6,7] (.both (.seq [8,9,10,11,12,13,14] .nil) (.seq [12,8,9,10,11,13,14] .nil)) else .nil
theorem s144_7 : s144 7 = .seq [0,1,2,3,4,5,6,7] (.both (.seq [8,9,10,11,12,13,14] .nil) (.seq [12,8,9,10,11,13,14] .nil)):=rfl
theorem s144_ok : okCode E 52 s144 (Tryz.f144.body.getD .skip) = true:=by kernel_rfl
def s145 (_ : Nat) : Tr:=.nil
theorem s145_ok : okCode E 20 s145 (Tryz.f145.body.getD .skip) = true:=by kernel_rfl
def s146 (_ : Nat) : Tr:=.nil
theorem s146_ok : okCode E 13 s146 (Tryz.f146.body.getD .skip) = true:=by kernel_rfl
def s147 (i : Nat) : Tr:=if i = 1 then .seq [0,1,2,3,4,5,6,7,8,9,10,12,13,11,14,15,16,17] .nil else .nil
theorem s147_1 : s147 1 = .seq [0,1,2,3,4,5,6,7,8,9,10,12,13,11,14,15,16,17] .nil:=rfl
theorem s147_ok : okCode E 20 s147 (Tryz.f147.body.getD .skip) = true:=by kernel_rfl
def s148 (_ : Nat) : Tr:=.nil
theorem s148_ok : okCode E 6 s148 (Tryz.f148.body.getD .skip) = true:=by kernel_rfl
def s149 (i : Nat) : Tr:=if i = 4 then .seq [0,1,2,3,5] (.both (.seq [4,6] (.app 7 [4] (.seq [8] .nil))) (.seq [6,4] (.app 7 [4] (.seq [8] .nil)))) else .nil
theorem s149_4 : s149 4 = .seq [0,1,2,3,5] (.both (.seq [4,6] (.app 7 [4] (.seq [8] .nil))) (.seq [6,4] (.app 7 [4] (.seq [8] .nil)))):=rfl
theorem s149_ok : okCode E 90 s149 (Tryz.f149.body.getD .skip) = true:=by kernel_rfl
def s150 (i : Nat) : Tr:=if i = 10 then .seq [0,1,3,4,5,6] (.both (.seq [2,7,8,9,10,11] .nil) (.seq [7,2,8,9,10,11] .nil)) else if i = 20 then .seq [0,1,2,3,4,5,6,7,8,9,10,11,12,13,14,15] .nil else if i = 24 then .seq [0,1,2,3,4,5,6,7,8,9,10,11,12,13,14,15,16,17,18,19,20,21,22,23,24,25,26] .nil else if i = 30 then .seq [0,1,2,3,4,5,6,7,8,9,10,11,12,13] (.both (.seq [14,15,16,17,18,19,20] .nil) (.seq [18,14,15,16,17,19,20] .nil)) else .nil
theorem s150_10 : s150 10 = .seq [0,1,3,4,5,6] (.both (.seq [2,7,8,9,10,11] .nil) (.seq [7,2,8,9,10,11] .nil)):=rfl
theorem s150_20 : s150 20 = .seq [0,1,2,3,4,5,6,7,8,9,10,11,12,13,14,15] .nil:=rfl
theorem s150_24 : s150 24 = .seq [0,1,2,3,4,5,6,7,8,9,10,11,12,13,14,15,16,17,18,19,20,21,22,23,24,25,26] .nil:=rfl
theorem s150_30 : s150 30 = .seq [0,1,2,3,4,5,6,7,8,9,10,11,12,13] (.both (.seq [14,15,16,17,18,19,20] .nil) (.seq [18,14,15,16,17,19,20] .nil)):=rfl
theorem s150_ok : okCode E 161 s150 (Tryz.f150.body.getD .skip) = true:=by kernel_rfl
def s151 (i : Nat) : Tr:=if i = 15 then .seq [0,1,2,3,4,5,6,7,8,9] .nil else .nil
theorem s151_15 : s151 15 = .seq [0,1,2,3,4,5,6,7,8,9] .nil:=rfl
theorem s151_ok : okCode E 66 s151 (Tryz.f151.body.getD .skip) = true:=by kernel_rfl
def s152 (i : Nat) : Tr:=if i = 6 then .seq [0,1,2,3,4,5,6,7,8] .nil else .nil
theorem s152_6 : s152 6 = .seq [0,1,2,3,4,5,6,7,8] .nil:=rfl
theorem s152_ok : okCode E 26 s152 (Tryz.f152.body.getD .skip) = true:=by kernel_rfl
def s153 (_ : Nat) : Tr:=.nil
theorem s153_ok : okCode E 24 s153 (Tryz.f153.body.getD .skip) = true:=by kernel_rfl
def s154 (_ : Nat) : Tr:=.nil
theorem s154_ok : okCode E 30 s154 (Tryz.f154.body.getD .skip) = true:=by kernel_rfl
def s155 (_ : Nat) : Tr:=.nil
theorem s155_ok : okCode E 11 s155 (Tryz.f155.body.getD .skip) = true:=by kernel_rfl
def s156 (i : Nat) : Tr:=if i = 2 then .seq [0,1,2,3,4,5] .nil else .nil
theorem s156_2 : s156 2 = .seq [0,1,2,3,4,5] .nil:=rfl
theorem s156_ok : okCode E 12 s156 (Tryz.f156.body.getD .skip) = true:=by kernel_rfl
def s157 (_ : Nat) : Tr:=.nil
theorem s157_ok : okCode E 7 s157 (Tryz.f157.body.getD .skip) = true:=by kernel_rfl
def s158 (i : Nat) : Tr:=if i = 1 then .seq [0,1,2,3,4,5,6,7] (.both (.seq [8,9,10,11,12,13,14] .nil) (.seq [12,8,9,10,11,13,14] .nil)) else if i = 7 then .seq [0,1,2,3,4] (.both (.seq [5,6,7,8,9,10,11] .nil) (.seq [9,5,6,7,8,10,11] .nil)) else if i = 8 then .seq [0,1,2,3,4] (.both (.seq [5,6,7,8,9,10,11] .nil) (.seq [9,5,6,7,8,10,11] .nil)) else .nil
theorem s158_1 : s158 1 = .seq [0,1,2,3,4,5,6,7] (.both (.seq [8,9,10,11,12,13,14] .nil) (.seq [12,8,9,10,11,13,14] .nil)):=rfl
theorem s158_7 : s158 7 = .seq [0,1,2,3,4] (.both (.seq [5,6,7,8,9,10,11] .nil) (.seq [9,5,6,7,8,10,11] .nil)):=rfl
theorem s158_8 : s158 8 = .seq [0,1,2,3,4] (.both (.seq [5,6,7,8,9,10,11] .nil) (.seq [9,5,6,7,8,10,11] .nil)):=rfl
theorem s158_ok : okCode E 63 s158 (Tryz.f158.body.getD .skip) = true:=by kernel_rfl
def s159 (_ : Nat) : Tr:=.nil
theorem s159_ok : okCode E 29 s159 (Tryz.f159.body.getD .skip) = true:=by kernel_rfl
def s160 (_ : Nat) : Tr:=.nil
theorem s160_ok : okCode E 31 s160 (Tryz.f160.body.getD .skip) = true:=by kernel_rfl
def s161 (i : Nat) : Tr:=if i = 6 then .seq [0,1,2,3,4,5,6,7,8] .nil else .nil
theorem s161_6 : s161 6 = .seq [0,1,2,3,4,5,6,7,8] .nil:=rfl
theorem s161_ok : okCode E 43 s161 (Tryz.f161.body.getD .skip) = true:=by kernel_rfl
def s162 (_ : Nat) : Tr:=.nil
theorem s162_ok : okCode E 15 s162 (Tryz.f162.body.getD .skip) = true:=by kernel_rfl
end Go.Proofs.YtglilmkmkdkedaaGreatDoor
namespace Go.Proofs.YtglilmkmkdkedaaGreatDoor
open Go.Vs Go.Proofs Go
set_option maxRecDepth 100000
set_option maxHeartbeats 1000000
theorem w_laws_markText (k : Int) (h0 : 1 <= k) (h1 : k <= 4611686018427387904) :
  VC Tryz.prog 110 [.d (.int .i64 k)] (fun _ r=>r = .d (.str (mtext k))):=by
 refine VC.of E s110 (by kernel_rfl) Tryz.func110 (by rfl) (by kernel_rfl) (by simp [Tryz.f110]) (by simp [Tryz.f110]) s110_ok fun B=>?_
 simp [Tryz.f110,show ¬ k <= 0 by omega]
 refine loop_rule (X:=Nat × Int × List UInt8) (fun x=>x.1 <= 64 /\ 0 <= x.2.1 /\ x.2.1 < 2 ^ x.1 /\ x.2.2.length + x.1 = 64 /\ mdig x.1 x.2.1 x.2.2 = mdig 64 k []) (fun x=>[(0,.d (.int .i64 x.2.1)),(3,.d (.str x.2.2))]) (fun _=>[]) (fun x=>x.1) (64,k,[]) ?_ (by simp) (by simp) ?_
 ·simp; omega
 ·rintro ⟨n,q,o⟩ hs t m ⟨hi1,hi2,hi3,hi4,hi5⟩ hh
  simp only at hi1 hi2 hi3 hi4 hi5
  by_cases hq : 0 < q
  ·obtain ⟨n,rfl⟩ : ∃ n',n = n' + 1:=by
    cases n with
    | zero=>simp at hi3; omega
    | succ n=>exact ⟨n,rfl⟩
   have e1 : q.tmod 10 = q % 10:=Int.tmod_eq_emod_of_nonneg hi2
   have e2 : q.tdiv 10 = q / 10:=Int.tdiv_eq_ediv_of_nonneg hi2
   have hp : (2 : Int) ^ (n + 1) = 2 * 2 ^ n:=by rw [Int.pow_succ]; omega
   have hb : (2 : Int) ^ n <= 2 ^ 63:=by
    have : n <= 63:=by omega
    exact_mod_cast Nat.pow_le_pow_right (by decide : 0 < 2) this
   simp only [hp] at hi3
   have e3 : IntKind.i64.wrap (48 + q.tmod 10) = 48 + q.tmod 10:=by rw [e1]; exact wrap64_of (by omega) (by omega)
   have e4 : IntKind.i64.wrap (q.tdiv 10) = q.tdiv 10:=by rw [e2]; exact wrap64_of (by omega) (by simp at hb; omega)
   simp [hq,e3,e4,isB,toB]
   refine ⟨by omega,?_⟩
   refine back (n,q.tdiv 10,UInt8.ofNat (IntKind.u8.wrap (48 + q.tmod 10)).toNat :: o) ⟨by simp; omega,by simp [e2]; omega,by simp [e2]; omega,by simp at hi4 ⊢; omega,?_⟩ (by simp) rfl (by simp) (by simp) (by simp)
   rw [<- hi5]
   simp only [mdig,if_pos hq]
  ·have hz : q = 0:=by omega
   subst hz
   have : mdig n 0 o = o:=by cases n <;> simp [mdig]
   rw [this] at hi5
   simp [mtext,<- hi5]
   omega
theorem w_laws_szIntS (a : Sl (Int)) (left : Int) (h0 : 0 <= left) (h1 : left <= 1048576) (ha : okS okI a) :
  VC Tryz.prog 42 [.d (dSl cI a),.d (.int .i64 left)] (fun _ r=>r = .d (.int .i64 (szv left (swS swI a)))):=by
 refine VC.of E s42 (by kernel_rfl) Tryz.func42 (by rfl) (by kernel_rfl) (by simp [Tryz.f42]) (by simp [Tryz.f42]) s42_ok fun B=>?_
 have ha1:=ha.1
 simp only [maxLen] at ha1
 have hw1 : IntKind.i64.wrap (left - (a.xs.length : Int)) = left - a.xs.length:=wrap64_of (by omega) (by omega)
 have hwt : swS swI a = a.xs.length + sumW swI a.xs:=rfl
 simp [Tryz.f42,dSl,hw1]
 have hz : sumW swI a.xs = 0:=by
  generalize a.xs = l
  induction l with
  | nil=>rfl
  | cons b r ih=>simp [swI,ih]
 refine ⟨fun h=>?_,fun h=>?_⟩
 ·rw [szv_neg (by omega)]
 ·rw [szv_pos (by omega)]; omega
theorem w_laws_eqIntS (a b : Sl (Int)) (ha : okS okI a) :
  VC Tryz.prog 17 [.d (dSl cI a),.d (dSl cI b)] (fun _ r=>r = .d (.bool (plS plI a == plS plI b))):=by
 refine VC.of E s17 (by kernel_rfl) Tryz.func17 (by rfl) (by kernel_rfl) (by simp [Tryz.f17]) (by simp [Tryz.f17]) s17_ok fun B=>?_
 have ha1:=ha.1
 simp only [maxLen] at ha1
 simp [Tryz.f17,s17_6,dSl,plS]
 refine ⟨fun h e=>h (by have:=congrArg List.length e; simp at this; omega),fun hl=>?_⟩
 have hl' : a.xs.length = b.xs.length:=by omega
 refine loop_rule (X:=Nat) (fun i=>i <= a.xs.length /\ (a.xs.map plI).take i = (b.xs.map plI).take i) (fun i=>[(0,.d (.sl a.id a.T (a.xs.map cI))),(1,.d (.sl b.id b.T (b.xs.map cI))),(5,.d (.int .i64 i))]) (fun _=>[]) (fun i=>a.xs.length - i) 0 (by simp) (by simp) (by simp) ?_
 intro i hs t m hi hh
 by_cases hlt : i < a.xs.length
 ·have hwi:=wr1 (i:=i) (by omega)
  have hlb : i < b.xs.length:=by omega
  have hst:=eqm_step plI hlt hlb hi.2
  simp [cI,hlt,hlb,hwi,s17_6,]
  simp only [plI] at hst
  refine ⟨fun hne he=>hne (hst.2 (by rw [he])),fun heq=>?_⟩
  exact back (i + 1) ⟨by omega,hst.1 heq⟩ (by omega) rfl (by simp) (by simp) (by simp)
 ·have:=eq_all (a:=a.xs.map plI) (b:=b.xs.map plI) (by simpa using Nat.le_of_not_lt hlt) (by simpa using hl') hi.2
  have hlb : ¬ i < b.xs.length:=by omega
  simp [hlt,hlb,this]
theorem w_laws_szIntSS (a : Sl (Sl (Int))) (left : Int) (h0 : 0 <= left) (h1 : left <= 1048576) (ha : okS (okS okI) a) :
  VC Tryz.prog 62 [.d (dSl (cS cI) a),.d (.int .i64 left)] (fun _ r=>r = .d (.int .i64 (szv left (swS (swS swI) a)))):=by
 refine VC.of E s62 (by kernel_rfl) Tryz.func62 (by rfl) (by kernel_rfl) (by simp [Tryz.f62]) (by simp [Tryz.f62]) s62_ok fun B=>?_
 have ha1:=ha.1
 simp only [maxLen] at ha1
 have hw1 : IntKind.i64.wrap (left - (a.xs.length : Int)) = left - a.xs.length:=wrap64_of (by omega) (by omega)
 have hwt : swS (swS swI) a = a.xs.length + sumW (swS swI) a.xs:=rfl
 simp [Tryz.f62,dSl,hw1]
 refine ⟨fun h=>?_,fun h=>?_⟩
 ·rw [szv_neg (by omega)]
 ·refine loop_rule (X:=Nat) (fun i=>i <= a.xs.length /\ 0 <= left - a.xs.length - sumW (swS swI) (a.xs.take i)) (fun i=>[(0,.d (.sl a.id a.T (a.xs.map (cS cI)))),(1,.d (.int .i64 (left - a.xs.length - sumW (swS swI) (a.xs.take i)))),(5,.d (.int .i64 i))]) (fun _=>[]) (fun i=>a.xs.length - i) 0 ?_ ?_ (by simp) ?_
  ·simp; omega
  ·simp
  ·intro i hs t m hi hh
   by_cases hlt : i < a.xs.length
   ·simp [cS,hlt]
    refine call_pure (w_laws_szIntS a.xs[i] _ (by omega) (by omega) (ha.2 _ (List.getElem_mem _))) rfl (by simp) rfl fun hs' hh'=>?_
    have e1:=sumW_succ (swS swI) hlt
    have e2:=sumW_le (swS swI) a.xs (i + 1)
    have hwi:=wr1 (i:=i) (by omega)
    by_cases hc : (swS swI a.xs[i] : Int) <= left - a.xs.length - sumW (swS swI) (a.xs.take i)
    ·rw [szv_pos hc]
     have hn : ¬ left - a.xs.length - sumW (swS swI) (a.xs.take i) - swS swI a.xs[i] < 0:=by omega
     simp [hwi,hn]
     refine back (i + 1) ⟨by omega,by omega⟩ (by omega) rfl (by simp at hh' ⊢; omega) ?_ (by simp)
     simp
     omega
    ·rw [szv_neg (by omega)]
     simp
     rw [szv_neg (by omega)]
     all_goals exact fun h=>absurd h (by decide)
   ·have : i = a.xs.length:=by omega
    subst this
    simp
    rw [szv_pos] <;> (simp at hi ⊢; omega)
theorem w_laws_eqIntSS (a b : Sl (Sl (Int))) (ha : okS (okS okI) a) :
  VC Tryz.prog 64 [.d (dSl (cS cI) a),.d (dSl (cS cI) b)] (fun _ r=>r = .d (.bool (plS (plS plI) a == plS (plS plI) b))):=by
 refine VC.of E s64 (by kernel_rfl) Tryz.func64 (by rfl) (by kernel_rfl) (by simp [Tryz.f64]) (by simp [Tryz.f64]) s64_ok fun B=>?_
 have ha1:=ha.1
 simp only [maxLen] at ha1
 simp [Tryz.f64,s64_6,dSl,plS]
 refine ⟨fun h e=>h (by have:=congrArg List.length e; simp at this; omega),fun hl=>?_⟩
 have hl' : a.xs.length = b.xs.length:=by omega
 refine loop_rule (X:=Nat) (fun i=>i <= a.xs.length /\ (a.xs.map (plS plI)).take i = (b.xs.map (plS plI)).take i) (fun i=>[(0,.d (.sl a.id a.T (a.xs.map (cS cI)))),(1,.d (.sl b.id b.T (b.xs.map (cS cI)))),(5,.d (.int .i64 i))]) (fun _=>[]) (fun i=>a.xs.length - i) 0 (by simp) (by simp) (by simp) ?_
 intro i hs t m hi hh
 by_cases hlt : i < a.xs.length
 ·have hwi:=wr1 (i:=i) (by omega)
  have hlb : i < b.xs.length:=by omega
  have hst:=eqm_step (plS plI) hlt hlb hi.2
  simp [cS,hlt,hlb,s64_6,]
  refine call_pure (w_laws_eqIntS a.xs[i] b.xs[i] (ha.2 _ (List.getElem_mem _))) rfl (by simp) rfl fun hs' hh'=>?_
  simp at hh'
  simp [hwi]
  refine ⟨fun hne he=>hne (hst.2 (by rw [he])),fun heq=>?_⟩
  exact back (i + 1) ⟨by omega,hst.1 heq⟩ (by omega) rfl (by simp; omega) (by simp) (by simp)
 ·have:=eq_all (a:=a.xs.map (plS plI)) (b:=b.xs.map (plS plI)) (by simpa using Nat.le_of_not_lt hlt) (by simpa using hl') hi.2
  have hlb : ¬ i < b.xs.length:=by omega
  simp [hlt,hlb,this]
theorem w_laws_szRelation (a : Reln) (left : Int) (h0 : 0 <= left) (h1 : left <= 1048576) (ha : okReln a) :
  VC Tryz.prog 122 [.agg ((cReln a).map V.d),.d (.int .i64 left)] (fun _ r=>r = .d (.int .i64 (szv left (swReln a)))):=by
 refine VC.of E s122 (by kernel_rfl) Tryz.func122 (by rfl) (by kernel_rfl) (by simp [Tryz.f122]) (by simp [Tryz.f122]) s122_ok fun B=>?_
 have hwt : swReln a = swS (swS swI) a.rows:=rfl
 have hc0 : (0 : Int) <= left:=h0
 simp [Tryz.f122,cI,cReln,cS,dSl]
 refine call_pure (w_laws_szIntSS a.rows _ (by omega) (by omega) ha.2) rfl (by simp) rfl fun hs' hh'=>?_
 by_cases hb0 : (swS (swS swI) a.rows : Int) <= left
 ·rw [szv_pos hb0]
  have hn0 : ¬ left - swS (swS swI) a.rows < 0:=by omega
  simp [hn0]
  rw [szv_pos (by omega)]; omega
 ·rw [szv_neg (by omega)]
  simp
  try rw [szv_neg (by omega)]
  all_goals exact fun h=>absurd h (by decide)
theorem w_laws_eqRelation (a b : Reln) (ha : okReln a) :
  VC Tryz.prog 37 [.agg ((cReln a).map V.d),.agg ((cReln b).map V.d)] (fun _ r=>r = .d (.bool (plReln a == plReln b))):=by
 refine VC.of E s37 (by kernel_rfl) Tryz.func37 (by rfl) (by kernel_rfl) (by simp [Tryz.f37]) (by simp [Tryz.f37]) s37_ok fun B=>?_
 simp [Tryz.f37,cI,cReln,cS,dSl,plReln,plI,plStr]
 by_cases e0 : a.ar = b.ar
 case neg=>simp [e0]
 simp [e0]
 refine call_pure (w_laws_eqIntSS a.rows b.rows ha.2) rfl (by simp) rfl fun hs1 hh1=>?_
 by_cases e1 : plS (plS plI) a.rows = plS (plS plI) b.rows
 case neg=>simp [e1]
 simp [e1]
theorem w_laws_szTable (a : Tab) (left : Int) (h0 : 0 <= left) (h1 : left <= 1048576) (ha : okTab a) :
  VC Tryz.prog 77 [.agg ((cTab a).map V.d),.d (.int .i64 left)] (fun _ r=>r = .d (.int .i64 (szv left (swTab a)))):=by
 refine VC.of E s77 (by kernel_rfl) Tryz.func77 (by rfl) (by kernel_rfl) (by simp [Tryz.f77]) (by simp [Tryz.f77]) s77_ok fun B=>?_
 have hwt : swTab a = swStr a.name + swReln a.rel:=rfl
 have hc0 : (0 : Int) <= left:=h0
 have hs0 : a.name.length <= 9223372036854775807:=ha.1
 have hw0 : IntKind.i64.wrap (left - (a.name.length : Int)) = left - a.name.length:=wrap64_of (by omega) (by omega)
 have hq0 : swStr a.name = a.name.length:=rfl
 simp [Tryz.f77,cI,cReln,cS,cStr,cTab,dSl,hw0]
 refine ⟨fun hneg=>?_,fun hpos=>?_⟩
 ·rw [szv_neg (by omega)]
 ·skip
  refine call_pure (w_laws_szRelation a.rel _ (by omega) (by omega) ha.2) rfl (by simp) rfl fun hs' hh'=>?_
  by_cases hb1 : (swReln a.rel : Int) <= left - a.name.length
  ·rw [szv_pos hb1]
   have hn1 : ¬ left - a.name.length - swReln a.rel < 0:=by omega
   simp [hn1]
   rw [szv_pos (by omega)]; omega
  ·rw [szv_neg (by omega)]
   simp
   try rw [szv_neg (by omega)]
   all_goals exact fun h=>absurd h (by decide)
theorem w_laws_eqTable (a b : Tab) (ha : okTab a) :
  VC Tryz.prog 108 [.agg ((cTab a).map V.d),.agg ((cTab b).map V.d)] (fun _ r=>r = .d (.bool (plTab a == plTab b))):=by
 refine VC.of E s108 (by kernel_rfl) Tryz.func108 (by rfl) (by kernel_rfl) (by simp [Tryz.f108]) (by simp [Tryz.f108]) s108_ok fun B=>?_
 simp [Tryz.f108,cI,cReln,cS,cStr,cTab,dSl,plTab,plI,plStr]
 by_cases e0 : a.name = b.name
 case neg=>simp [e0]
 simp [e0]
 refine call_pure (w_laws_eqRelation a.rel b.rel ha.2) rfl (by simp) rfl fun hs1 hh1=>?_
 by_cases e1 : plReln a.rel = plReln b.rel
 case neg=>simp [e1]
 simp [e1]
theorem w_laws_szTableS (a : Sl (Tab)) (left : Int) (h0 : 0 <= left) (h1 : left <= 1048576) (ha : okS okTab a) :
  VC Tryz.prog 40 [.d (dSl cTab a),.d (.int .i64 left)] (fun _ r=>r = .d (.int .i64 (szv left (swS swTab a)))):=by
 refine VC.of E s40 (by kernel_rfl) Tryz.func40 (by rfl) (by kernel_rfl) (by simp [Tryz.f40]) (by simp [Tryz.f40]) s40_ok fun B=>?_
 have ha1:=ha.1
 simp only [maxLen] at ha1
 have hw1 : IntKind.i64.wrap (left - (a.xs.length : Int)) = left - a.xs.length:=wrap64_of (by omega) (by omega)
 have hwt : swS swTab a = a.xs.length + sumW swTab a.xs:=rfl
 simp [Tryz.f40,dSl,hw1]
 refine ⟨fun h=>?_,fun h=>?_⟩
 ·rw [szv_neg (by omega)]
 ·refine loop_rule (X:=Nat) (fun i=>i <= a.xs.length /\ 0 <= left - a.xs.length - sumW swTab (a.xs.take i)) (fun i=>[(0,.d (.sl a.id a.T (a.xs.map cTab))),(1,.d (.int .i64 (left - a.xs.length - sumW swTab (a.xs.take i)))),(5,.d (.int .i64 i))]) (fun _=>[]) (fun i=>a.xs.length - i) 0 ?_ ?_ (by simp) ?_
  ·simp; omega
  ·simp
  ·intro i hs t m hi hh
   by_cases hlt : i < a.xs.length
   ·simp [cI,cReln,cS,cStr,cTab,hlt]
    refine call_pure (w_laws_szTable a.xs[i] _ (by omega) (by omega) (ha.2 _ (List.getElem_mem _))) rfl (by simp) rfl fun hs' hh'=>?_
    have e1:=sumW_succ swTab hlt
    have e2:=sumW_le swTab a.xs (i + 1)
    have hwi:=wr1 (i:=i) (by omega)
    by_cases hc : (swTab a.xs[i] : Int) <= left - a.xs.length - sumW swTab (a.xs.take i)
    ·rw [szv_pos hc]
     have hn : ¬ left - a.xs.length - sumW swTab (a.xs.take i) - swTab a.xs[i] < 0:=by omega
     simp [hwi,hn]
     refine back (i + 1) ⟨by omega,by omega⟩ (by omega) rfl (by simp at hh' ⊢; omega) ?_ (by simp)
     simp
     omega
    ·rw [szv_neg (by omega)]
     simp
     rw [szv_neg (by omega)]
     all_goals exact fun h=>absurd h (by decide)
   ·have : i = a.xs.length:=by omega
    subst this
    simp
    rw [szv_pos] <;> (simp at hi ⊢; omega)
theorem w_laws_eqTableS (a b : Sl (Tab)) (ha : okS okTab a) :
  VC Tryz.prog 58 [.d (dSl cTab a),.d (dSl cTab b)] (fun _ r=>r = .d (.bool (plS plTab a == plS plTab b))):=by
 refine VC.of E s58 (by kernel_rfl) Tryz.func58 (by rfl) (by kernel_rfl) (by simp [Tryz.f58]) (by simp [Tryz.f58]) s58_ok fun B=>?_
 have ha1:=ha.1
 simp only [maxLen] at ha1
 simp [Tryz.f58,s58_6,dSl,plS]
 refine ⟨fun h e=>h (by have:=congrArg List.length e; simp at this; omega),fun hl=>?_⟩
 have hl' : a.xs.length = b.xs.length:=by omega
 refine loop_rule (X:=Nat) (fun i=>i <= a.xs.length /\ (a.xs.map plTab).take i = (b.xs.map plTab).take i) (fun i=>[(0,.d (.sl a.id a.T (a.xs.map cTab))),(1,.d (.sl b.id b.T (b.xs.map cTab))),(5,.d (.int .i64 i))]) (fun _=>[]) (fun i=>a.xs.length - i) 0 (by simp) (by simp) (by simp) ?_
 intro i hs t m hi hh
 by_cases hlt : i < a.xs.length
 ·have hwi:=wr1 (i:=i) (by omega)
  have hlb : i < b.xs.length:=by omega
  have hst:=eqm_step plTab hlt hlb hi.2
  simp [cI,cReln,cS,cStr,cTab,hlt,hlb,s58_6,]
  refine call_pure (w_laws_eqTable a.xs[i] b.xs[i] (ha.2 _ (List.getElem_mem _))) rfl (by simp) rfl fun hs' hh'=>?_
  simp at hh'
  simp [hwi]
  refine ⟨fun hne he=>hne (hst.2 (by rw [he])),fun heq=>?_⟩
  exact back (i + 1) ⟨by omega,hst.1 heq⟩ (by omega) rfl (by simp; omega) (by simp) (by simp)
 ·have:=eq_all (a:=a.xs.map plTab) (b:=b.xs.map plTab) (by simpa using Nat.le_of_not_lt hlt) (by simpa using hl') hi.2
  have hlb : ¬ i < b.xs.length:=by omega
  simp [hlt,hlb,this]
theorem w_laws_szDatabase (a : Db) (left : Int) (h0 : 0 <= left) (h1 : left <= 1048576) (ha : okDb a) :
  VC Tryz.prog 7 [.agg ((cDb a).map V.d),.d (.int .i64 left)] (fun _ r=>r = .d (.int .i64 (szv left (swDb a)))):=by
 refine VC.of E s7 (by kernel_rfl) Tryz.func7 (by rfl) (by kernel_rfl) (by simp [Tryz.f7]) (by simp [Tryz.f7]) s7_ok fun B=>?_
 have hwt : swDb a = swS swTab a.tabs:=rfl
 have hc0 : (0 : Int) <= left:=h0
 simp [Tryz.f7,cDb,cS,dSl]
 refine call_pure (w_laws_szTableS a.tabs _ (by omega) (by omega) ha) rfl (by simp) rfl fun hs' hh'=>?_
 by_cases hb0 : (swS swTab a.tabs : Int) <= left
 ·rw [szv_pos hb0]
  have hn0 : ¬ left - swS swTab a.tabs < 0:=by omega
  simp [hn0]
  rw [szv_pos (by omega)]; omega
 ·rw [szv_neg (by omega)]
  simp
  try rw [szv_neg (by omega)]
  all_goals exact fun h=>absurd h (by decide)
theorem w_laws_eqDatabase (a b : Db) (ha : okDb a) :
  VC Tryz.prog 15 [.agg ((cDb a).map V.d),.agg ((cDb b).map V.d)] (fun _ r=>r = .d (.bool (plDb a == plDb b))):=by
 refine VC.of E s15 (by kernel_rfl) Tryz.func15 (by rfl) (by kernel_rfl) (by simp [Tryz.f15]) (by simp [Tryz.f15]) s15_ok fun B=>?_
 simp [Tryz.f15,cDb,cS,dSl,plDb,plI,plStr]
 refine call_pure (w_laws_eqTableS a.tabs b.tabs ha) rfl (by simp) rfl fun hs0 hh0=>?_
 by_cases e0 : plS plTab a.tabs = plS plTab b.tabs
 case neg=>simp [e0]
 simp [e0]
theorem w_laws_szAtom (a : Atom) (left : Int) (h0 : 0 <= left) (h1 : left <= 1048576) (ha : okAtom a) :
  VC Tryz.prog 78 [.agg ((cAtom a).map V.d),.d (.int .i64 left)] (fun _ r=>r = .d (.int .i64 (szv left (swAtom a)))):=by
 refine VC.of E s78 (by kernel_rfl) Tryz.func78 (by rfl) (by kernel_rfl) (by simp [Tryz.f78]) (by simp [Tryz.f78]) s78_ok fun B=>?_
 have hwt : swAtom a = swStr a.rel + swS swI a.vars:=rfl
 have hc0 : (0 : Int) <= left:=h0
 have hs0 : a.rel.length <= 9223372036854775807:=ha.1
 have hw0 : IntKind.i64.wrap (left - (a.rel.length : Int)) = left - a.rel.length:=wrap64_of (by omega) (by omega)
 have hq0 : swStr a.rel = a.rel.length:=rfl
 simp [Tryz.f78,cAtom,cS,cStr,dSl,hw0]
 refine ⟨fun hneg=>?_,fun hpos=>?_⟩
 ·rw [szv_neg (by omega)]
 ·skip
  refine call_pure (w_laws_szIntS a.vars _ (by omega) (by omega) ha.2) rfl (by simp) rfl fun hs' hh'=>?_
  by_cases hb1 : (swS swI a.vars : Int) <= left - a.rel.length
  ·rw [szv_pos hb1]
   have hn1 : ¬ left - a.rel.length - swS swI a.vars < 0:=by omega
   simp [hn1]
   rw [szv_pos (by omega)]; omega
  ·rw [szv_neg (by omega)]
   simp
   try rw [szv_neg (by omega)]
   all_goals exact fun h=>absurd h (by decide)
theorem w_laws_eqAtom (a b : Atom) (ha : okAtom a) :
  VC Tryz.prog 109 [.agg ((cAtom a).map V.d),.agg ((cAtom b).map V.d)] (fun _ r=>r = .d (.bool (plAtom a == plAtom b))):=by
 refine VC.of E s109 (by kernel_rfl) Tryz.func109 (by rfl) (by kernel_rfl) (by simp [Tryz.f109]) (by simp [Tryz.f109]) s109_ok fun B=>?_
 simp [Tryz.f109,cAtom,cS,cStr,dSl,plAtom,plI,plStr]
 by_cases e0 : a.rel = b.rel
 case neg=>simp [e0]
 simp [e0]
 refine call_pure (w_laws_eqIntS a.vars b.vars ha.2) rfl (by simp) rfl fun hs1 hh1=>?_
 by_cases e1 : plS plI a.vars = plS plI b.vars
 case neg=>simp [e1]
 simp [e1]
theorem w_laws_szAtomS (a : Sl (Atom)) (left : Int) (h0 : 0 <= left) (h1 : left <= 1048576) (ha : okS okAtom a) :
  VC Tryz.prog 41 [.d (dSl cAtom a),.d (.int .i64 left)] (fun _ r=>r = .d (.int .i64 (szv left (swS swAtom a)))):=by
 refine VC.of E s41 (by kernel_rfl) Tryz.func41 (by rfl) (by kernel_rfl) (by simp [Tryz.f41]) (by simp [Tryz.f41]) s41_ok fun B=>?_
 have ha1:=ha.1
 simp only [maxLen] at ha1
 have hw1 : IntKind.i64.wrap (left - (a.xs.length : Int)) = left - a.xs.length:=wrap64_of (by omega) (by omega)
 have hwt : swS swAtom a = a.xs.length + sumW swAtom a.xs:=rfl
 simp [Tryz.f41,dSl,hw1]
 refine ⟨fun h=>?_,fun h=>?_⟩
 ·rw [szv_neg (by omega)]
 ·refine loop_rule (X:=Nat) (fun i=>i <= a.xs.length /\ 0 <= left - a.xs.length - sumW swAtom (a.xs.take i)) (fun i=>[(0,.d (.sl a.id a.T (a.xs.map cAtom))),(1,.d (.int .i64 (left - a.xs.length - sumW swAtom (a.xs.take i)))),(5,.d (.int .i64 i))]) (fun _=>[]) (fun i=>a.xs.length - i) 0 ?_ ?_ (by simp) ?_
  ·simp; omega
  ·simp
  ·intro i hs t m hi hh
   by_cases hlt : i < a.xs.length
   ·simp [cAtom,cS,cStr,hlt]
    refine call_pure (w_laws_szAtom a.xs[i] _ (by omega) (by omega) (ha.2 _ (List.getElem_mem _))) rfl (by simp) rfl fun hs' hh'=>?_
    have e1:=sumW_succ swAtom hlt
    have e2:=sumW_le swAtom a.xs (i + 1)
    have hwi:=wr1 (i:=i) (by omega)
    by_cases hc : (swAtom a.xs[i] : Int) <= left - a.xs.length - sumW swAtom (a.xs.take i)
    ·rw [szv_pos hc]
     have hn : ¬ left - a.xs.length - sumW swAtom (a.xs.take i) - swAtom a.xs[i] < 0:=by omega
     simp [hwi,hn]
     refine back (i + 1) ⟨by omega,by omega⟩ (by omega) rfl (by simp at hh' ⊢; omega) ?_ (by simp)
     simp
     omega
    ·rw [szv_neg (by omega)]
     simp
     rw [szv_neg (by omega)]
     all_goals exact fun h=>absurd h (by decide)
   ·have : i = a.xs.length:=by omega
    subst this
    simp
    rw [szv_pos] <;> (simp at hi ⊢; omega)
theorem w_laws_eqAtomS (a b : Sl (Atom)) (ha : okS okAtom a) :
  VC Tryz.prog 59 [.d (dSl cAtom a),.d (dSl cAtom b)] (fun _ r=>r = .d (.bool (plS plAtom a == plS plAtom b))):=by
 refine VC.of E s59 (by kernel_rfl) Tryz.func59 (by rfl) (by kernel_rfl) (by simp [Tryz.f59]) (by simp [Tryz.f59]) s59_ok fun B=>?_
 have ha1:=ha.1
 simp only [maxLen] at ha1
 simp [Tryz.f59,s59_6,dSl,plS]
 refine ⟨fun h e=>h (by have:=congrArg List.length e; simp at this; omega),fun hl=>?_⟩
 have hl' : a.xs.length = b.xs.length:=by omega
 refine loop_rule (X:=Nat) (fun i=>i <= a.xs.length /\ (a.xs.map plAtom).take i = (b.xs.map plAtom).take i) (fun i=>[(0,.d (.sl a.id a.T (a.xs.map cAtom))),(1,.d (.sl b.id b.T (b.xs.map cAtom))),(5,.d (.int .i64 i))]) (fun _=>[]) (fun i=>a.xs.length - i) 0 (by simp) (by simp) (by simp) ?_
 intro i hs t m hi hh
 by_cases hlt : i < a.xs.length
 ·have hwi:=wr1 (i:=i) (by omega)
  have hlb : i < b.xs.length:=by omega
  have hst:=eqm_step plAtom hlt hlb hi.2
  simp [cAtom,cS,cStr,hlt,hlb,s59_6,]
  refine call_pure (w_laws_eqAtom a.xs[i] b.xs[i] (ha.2 _ (List.getElem_mem _))) rfl (by simp) rfl fun hs' hh'=>?_
  simp at hh'
  simp [hwi]
  refine ⟨fun hne he=>hne (hst.2 (by rw [he])),fun heq=>?_⟩
  exact back (i + 1) ⟨by omega,hst.1 heq⟩ (by omega) rfl (by simp; omega) (by simp) (by simp)
 ·have:=eq_all (a:=a.xs.map plAtom) (b:=b.xs.map plAtom) (by simpa using Nat.le_of_not_lt hlt) (by simpa using hl') hi.2
  have hlb : ¬ i < b.xs.length:=by omega
  simp [hlt,hlb,this]
theorem w_laws_szQuery (a : Query) (left : Int) (h0 : 0 <= left) (h1 : left <= 1048576) (ha : okQuery a) :
  VC Tryz.prog 8 [.agg ((cQuery a).map V.d),.d (.int .i64 left)] (fun _ r=>r = .d (.int .i64 (szv left (swQuery a)))):=by
 refine VC.of E s8 (by kernel_rfl) Tryz.func8 (by rfl) (by kernel_rfl) (by simp [Tryz.f8]) (by simp [Tryz.f8]) s8_ok fun B=>?_
 have hwt : swQuery a = swS swAtom a.atoms + swS swI a.out:=rfl
 have hc0 : (0 : Int) <= left:=h0
 simp [Tryz.f8,cI,cQuery,cS,dSl]
 refine call_pure (w_laws_szAtomS a.atoms _ (by omega) (by omega) ha.2.1) rfl (by simp) rfl fun hs' hh'=>?_
 by_cases hb0 : (swS swAtom a.atoms : Int) <= left
 ·rw [szv_pos hb0]
  have hn0 : ¬ left - swS swAtom a.atoms < 0:=by omega
  simp [hn0]
  refine call_pure (w_laws_szIntS a.out _ (by omega) (by omega) ha.2.2) rfl (by simp) rfl fun hs' hh'=>?_
  by_cases hb1 : (swS swI a.out : Int) <= left - swS swAtom a.atoms
  ·rw [szv_pos hb1]
   have hn1 : ¬ left - swS swAtom a.atoms - swS swI a.out < 0:=by omega
   simp [hn1]
   rw [szv_pos (by omega)]; omega
  ·rw [szv_neg (by omega)]
   simp
   try rw [szv_neg (by omega)]
   all_goals exact fun h=>absurd h (by decide)
 ·rw [szv_neg (by omega)]
  simp
  try rw [szv_neg (by omega)]
  all_goals exact fun h=>absurd h (by decide)
theorem w_laws_eqQuery (a b : Query) (ha : okQuery a) :
  VC Tryz.prog 16 [.agg ((cQuery a).map V.d),.agg ((cQuery b).map V.d)] (fun _ r=>r = .d (.bool (plQuery a == plQuery b))):=by
 refine VC.of E s16 (by kernel_rfl) Tryz.func16 (by rfl) (by kernel_rfl) (by simp [Tryz.f16]) (by simp [Tryz.f16]) s16_ok fun B=>?_
 simp [Tryz.f16,cI,cQuery,cS,dSl,plQuery,plI,plStr]
 by_cases e0 : a.n = b.n
 case neg=>simp [e0]
 simp [e0]
 refine call_pure (w_laws_eqAtomS a.atoms b.atoms ha.2.1) rfl (by simp) rfl fun hs1 hh1=>?_
 by_cases e1 : plS plAtom a.atoms = plS plAtom b.atoms
 case neg=>simp [e1]
 simp [e1]
 refine call_pure (w_laws_eqIntS a.out b.out ha.2.2) rfl (by simp) rfl fun hs2 hh2=>?_
 by_cases e2 : plS plI a.out = plS plI b.out
 case neg=>simp [e2]
 simp [e2]
theorem w_laws_szDecomposition (a : Dec) (left : Int) (h0 : 0 <= left) (h1 : left <= 1048576) (ha : okDec a) :
  VC Tryz.prog 23 [.agg ((cDec a).map V.d),.d (.int .i64 left)] (fun _ r=>r = .d (.int .i64 (szv left (swDec a)))):=by
 refine VC.of E s23 (by kernel_rfl) Tryz.func23 (by rfl) (by kernel_rfl) (by simp [Tryz.f23]) (by simp [Tryz.f23]) s23_ok fun B=>?_
 have hwt : swDec a = swS (swS swI) a.bags + swS swI a.par:=rfl
 have hc0 : (0 : Int) <= left:=h0
 simp [Tryz.f23,cDec,cS,dSl]
 refine call_pure (w_laws_szIntSS a.bags _ (by omega) (by omega) ha.1) rfl (by simp) rfl fun hs' hh'=>?_
 by_cases hb0 : (swS (swS swI) a.bags : Int) <= left
 ·rw [szv_pos hb0]
  have hn0 : ¬ left - swS (swS swI) a.bags < 0:=by omega
  simp [hn0]
  refine call_pure (w_laws_szIntS a.par _ (by omega) (by omega) ha.2) rfl (by simp) rfl fun hs' hh'=>?_
  by_cases hb1 : (swS swI a.par : Int) <= left - swS (swS swI) a.bags
  ·rw [szv_pos hb1]
   have hn1 : ¬ left - swS (swS swI) a.bags - swS swI a.par < 0:=by omega
   simp [hn1]
   rw [szv_pos (by omega)]; omega
  ·rw [szv_neg (by omega)]
   simp
   try rw [szv_neg (by omega)]
   all_goals exact fun h=>absurd h (by decide)
 ·rw [szv_neg (by omega)]
  simp
  try rw [szv_neg (by omega)]
  all_goals exact fun h=>absurd h (by decide)
theorem w_laws_eqDecomposition (a b : Dec) (ha : okDec a) :
  VC Tryz.prog 27 [.agg ((cDec a).map V.d),.agg ((cDec b).map V.d)] (fun _ r=>r = .d (.bool (plDec a == plDec b))):=by
 refine VC.of E s27 (by kernel_rfl) Tryz.func27 (by rfl) (by kernel_rfl) (by simp [Tryz.f27]) (by simp [Tryz.f27]) s27_ok fun B=>?_
 simp [Tryz.f27,cDec,cS,dSl,plDec,plI,plStr]
 refine call_pure (w_laws_eqIntSS a.bags b.bags ha.1) rfl (by simp) rfl fun hs0 hh0=>?_
 by_cases e0 : plS (plS plI) a.bags = plS (plS plI) b.bags
 case neg=>simp [e0]
 simp [e0]
 refine call_pure (w_laws_eqIntS a.par b.par ha.2) rfl (by simp) rfl fun hs1 hh1=>?_
 by_cases e1 : plS plI a.par = plS plI b.par
 case neg=>simp [e1]
 simp [e1]
theorem w_laws_toIntS (a : Sl (Int)) (ha : okS okI a) (hb : a.xs.length <= 1048576) :
  VC Tryz.prog 12 [.d (dSl cI a)] (fun n r=>∃ y : Sl (Int),r = .d (dSl cI y) /\ plS plI y = plS plI a /\ okS okI y /\ Good (cS cI y) (whS whI y) n):=by
 refine VC.of E s12 (by kernel_rfl) Tryz.func12 (by rfl) (by kernel_rfl) (by simp [Tryz.f12]) (by simp [Tryz.f12]) s12_ok fun B=>?_
 simp [Tryz.f12,dSl]
 refine ⟨⟨by omega,by simp only [maxLen]; omega⟩,?_⟩
 refine loop_rule (X:=Nat) (fun i=>i <= a.xs.length) (fun i=>[(0,.d (.sl a.id a.T (a.xs.map cI))),(3,.own 7 0 a.xs.length),(4,.d (.int .i64 i))]) (fun i=>[(7,some (.row 3 1 (fill [.int .i64 0] (a.xs.map cI) i)))]) (fun i=>a.xs.length - i) 0 (by simp) (by simp) (by simp) ?_
 intro i hs t m hi hh
 by_cases hlt : i < a.xs.length
 ·have hwi:=wr1 (i:=i) (by omega)
  simp [cI,hlt,hwi]
  refine back (i + 1) (by omega) (by omega) rfl (by simp) (by simp) ?_
  have:=fill_set (z:=[.int .i64 0]) (l:=a.xs.map cI) (i:=i) (by simpa using hlt) (by simp [hlt]; rfl)
  simp only [cI] at this ⊢
  simp [this]
 ·have hn : i = a.xs.length:=by omega
  subst hn
  have hf : fill [.int .i64 0] (a.xs.map cI) a.xs.length = a.xs.map cI:=fill_all (by simp)
  simp [hf]
  intro γ hs' h1 hg
  obtain ⟨q1,q2⟩:=gam_at hg (k:=7) (T:=3) (sz:=1) (es:=a.xs.map cI) (by simp)
  have q3:=gam_row hg (k:=7) (T:=3) (sz:=1) (es:=a.xs.map cI) (by simp)
  clear hg
  refine ⟨⟨γ 7,some (3,1),a.xs⟩,⟨⟨rfl,rfl,List.take_of_length_le (by simp)⟩,rfl,ha,good_row (fun g hg=>(q1 g hg).1) (by simpa using q2) q3 ⟨by simp,by simp⟩ (by simp [whI,whStr])⟩⟩
theorem w_laws_heldIntS (a : Sl (Int)) (k : Int) (h0 : 1 <= k) (h1 : k + wtS wtI a <= 4611686018427387904) (ha : okS okI a) :
  VC Tryz.prog 29 [.d (dSl cI a),.d (.int .i64 k)] (fun _ r=>r = .d (.int .i64 (hv (hlS (hlI) (wtI) a k) k (wtS wtI a)))):=by
 refine VC.of E s29 (by kernel_rfl) Tryz.func29 (by rfl) (by kernel_rfl) (by simp [Tryz.f29]) (by simp [Tryz.f29]) s29_ok fun B=>?_
 obtain ⟨id,T,xs⟩:=a
 have ha1:=ha.1
 simp only [maxLen] at ha1
 have hwt : wtS wtI (⟨id,T,xs⟩ : Sl (Int)) = sumW wtI xs:=rfl
 have hhl : hlS (hlI) (wtI) (⟨id,T,xs⟩ : Sl (Int)) k = hlList hlI wtI xs k:=rfl
 rw [hwt] at h1
 rw [hwt,hhl]
 simp [Tryz.f29,dSl]
 refine loop_rule (X:=Nat) (fun i=>i <= xs.length /\ hlList hlI wtI (xs.take i) k = true) (fun i=>[(0,.d (.sl id T (xs.map cI))),(1,.d (.int .i64 (k + sumW wtI (xs.take i)))),(5,.d (.int .i64 i))]) (fun _=>[]) (fun i=>xs.length - i) 0 (by simp [hlList]) (by simp) (by simp) ?_
 intro i hs t m hi hh
 by_cases hlt : i < xs.length
 ·have hwi:=wr1 (i:=i) (by omega)
  have e1:=sumW_succ wtI hlt
  have e2:=sumW_le wtI xs (i + 1)
  have hmem : xs[i] ∈ xs:=List.getElem_mem _
  have hstep:=hlList_step (hl:=hlI) (wt:=wtI) (k:=k) hlt
  rw [hi.2,Bool.true_and] at hstep
  have hbad:=hlList_bad (hl:=hlI) (wt:=wtI) (k:=k) hlt
  have hex : hlI xs[i] (k + sumW wtI (xs.take i)) = (xs[i] == k + sumW wtI (xs.take i)):=rfl
  have hwx : wtI xs[i] = 1:=by first | rfl | (simp only [wtTab,wtDelta,wtVRel,wtReln,wtStr,wtI]; omega)
  have hk0 : IntKind.i64.wrap (k + sumW wtI (xs.take i) + 1) = k + sumW wtI (xs.take i) + 1:=wrap64_of (by omega) (by omega)
  simp [cI,hlt,dSl,]
  by_cases c0 : xs[i] = k + sumW wtI (xs.take i)
  case neg=>simp [c0,hbad (by simp [hex,c0])]
  simp [c0,hk0,]
  simp [hwi]
  refine back (i + 1) ⟨by omega,hstep.trans (hex.trans (by simp [c0]))⟩ (by omega) rfl (by simp <;> omega) ?_ (by simp)
  simp
  omega
 ·have hn : i = xs.length:=by omega
  subst hn
  have h2:=hi.2
  rw [List.take_length] at h2
  simp [h2]
theorem w_laws_toIntSS (a : Sl (Sl (Int))) (ha : okS (okS okI) a) (hb : swS (swS swI) a <= 1048576) :
  VC Tryz.prog 63 [.d (dSl (cS cI) a)] (fun n r=>∃ y : Sl (Sl (Int)),r = .d (dSl (cS cI) y) /\ plS (plS plI) y = plS (plS plI) a /\ okS (okS okI) y /\ Good (cS (cS cI) y) (whS (whS whI) y) n):=by
 refine VC.of E s63 (by kernel_rfl) Tryz.func63 (by rfl) (by kernel_rfl) (by simp [Tryz.f63]) (by simp [Tryz.f63]) s63_ok fun B=>?_
 have hwt : swS (swS swI) a = a.xs.length + sumW (swS swI) a.xs:=rfl
 simp [Tryz.f63,dSl]
 refine ⟨⟨by omega,by simp only [maxLen]; omega⟩,?_⟩
 refine loop_rule2 (X:=Nat × List (Sl (Int))) (fun p h=>p.1 <= a.xs.length /\ p.2.length = p.1 /\ p.2.map (plS plI) = (a.xs.map (plS plI)).take p.1 /\ (∀ y ∈ p.2,okS okI y) /\ GoodL (cS cI) (whS whI) B h p.2) (fun p=>[(0,.d (.sl a.id a.T (a.xs.map (cS cI)))),(3,.own 7 0 a.xs.length),(4,.d (.int .i64 p.1))]) (fun p=>[(7,some (.row 26 1 (p.2.map (cS cI) ++ List.replicate (a.xs.length - p.1) [.sl none none []])))]) (fun p=>a.xs.length - p.1) (0,[]) ⟨by simp,rfl,by simp,by simp,GoodL.nil⟩ (by simp) (by simp) ?_
 rintro ⟨i,ys⟩ hs t m ⟨hi,hyl,hpl,hok,hgd⟩ hh
 simp only at hi hyl hpl hok hgd
 by_cases hlt : i < a.xs.length
 ·have hwi:=wr1 (i:=i) (by omega)
  have hmem : a.xs[i] ∈ a.xs:=List.getElem_mem _
  have hsw:=sumW_mem (swS swI) hmem
  simp [cS,hlt]
  refine call_some (w_laws_toIntS a.xs[i] (ha.2 _ hmem) (by simp only [swS] at hsw; omega)) rfl (by simp) fun n hs' r hn hn' hp hr=>?_
  obtain ⟨y,rfl,hy1,hy2,hy3⟩:=hp
  simp at hn
  have hr' : ∀ g ∈ idsL (cS cI y),g < hs':=fun g hg=>hr g (by first | (simp [cS,V.ids,idsVL,idsL] at hg; done) | simpa [cS,V.ids,idsVL,idsL] using hg)
  have hyi : ys.length = i:=hyl
  simp [cS,hlt,hwi,hyi,show i + (a.xs.length - i) = a.xs.length by omega,dSl]
  refine back2 (i + 1,ys ++ [y]) ⟨by omega,by simp [hyi],?_,?_,?_⟩ (by simp <;> omega) rfl (by simp <;> omega) (by simp) ?_
  ·simp only [List.map_append,hpl,List.map_cons,List.map_nil,hy1]
   rw [List.take_succ_eq_append_getElem (by simpa using hlt)]; simp
  ·intro y' hy'
   rcases List.mem_append.1 hy' with h | h
   ·exact hok y' h
   ·rw [List.mem_singleton.1 h]; exact hy2
  ·exact GoodL.snoc hgd (by omega) hn' hy3 hr'
  ·simp [rep_set0 hlt,cS,dSl]
 ·have hn : i = a.xs.length:=by omega
  subst hn
  simp
  intro γ hs' h1 hg
  obtain ⟨q1,q2⟩:=gam_at hg (k:=7) (T:=26) (sz:=1) (es:=ys.map (cS cI)) (by simp [upd])
  have q3:=gam_row hg (k:=7) (T:=26) (sz:=1) (es:=ys.map (cS cI)) (by simp [upd])
  clear hg
  refine ⟨_,⟨by omega,rfl⟩,⟨γ 7,some (26,1),ys⟩,?_,by rw [List.take_of_length_le (by simp)] at hpl; exact hpl,⟨by simp only [maxLen]; show ys.length <= _; omega,hok⟩,good_row (fun g hg=>(q1 g hg).1) (by simpa using q2) q3 ⟨hgd.nd,hgd.lo⟩ hgd.wh⟩
  rw [if_pos hyl.symm,List.take_of_length_le (by simp [hyl])]
theorem w_laws_heldIntSS (a : Sl (Sl (Int))) (k : Int) (h0 : 1 <= k) (h1 : k + wtS (wtS wtI) a <= 4611686018427387904) (ha : okS (okS okI) a) :
  VC Tryz.prog 68 [.d (dSl (cS cI) a),.d (.int .i64 k)] (fun _ r=>r = .d (.int .i64 (hv (hlS (hlS (hlI) (wtI)) (wtS wtI) a k) k (wtS (wtS wtI) a)))):=by
 refine VC.of E s68 (by kernel_rfl) Tryz.func68 (by rfl) (by kernel_rfl) (by simp [Tryz.f68]) (by simp [Tryz.f68]) s68_ok fun B=>?_
 obtain ⟨id,T,xs⟩:=a
 have ha1:=ha.1
 simp only [maxLen] at ha1
 have hwt : wtS (wtS wtI) (⟨id,T,xs⟩ : Sl (Sl (Int))) = sumW (wtS wtI) xs:=rfl
 have hhl : hlS (hlS (hlI) (wtI)) (wtS wtI) (⟨id,T,xs⟩ : Sl (Sl (Int))) k = hlList (hlS (hlI) (wtI)) (wtS wtI) xs k:=rfl
 rw [hwt] at h1
 rw [hwt,hhl]
 simp [Tryz.f68,dSl]
 refine loop_rule (X:=Nat) (fun i=>i <= xs.length /\ hlList (hlS (hlI) (wtI)) (wtS wtI) (xs.take i) k = true) (fun i=>[(0,.d (.sl id T (xs.map (cS cI)))),(1,.d (.int .i64 (k + sumW (wtS wtI) (xs.take i)))),(5,.d (.int .i64 i))]) (fun _=>[]) (fun i=>xs.length - i) 0 (by simp [hlList]) (by simp) (by simp) ?_
 intro i hs t m hi hh
 by_cases hlt : i < xs.length
 ·have hwi:=wr1 (i:=i) (by omega)
  have e1:=sumW_succ (wtS wtI) hlt
  have e2:=sumW_le (wtS wtI) xs (i + 1)
  have hmem : xs[i] ∈ xs:=List.getElem_mem _
  have hstep:=hlList_step (hl:=(hlS (hlI) (wtI))) (wt:=(wtS wtI)) (k:=k) hlt
  rw [hi.2,Bool.true_and] at hstep
  have hbad:=hlList_bad (hl:=(hlS (hlI) (wtI))) (wt:=(wtS wtI)) (k:=k) hlt
  have hex : hlS (hlI) (wtI) xs[i] (k + sumW (wtS wtI) (xs.take i)) = (hlS (hlI) (wtI) xs[i] (k + sumW (wtS wtI) (xs.take i))):=rfl
  have hwx : wtS wtI xs[i] = wtS wtI xs[i]:=by first | rfl | (simp only [wtTab,wtDelta,wtVRel,wtReln,wtStr,wtI]; omega)
  simp [cS,hlt,dSl,]
  refine call_pure (w_laws_heldIntS xs[i] _ (by omega) (by omega) ((ha.2 _ hmem))) rfl (by simp) rfl fun hs0 hh0=>?_
  simp at hh0
  by_cases c0 : hlS (hlI) (wtI) xs[i] (k + sumW (wtS wtI) (xs.take i)) = true
  case neg=>
   have c0' : hlS (hlI) (wtI) xs[i] (k + sumW (wtS wtI) (xs.take i)) = false:=by simpa using c0
   simp [c0',hbad (by simp [hex,c0'])]
  have hn0 : ¬ k + sumW (wtS wtI) (xs.take i) + (wtS wtI xs[i] : Int) < 0:=by omega
  simp [c0,hn0,hlt,cS,dSl,]
  simp [hwi]
  refine back (i + 1) ⟨by omega,hstep.trans (hex.trans (by simp [c0]))⟩ (by omega) rfl (by simp <;> omega) ?_ (by simp)
  simp
  omega
 ·have hn : i = xs.length:=by omega
  subst hn
  have h2:=hi.2
  rw [List.take_length] at h2
  simp [h2]
theorem w_laws_toRelation (a : Reln) (ha : okReln a) (hb : swReln a <= 1048576) :
  VC Tryz.prog 128 [.agg ((cReln a).map V.d)] (fun n r=>∃ y : Reln,r = .agg ((cReln y).map V.d) /\ plReln y = plReln a /\ okReln y /\ Good (cReln y) (whReln y) n):=by
 refine VC.of E s128 (by kernel_rfl) Tryz.func128 (by rfl) (by kernel_rfl) (by simp [Tryz.f128]) (by simp [Tryz.f128]) s128_ok fun B=>?_
 have hwt : swReln a = swS (swS swI) a.rows:=rfl
 simp [Tryz.f128,cI,cReln,cS,dSl]
 refine call_some (w_laws_toIntSS a.rows ha.2 (by have:=hwt; omega)) rfl (by simp) fun n0 hs0 r0 hn0 hm0 hp0 hr0=>?_
 obtain ⟨y0,rfl,hy0,hk0,hg0⟩:=hp0
 have hl0 : ∀ g ∈ idsL (cS (cS cI) y0),g < hs0:=fun g hg=>hr0 g (by first | (simp [cS,V.ids,idsVL,idsL] at hg; done) | simpa [cS,V.ids,idsVL,idsL] using hg)
 simp at hn0
 simp [cS,dSl]
 refine ⟨⟨a.ar,y0⟩,?_⟩
 refine ⟨by simp [cI,cReln,cS,dSl],by simp only [plReln,hy0],⟨ha.1,hk0⟩,?_⟩
 have G0 : Good (cI a.ar) (whI a.ar) B:=good_I B a.ar
 have G1 : Good (cS (cS cI) y0) (whS (whS whI) y0) B:=hg0.le (by omega)
 have U0 : ∀ g ∈ idsL (cI a.ar),g < B:=by simp [cI,idsL,D.ids]
 have K1 : Good (cI a.ar ++ cS (cS cI) y0) ((whI a.ar) /\ whS (whS whI) y0) B:=Good.app G0 G1 (fun g h h'=>by have h1:=U0 g h; have h2:=hg0.lo g h'; omega)
 have U1 : ∀ g ∈ idsL (cI a.ar ++ cS (cS cI) y0),g < hs0:=fun g h=>by rw [idsL_app] at h; rcases List.mem_append.1 h with h | h; (have h1:=U0 g h; omega); exact hl0 g h
 exact ⟨K1.nd,K1.lo,by have h:=K1.wh; exact ⟨h.1,h.2⟩⟩
theorem w_laws_heldRelation (a : Reln) (k : Int) (h0 : 1 <= k) (h1 : k + wtTReln a <= 4611686018427387904) (ha : okReln a) :
  VC Tryz.prog 39 [.agg ((cReln a).map V.d),.d (.int .i64 k)] (fun _ r=>r = .d (.int .i64 (hv (hlTReln a k) k (wtTReln a)))):=by
 refine VC.of E s39 (by kernel_rfl) Tryz.func39 (by rfl) (by kernel_rfl) (by simp [Tryz.f39]) (by simp [Tryz.f39]) s39_ok fun B=>?_
 have hwt : wtTReln a = wtS (wtS wtI) a.rows:=rfl
 have hex : hlTReln a k = (hlS (hlS (hlI) (wtI)) (wtS wtI) a.rows (k)):=rfl
 simp [Tryz.f39,cI,cReln,cS,dSl]
 refine call_pure (w_laws_heldIntSS a.rows _ (by omega) (by omega) ha.2) rfl (by simp) rfl fun hs0 hh0=>?_
 by_cases c0 : hlS (hlS (hlI) (wtI)) (wtS wtI) a.rows (k) = true
 case neg=>
  have c0' : hlS (hlS (hlI) (wtI)) (wtS wtI) a.rows (k) = false:=by simpa using c0
  simp [c0',hex]
 have hn0 : ¬ k + (wtS (wtS wtI) a.rows : Int) < 0:=by omega
 simp [c0,hn0]
 simp [hex,c0,hwt]
 try omega
theorem w_laws_toTable (a : Tab) (ha : okTab a) (hb : swTab a <= 1048576) :
  VC Tryz.prog 92 [.agg ((cTab a).map V.d)] (fun n r=>∃ y : Tab,r = .agg ((cTab y).map V.d) /\ plTab y = plTab a /\ okTab y /\ Good (cTab y) (whTab y) n):=by
 refine VC.of E s92 (by kernel_rfl) Tryz.func92 (by rfl) (by kernel_rfl) (by simp [Tryz.f92]) (by simp [Tryz.f92]) s92_ok fun B=>?_
 have hwt : swTab a = swStr a.name + swReln a.rel:=rfl
 simp [Tryz.f92,cI,cReln,cS,cStr,cTab,dSl]
 refine call_some (w_laws_toRelation a.rel ha.2 (by have:=hwt; omega)) rfl (by simp) fun n0 hs0 r0 hn0 hm0 hp0 hr0=>?_
 obtain ⟨y0,rfl,hy0,hk0,hg0⟩:=hp0
 have hl0 : ∀ g ∈ idsL (cReln y0),g < hs0:=fun g hg=>hr0 g (by first | (simp [cI,cReln,cS,V.ids,idsVL,idsL] at hg; done) | simpa [cI,cReln,cS,V.ids,idsVL,idsL] using hg)
 simp at hn0
 simp [cI,cReln,cS,dSl]
 refine ⟨⟨a.name,y0⟩,?_⟩
 refine ⟨by simp [cI,cReln,cS,cStr,cTab,dSl],by simp only [plTab,hy0],⟨ha.1,hk0⟩,?_⟩
 have G0 : Good (cStr a.name) (whStr a.name) B:=good_Str B a.name
 have G1 : Good (cReln y0) (whReln y0) B:=hg0.le (by omega)
 have U0 : ∀ g ∈ idsL (cStr a.name),g < B:=by simp [cStr,idsL,D.ids]
 have K1 : Good (cStr a.name ++ cReln y0) ((whStr a.name) /\ whReln y0) B:=Good.app G0 G1 (fun g h h'=>by have h1:=U0 g h; have h2:=hg0.lo g h'; omega)
 have U1 : ∀ g ∈ idsL (cStr a.name ++ cReln y0),g < hs0:=fun g h=>by rw [idsL_app] at h; rcases List.mem_append.1 h with h | h; (have h1:=U0 g h; omega); exact hl0 g h
 exact ⟨K1.nd,K1.lo,by have h:=K1.wh; exact ⟨h.1,h.2⟩⟩
theorem w_laws_toTableS (a : Sl (Tab)) (ha : okS okTab a) (hb : swS swTab a <= 1048576) :
  VC Tryz.prog 49 [.d (dSl cTab a)] (fun n r=>∃ y : Sl (Tab),r = .d (dSl cTab y) /\ plS plTab y = plS plTab a /\ okS okTab y /\ Good (cS cTab y) (whS whTab y) n):=by
 refine VC.of E s49 (by kernel_rfl) Tryz.func49 (by rfl) (by kernel_rfl) (by simp [Tryz.f49]) (by simp [Tryz.f49]) s49_ok fun B=>?_
 have hwt : swS swTab a = a.xs.length + sumW swTab a.xs:=rfl
 simp [Tryz.f49,dSl]
 refine ⟨⟨by omega,by simp only [maxLen]; omega⟩,?_⟩
 refine loop_rule2 (X:=Nat × List (Tab)) (fun p h=>p.1 <= a.xs.length /\ p.2.length = p.1 /\ p.2.map plTab = (a.xs.map plTab).take p.1 /\ (∀ y ∈ p.2,okTab y) /\ GoodL cTab whTab B h p.2) (fun p=>[(0,.d (.sl a.id a.T (a.xs.map cTab))),(3,.own 7 0 a.xs.length),(4,.d (.int .i64 p.1))]) (fun p=>[(7,some (.row 124 3 (p.2.map cTab ++ List.replicate (a.xs.length - p.1) [.str [],.int .i64 0,.sl none none []])))]) (fun p=>a.xs.length - p.1) (0,[]) ⟨by simp,rfl,by simp,by simp,GoodL.nil⟩ (by simp) (by simp) ?_
 rintro ⟨i,ys⟩ hs t m ⟨hi,hyl,hpl,hok,hgd⟩ hh
 simp only at hi hyl hpl hok hgd
 by_cases hlt : i < a.xs.length
 ·have hwi:=wr1 (i:=i) (by omega)
  have hmem : a.xs[i] ∈ a.xs:=List.getElem_mem _
  have hsw:=sumW_mem swTab hmem
  simp [cI,cReln,cS,cStr,cTab,hlt]
  refine call_some (w_laws_toTable a.xs[i] (ha.2 _ hmem) (by omega)) rfl (by simp) fun n hs' r hn hn' hp hr=>?_
  obtain ⟨y,rfl,hy1,hy2,hy3⟩:=hp
  simp at hn
  have hr' : ∀ g ∈ idsL (cTab y),g < hs':=fun g hg=>hr g (by first | (simp [cI,cReln,cS,cStr,cTab,V.ids,idsVL,idsL] at hg; done) | simpa [cI,cReln,cS,cStr,cTab,V.ids,idsVL,idsL] using hg)
  have hyi : ys.length = i:=hyl
  simp [cI,cReln,cS,cStr,cTab,hlt,hwi,hyi,show i + (a.xs.length - i) = a.xs.length by omega,dSl]
  refine back2 (i + 1,ys ++ [y]) ⟨by omega,by simp [hyi],?_,?_,?_⟩ (by simp <;> omega) rfl (by simp <;> omega) (by simp) ?_
  ·simp only [List.map_append,hpl,List.map_cons,List.map_nil,hy1]
   rw [List.take_succ_eq_append_getElem (by simpa using hlt)]; simp
  ·intro y' hy'
   rcases List.mem_append.1 hy' with h | h
   ·exact hok y' h
   ·rw [List.mem_singleton.1 h]; exact hy2
  ·exact GoodL.snoc hgd (by omega) hn' hy3 hr'
  ·simp [rep_set0 hlt,cI,cReln,cS,cStr,cTab,dSl]
 ·have hn : i = a.xs.length:=by omega
  subst hn
  simp
  intro γ hs' h1 hg
  obtain ⟨q1,q2⟩:=gam_at hg (k:=7) (T:=124) (sz:=3) (es:=ys.map cTab) (by simp [upd])
  have q3:=gam_row hg (k:=7) (T:=124) (sz:=3) (es:=ys.map cTab) (by simp [upd])
  clear hg
  refine ⟨_,⟨by omega,rfl⟩,⟨γ 7,some (124,3),ys⟩,?_,by rw [List.take_of_length_le (by simp)] at hpl; exact hpl,⟨by simp only [maxLen]; show ys.length <= _; omega,hok⟩,good_row (fun g hg=>(q1 g hg).1) (by simpa using q2) q3 ⟨hgd.nd,hgd.lo⟩ hgd.wh⟩
  rw [if_pos hyl.symm,List.take_of_length_le (by simp [hyl])]
theorem w_laws_toDatabase (a : Db) (ha : okDb a) (hb : swDb a <= 1048576) :
  VC Tryz.prog 10 [.agg ((cDb a).map V.d)] (fun n r=>∃ y : Db,r = .agg ((cDb y).map V.d) /\ plDb y = plDb a /\ okDb y /\ Good (cDb y) (whDb y) n):=by
 refine VC.of E s10 (by kernel_rfl) Tryz.func10 (by rfl) (by kernel_rfl) (by simp [Tryz.f10]) (by simp [Tryz.f10]) s10_ok fun B=>?_
 have hwt : swDb a = swS swTab a.tabs:=rfl
 simp [Tryz.f10,cDb,cS,dSl]
 refine call_some (w_laws_toTableS a.tabs ha (by have:=hwt; omega)) rfl (by simp) fun n0 hs0 r0 hn0 hm0 hp0 hr0=>?_
 obtain ⟨y0,rfl,hy0,hk0,hg0⟩:=hp0
 have hl0 : ∀ g ∈ idsL (cS cTab y0),g < hs0:=fun g hg=>hr0 g (by first | (simp [cS,V.ids,idsVL,idsL] at hg; done) | simpa [cS,V.ids,idsVL,idsL] using hg)
 simp at hn0
 simp [cS,dSl]
 refine ⟨⟨y0⟩,?_⟩
 refine ⟨by simp [cDb,cS,dSl],by simp only [plDb,hy0],hk0,?_⟩
 have G0 : Good (cS cTab y0) (whS whTab y0) B:=hg0.le (by omega)
 have U0 : ∀ g ∈ idsL (cS cTab y0),g < hs0:=hl0
 exact G0
theorem w_laws_toAtom (a : Atom) (ha : okAtom a) (hb : swAtom a <= 1048576) :
  VC Tryz.prog 93 [.agg ((cAtom a).map V.d)] (fun n r=>∃ y : Atom,r = .agg ((cAtom y).map V.d) /\ plAtom y = plAtom a /\ okAtom y /\ Good (cAtom y) (whAtom y) n):=by
 refine VC.of E s93 (by kernel_rfl) Tryz.func93 (by rfl) (by kernel_rfl) (by simp [Tryz.f93]) (by simp [Tryz.f93]) s93_ok fun B=>?_
 have hwt : swAtom a = swStr a.rel + swS swI a.vars:=rfl
 simp [Tryz.f93,cAtom,cS,cStr,dSl]
 refine call_some (w_laws_toIntS a.vars ha.2 (by have:=hwt; simp only [swS] at this; omega)) rfl (by simp) fun n0 hs0 r0 hn0 hm0 hp0 hr0=>?_
 obtain ⟨y0,rfl,hy0,hk0,hg0⟩:=hp0
 have hl0 : ∀ g ∈ idsL (cS cI y0),g < hs0:=fun g hg=>hr0 g (by first | (simp [cS,V.ids,idsVL,idsL] at hg; done) | simpa [cS,V.ids,idsVL,idsL] using hg)
 simp at hn0
 simp [cS,dSl]
 refine ⟨⟨a.rel,y0⟩,?_⟩
 refine ⟨by simp [cAtom,cS,cStr,dSl],by simp only [plAtom,hy0],⟨ha.1,hk0⟩,?_⟩
 have G0 : Good (cStr a.rel) (whStr a.rel) B:=good_Str B a.rel
 have G1 : Good (cS cI y0) (whS whI y0) B:=hg0.le (by omega)
 have U0 : ∀ g ∈ idsL (cStr a.rel),g < B:=by simp [cStr,idsL,D.ids]
 have K1 : Good (cStr a.rel ++ cS cI y0) ((whStr a.rel) /\ whS whI y0) B:=Good.app G0 G1 (fun g h h'=>by have h1:=U0 g h; have h2:=hg0.lo g h'; omega)
 have U1 : ∀ g ∈ idsL (cStr a.rel ++ cS cI y0),g < hs0:=fun g h=>by rw [idsL_app] at h; rcases List.mem_append.1 h with h | h; (have h1:=U0 g h; omega); exact hl0 g h
 exact ⟨K1.nd,K1.lo,by have h:=K1.wh; exact ⟨h.1,h.2⟩⟩
theorem w_laws_toAtomS (a : Sl (Atom)) (ha : okS okAtom a) (hb : swS swAtom a <= 1048576) :
  VC Tryz.prog 50 [.d (dSl cAtom a)] (fun n r=>∃ y : Sl (Atom),r = .d (dSl cAtom y) /\ plS plAtom y = plS plAtom a /\ okS okAtom y /\ Good (cS cAtom y) (whS whAtom y) n):=by
 refine VC.of E s50 (by kernel_rfl) Tryz.func50 (by rfl) (by kernel_rfl) (by simp [Tryz.f50]) (by simp [Tryz.f50]) s50_ok fun B=>?_
 have hwt : swS swAtom a = a.xs.length + sumW swAtom a.xs:=rfl
 simp [Tryz.f50,dSl]
 refine ⟨⟨by omega,by simp only [maxLen]; omega⟩,?_⟩
 refine loop_rule2 (X:=Nat × List (Atom)) (fun p h=>p.1 <= a.xs.length /\ p.2.length = p.1 /\ p.2.map plAtom = (a.xs.map plAtom).take p.1 /\ (∀ y ∈ p.2,okAtom y) /\ GoodL cAtom whAtom B h p.2) (fun p=>[(0,.d (.sl a.id a.T (a.xs.map cAtom))),(3,.own 7 0 a.xs.length),(4,.d (.int .i64 p.1))]) (fun p=>[(7,some (.row 81 2 (p.2.map cAtom ++ List.replicate (a.xs.length - p.1) [.str [],.sl none none []])))]) (fun p=>a.xs.length - p.1) (0,[]) ⟨by simp,rfl,by simp,by simp,GoodL.nil⟩ (by simp) (by simp) ?_
 rintro ⟨i,ys⟩ hs t m ⟨hi,hyl,hpl,hok,hgd⟩ hh
 simp only at hi hyl hpl hok hgd
 by_cases hlt : i < a.xs.length
 ·have hwi:=wr1 (i:=i) (by omega)
  have hmem : a.xs[i] ∈ a.xs:=List.getElem_mem _
  have hsw:=sumW_mem swAtom hmem
  simp [cAtom,cS,cStr,hlt]
  refine call_some (w_laws_toAtom a.xs[i] (ha.2 _ hmem) (by omega)) rfl (by simp) fun n hs' r hn hn' hp hr=>?_
  obtain ⟨y,rfl,hy1,hy2,hy3⟩:=hp
  simp at hn
  have hr' : ∀ g ∈ idsL (cAtom y),g < hs':=fun g hg=>hr g (by first | (simp [cAtom,cS,cStr,V.ids,idsVL,idsL] at hg; done) | simpa [cAtom,cS,cStr,V.ids,idsVL,idsL] using hg)
  have hyi : ys.length = i:=hyl
  simp [cAtom,cS,cStr,hlt,hwi,hyi,show i + (a.xs.length - i) = a.xs.length by omega,dSl]
  refine back2 (i + 1,ys ++ [y]) ⟨by omega,by simp [hyi],?_,?_,?_⟩ (by simp <;> omega) rfl (by simp <;> omega) (by simp) ?_
  ·simp only [List.map_append,hpl,List.map_cons,List.map_nil,hy1]
   rw [List.take_succ_eq_append_getElem (by simpa using hlt)]; simp
  ·intro y' hy'
   rcases List.mem_append.1 hy' with h | h
   ·exact hok y' h
   ·rw [List.mem_singleton.1 h]; exact hy2
  ·exact GoodL.snoc hgd (by omega) hn' hy3 hr'
  ·simp [rep_set0 hlt,cAtom,cS,cStr,dSl]
 ·have hn : i = a.xs.length:=by omega
  subst hn
  simp
  intro γ hs' h1 hg
  obtain ⟨q1,q2⟩:=gam_at hg (k:=7) (T:=81) (sz:=2) (es:=ys.map cAtom) (by simp [upd])
  have q3:=gam_row hg (k:=7) (T:=81) (sz:=2) (es:=ys.map cAtom) (by simp [upd])
  clear hg
  refine ⟨_,⟨by omega,rfl⟩,⟨γ 7,some (81,2),ys⟩,?_,by rw [List.take_of_length_le (by simp)] at hpl; exact hpl,⟨by simp only [maxLen]; show ys.length <= _; omega,hok⟩,good_row (fun g hg=>(q1 g hg).1) (by simpa using q2) q3 ⟨hgd.nd,hgd.lo⟩ hgd.wh⟩
  rw [if_pos hyl.symm,List.take_of_length_le (by simp [hyl])]
theorem w_laws_toQuery (a : Query) (ha : okQuery a) (hb : swQuery a <= 1048576) :
  VC Tryz.prog 11 [.agg ((cQuery a).map V.d)] (fun n r=>∃ y : Query,r = .agg ((cQuery y).map V.d) /\ plQuery y = plQuery a /\ okQuery y /\ Good (cQuery y) (whQuery y) n):=by
 refine VC.of E s11 (by kernel_rfl) Tryz.func11 (by rfl) (by kernel_rfl) (by simp [Tryz.f11]) (by simp [Tryz.f11]) s11_ok fun B=>?_
 have hwt : swQuery a = swS swAtom a.atoms + swS swI a.out:=rfl
 simp [Tryz.f11,cI,cQuery,cS,dSl]
 refine call_some (w_laws_toAtomS a.atoms ha.2.1 (by have:=hwt; omega)) rfl (by simp) fun n0 hs0 r0 hn0 hm0 hp0 hr0=>?_
 obtain ⟨y0,rfl,hy0,hk0,hg0⟩:=hp0
 have hl0 : ∀ g ∈ idsL (cS cAtom y0),g < hs0:=fun g hg=>hr0 g (by first | (simp [cS,V.ids,idsVL,idsL] at hg; done) | simpa [cS,V.ids,idsVL,idsL] using hg)
 simp at hn0
 simp [cS,dSl]
 refine call_some (w_laws_toIntS a.out ha.2.2 (by have:=hwt; simp only [swS] at this; omega)) rfl (by simp) fun n1 hs1 r1 hn1 hm1 hp1 hr1=>?_
 obtain ⟨y1,rfl,hy1,hk1,hg1⟩:=hp1
 have hl1 : ∀ g ∈ idsL (cS cI y1),g < hs1:=fun g hg=>hr1 g (by first | (simp [cS,V.ids,idsVL,idsL] at hg; done) | simpa [cS,V.ids,idsVL,idsL] using hg)
 simp at hn1
 simp [cS,dSl]
 refine ⟨⟨a.n,y0,y1⟩,?_⟩
 refine ⟨by simp [cI,cQuery,cS,dSl],by simp only [plQuery,hy0,hy1],⟨ha.1,hk0,hk1⟩,?_⟩
 have G0 : Good (cI a.n) (whI a.n) B:=good_I B a.n
 have G1 : Good (cS cAtom y0) (whS whAtom y0) B:=hg0.le (by omega)
 have G2 : Good (cS cI y1) (whS whI y1) B:=hg1.le (by omega)
 have U0 : ∀ g ∈ idsL (cI a.n),g < B:=by simp [cI,idsL,D.ids]
 have K1 : Good (cI a.n ++ cS cAtom y0) ((whI a.n) /\ whS whAtom y0) B:=Good.app G0 G1 (fun g h h'=>by have h1:=U0 g h; have h2:=hg0.lo g h'; omega)
 have U1 : ∀ g ∈ idsL (cI a.n ++ cS cAtom y0),g < hs0:=fun g h=>by rw [idsL_app] at h; rcases List.mem_append.1 h with h | h; (have h1:=U0 g h; omega); exact hl0 g h
 have K2 : Good (cI a.n ++ cS cAtom y0 ++ cS cI y1) (((whI a.n) /\ whS whAtom y0) /\ whS whI y1) B:=Good.app K1 G2 (fun g h h'=>by have h1:=U1 g h; have h2:=hg1.lo g h'; omega)
 have U2 : ∀ g ∈ idsL (cI a.n ++ cS cAtom y0 ++ cS cI y1),g < hs1:=fun g h=>by rw [idsL_app] at h; rcases List.mem_append.1 h with h | h; (have h1:=U1 g h; omega); exact hl1 g h
 exact ⟨K2.nd,K2.lo,by have h:=K2.wh; exact ⟨h.1.1,h.1.2,h.2⟩⟩
theorem w_laws_toDecomposition (a : Dec) (ha : okDec a) (hb : swDec a <= 1048576) :
  VC Tryz.prog 25 [.agg ((cDec a).map V.d)] (fun n r=>∃ y : Dec,r = .agg ((cDec y).map V.d) /\ plDec y = plDec a /\ okDec y /\ Good (cDec y) (whDec y) n):=by
 refine VC.of E s25 (by kernel_rfl) Tryz.func25 (by rfl) (by kernel_rfl) (by simp [Tryz.f25]) (by simp [Tryz.f25]) s25_ok fun B=>?_
 have hwt : swDec a = swS (swS swI) a.bags + swS swI a.par:=rfl
 simp [Tryz.f25,cDec,cS,dSl]
 refine call_some (w_laws_toIntSS a.bags ha.1 (by have:=hwt; omega)) rfl (by simp) fun n0 hs0 r0 hn0 hm0 hp0 hr0=>?_
 obtain ⟨y0,rfl,hy0,hk0,hg0⟩:=hp0
 have hl0 : ∀ g ∈ idsL (cS (cS cI) y0),g < hs0:=fun g hg=>hr0 g (by first | (simp [cS,V.ids,idsVL,idsL] at hg; done) | simpa [cS,V.ids,idsVL,idsL] using hg)
 simp at hn0
 simp [cS,dSl]
 refine call_some (w_laws_toIntS a.par ha.2 (by have:=hwt; simp only [swS] at this; omega)) rfl (by simp) fun n1 hs1 r1 hn1 hm1 hp1 hr1=>?_
 obtain ⟨y1,rfl,hy1,hk1,hg1⟩:=hp1
 have hl1 : ∀ g ∈ idsL (cS cI y1),g < hs1:=fun g hg=>hr1 g (by first | (simp [cS,V.ids,idsVL,idsL] at hg; done) | simpa [cS,V.ids,idsVL,idsL] using hg)
 simp at hn1
 simp [cS,dSl]
 refine ⟨⟨y0,y1⟩,?_⟩
 refine ⟨by simp [cDec,cS,dSl],by simp only [plDec,hy0,hy1],⟨hk0,hk1⟩,?_⟩
 have G0 : Good (cS (cS cI) y0) (whS (whS whI) y0) B:=hg0.le (by omega)
 have G1 : Good (cS cI y1) (whS whI y1) B:=hg1.le (by omega)
 have U0 : ∀ g ∈ idsL (cS (cS cI) y0),g < hs0:=hl0
 have K1 : Good (cS (cS cI) y0 ++ cS cI y1) ((whS (whS whI) y0) /\ whS whI y1) B:=Good.app G0 G1 (fun g h h'=>by have h1:=U0 g h; have h2:=hg1.lo g h'; omega)
 have U1 : ∀ g ∈ idsL (cS (cS cI) y0 ++ cS cI y1),g < hs1:=fun g h=>by rw [idsL_app] at h; rcases List.mem_append.1 h with h | h; (have h1:=U0 g h; omega); exact hl1 g h
 exact ⟨K1.nd,K1.lo,by have h:=K1.wh; exact ⟨h.1,h.2⟩⟩
theorem w_laws_markIntS (a : Ints) (k : Int) (h0 : 1 <= k) (h1 : k + wtS wtI a <= 4611686018427387904) (hw : whS whI a) (hl0 : okS okI a) (hnd : (dInts a).ids.Nodup) :
  VX Tryz.prog 20 (dInts a).ids [.d (dInts a),.d (.int .i64 k)] none (fun _ r _ ws=>r = .d (.int .i64 (k + wtS wtI a)) /\ ws = [dInts (mkS mkI wtI a k)]):=by
 refine VX.of E s20 (by kernel_rfl) Tryz.func20 (by rfl) (by kernel_rfl) (by simp [Tryz.f20]) (by simp [Tryz.f20]) s20_ok (fun g hg=>.inl (by simpa using hg)) (fun cs h=>nomatch h) fun B hB=>?_
 have hl:=hl0.1
 obtain ⟨id,T,xs⟩:=a
 have hwt : wtS wtI (⟨id,T,xs⟩ : Ints) = xs.length:=sumW_one (fun _=>rfl) xs
 rw [hwt] at h1 ⊢
 simp only [maxLen] at hl
 simp [Tryz.f20]
 refine loop_rule (X:=Nat) (fun i=>i <= xs.length) (fun i=>[(0,.d (dInts ⟨id,T,mkAt mkI wtI xs k i⟩)),(1,.d (.int .i64 (k + i))),(5,.d (.int .i64 i))]) (fun _=>[]) (fun i=>xs.length - i) 0 (by simp) (by simp) (by simp) ?_
 intro i hs t m hi hh
 by_cases hlt : i < xs.length
 ·obtain ⟨g,hg,T',hT⟩:=hw.1.id hlt
  simp only at hg hT
  subst hg hT
  have hk:=wr1 (i:=i) (by omega)
  have hk2 : IntKind.i64.wrap (k + i + 1) = k + i + 1:=wrap64_of (by omega) (by omega)
  simp [dInts,dSl,hlt,hk,hk2,cI]
  refine back (i + 1) (by omega) (by omega) rfl (by simp) ?_ (by simp)
  have e1 : (List.map cI (mkAt mkI wtI xs k i)).set i [D.int IntKind.i64 (k + ↑i)] = List.map cI (mkAt mkI wtI xs k (i + 1)):=by
   rw [mkAt_succ hlt,<- set_map,show sumW wtI (List.take i xs) = _ from sumW_one (fun _=>rfl) _]
   simp [cI,mkI,Nat.min_eq_left hi]
  have e2:=re_oneSet (g:=g) (T:=T') (es:=List.map cI (mkAt mkI wtI xs k i)) (i:=i) (e':=[D.int IntKind.i64 (k + ↑i)]) (fun e he=>by
   rw [List.getElem?_map] at he
   simp [hlt] at he
   rw [<- he]; rfl)
  rw [e1] at e2
  simp [e1,e2]
  omega
 ·have hn : i = xs.length:=by omega
  subst hn
  simp [dInts,dSl,vendX]
  refine ⟨[0],fun γ hs' h1 h2=>?_⟩
  simp [mkS,mkAt_all]
theorem w_laws_markIntSS (a : Sl Ints) (k : Int) (h0 : 1 <= k) (h1 : k + wtS (wtS wtI) a <= 4611686018427387904) (hw : whS (whS whI) a) (hl : okS (okS okI) a) (hnd : (dRows a).ids.Nodup) :
  VX Tryz.prog 65 (dRows a).ids [.d (dRows a),.d (.int .i64 k)] none (fun _ r _ ws=>r = .d (.int .i64 (k + wtS (wtS wtI) a)) /\ ws = [dRows (mkS (mkS mkI wtI) (wtS wtI) a k)]):=by
 refine VX.of E s65 (by kernel_rfl) Tryz.func65 (by rfl) (by kernel_rfl) (by simp [Tryz.f65]) (by simp [Tryz.f65]) s65_ok (fun g hg=>.inl (by simpa using hg)) (fun cs h=>nomatch h) fun B hB=>?_
 obtain ⟨id,T,xs⟩:=a
 have hl1:=hl.1
 simp only [maxLen] at hl1
 have hwt : wtS (wtS wtI) (⟨id,T,xs⟩ : Sl Ints) = sumW (wtS wtI) xs:=rfl
 rw [hwt] at h1 ⊢
 simp [Tryz.f65]
 refine loop_rule (X:=Nat) (fun i=>i <= xs.length) (fun i=>[(0,.d (dSl (cS cI) ⟨id,T,mkAt (mkS mkI wtI) (wtS wtI) xs k i⟩)),(1,.d (.int .i64 (k + sumW (wtS wtI) (xs.take i)))),(5,.d (.int .i64 i))]) (fun _=>[]) (fun i=>xs.length - i) 0 (by simp) (by simp) (by simp) ?_
 intro i hs t m hi hh
 by_cases hlt : i < xs.length
 ·have hk:=wr1 (i:=i) (by omega)
  have e1:=sumW_succ (wtS wtI) hlt
  have e2:=sumW_le (wtS wtI) xs (i + 1)
  have hmem : xs[i] ∈ xs:=List.getElem_mem _
  simp [dSl,hlt,cS]
  refine call_x (E20) (by simp [dSl]) (by simp) (by simp) (fun g hg=>.inr ?_) (w_laws_markIntS xs[i] (k + sumW (wtS wtI) (xs.take i)) (by omega) (by omega) (hw.2 _ hmem) (hl.2 _ hmem) (by have:=elem_nd (sl_nd hnd).1 hlt; rwa [idsL_cS] at this)) fun n hs' r cs' ws hn hn' hp hr hws=>?_
  ·exact elem_ids (s:=⟨id,T,xs⟩) (c:=cS cI) (i:=i) hlt (by simpa [cS,idsL] using hg)
  obtain ⟨rfl,rfl⟩:=hp
  simp at hn
  have hnd' : (dSl (cS cI) (⟨id,T,mkAt (mkS mkI wtI) (wtS wtI) xs k i⟩ : Sl Ints)).ids.Nodup:=by
   have : (dSl (cS cI) (⟨id,T,mkAt (mkS mkI wtI) (wtS wtI) xs k i⟩ : Sl Ints)).ids = (dRows ⟨id,T,xs⟩).ids:=by
    simp only [dSl,D.ids]; rw [ids_mkAt (marksS marksI).ids]
   rw [this]; exact hnd
  have e3:=re_elem (c:=cS cI) (s:=⟨id,T,mkAt (mkS mkI wtI) (wtS wtI) xs k i⟩) (i:=i) (a':=mkS mkI wtI xs[i] (k + sumW (wtS wtI) (xs.take i))) (W:=(dInts xs[i]).ids) (ws:=[dInts (mkS mkI wtI xs[i] (k + sumW (wtS wtI) (xs.take i)))]) hnd' (by simpa using hlt)
   (fun g hg=>by simpa [cS,idsL] using hg) (by simp only [mkAt_get]; exact reL_one (re_root (by simp [cI]) (hw.2 _ hmem).1 (by simp) (fun g hg=>mem_slids hg) []))
  simp [dSl,cS,hk] at e3 ⊢
  refine back (i + 1) (by omega) (by omega) rfl (by simp <;> omega) ?_ (by simp)
  simp [e3,mkAt_succ hlt,e1]
  exact ⟨rfl,by omega⟩
 ·have hn : i = xs.length:=by omega
  subst hn
  simp [dSl,vendX]
  refine ⟨[0],fun γ hs' h1 h2=>?_⟩
  simp [mkS,mkAt_all]
theorem simT_Reln {a : Reln} (hw : whReln a) (k : Int) : Sim (cReln a) (cReln (mkTReln a k)):=(Sim.leaf (by simp [D.ids]) Sim.nil).app (sim_mk (marksS marksI) hw.2 (k))
theorem w_laws_markRelation (a : Reln) (k : Int) (h0 : 1 <= k) (h1 : k + wtTReln a <= 4611686018427387904) (hw : whReln a) (hl : okReln a) (hnd : (idsL (cReln a)).Nodup) :
  VX Tryz.prog 38 (idsL (cReln a)) [.agg ((cReln a).map V.d),.d (.int .i64 k)] none (fun _ r _ ws=>r = .d (.int .i64 (k + wtTReln a)) /\ ws = cReln (mkTReln a k)):=by
 refine VX.of E s38 (by kernel_rfl) Tryz.func38 (by rfl) (by kernel_rfl) (by simp [Tryz.f38]) (by simp [Tryz.f38]) s38_ok ?_ ?_ fun B hB=>?_
 ·exact fun g hg=>.inl (by simpa [idsVL,V.ids,idsVL_map_d] using hg)
 ·exact fun cs h=>nomatch h
 have hwt : wtTReln a = wtS (wtS wtI) a.rows:=rfl
 have hnd0:=hnd
 simp only [cReln,idsL_app] at hnd0
 have nd0 : (idsL (cI a.ar)).Nodup:=nd_left (hnd0)
 have nd1 : (idsL (cS (cS cI) a.rows)).Nodup:=nd_right (hnd0)
 have dj0_1 : ∀ g ∈ idsL (cI a.ar),g ∉ idsL (cS (cS cI) a.rows):=fun g hg=>nd_disj (hnd0) g (hg)
 simp [Tryz.f38,cI,cReln,cS]
 refine call_x (E65) (by simp) (by simp) (by simp) (fun q hq=>.inr ?_) (w_laws_markIntSS a.rows (k) (by omega) (by omega) (hw.2) (hl.2) (by rw [<- idsL_cS]; exact nd1)) fun n0 hs0 r cs' ws hn0 hm0 hp hr hws=>?_
 ·simp only [idsL_app,idsL,List.append_nil,List.nil_append,List.append_assoc,List.mem_append,cI,cReln,cS] at hq ⊢
  first | (simp [hq]; done) | (simp [D.ids] at hq ⊢; grind)
 obtain ⟨rfl,rfl⟩:=hp
 simp at hn0
 have hre0 : reL (phi ((dSl (cS cI) a.rows).ids) [dSl (cS cI) (mkS (mkS (mkI) (wtI)) (wtS wtI) a.rows (k))]) (cS (cS cI) a.rows) = some (cS (cS cI) (mkS (mkS (mkI) (wtI)) (wtS wtI) a.rows (k))):=by
  have:=re_sim (sim_mk (marksS marksI) hw.2 (k)) ((marksS (marksS marksI)).ids _ _) nd1
  rw [idsL_cS] at this
  exact this
 replace hre0:=reVL_map hre0
 simp only [cI,cReln,cS,List.cons_append,List.nil_append,List.map_cons,List.map_nil,reVL_cons,reVL_nil,List.cons.injEq,and_true,reV_int,reV_str,true_and] at hre0
 simp [hre0,cI,cReln,cS]
 simp [vendX]
 refine ⟨[0],fun γ hs' h1 h2=>?_⟩
 simp [isD,dD,hwt,mkTReln,cI,cReln,cS,reD]
 try omega
theorem w_laws_markTableS (a : Sl (Tab)) (k : Int) (h0 : 1 <= k) (h1 : k + wtS wtTab a <= 4611686018427387904) (hw : whS whTab a) (hl : okS okTab a) (hnd : (dSl cTab a).ids.Nodup) :
  VX Tryz.prog 60 (dSl cTab a).ids [.d (dSl cTab a),.d (.int .i64 k)] none (fun _ r _ ws=>r = .d (.int .i64 (k + wtS wtTab a)) /\ ws = [dSl cTab (mkS (mkTab) (wtTab) a k)]):=by
 refine VX.of E s60 (by kernel_rfl) Tryz.func60 (by rfl) (by kernel_rfl) (by simp [Tryz.f60]) (by simp [Tryz.f60]) s60_ok ?_ ?_ fun B hB=>?_
 ·exact fun g hg=>.inl (by simpa using hg)
 ·exact fun cs h=>nomatch h
 obtain ⟨id,T,xs⟩:=a
 have hl1:=hl.1
 simp only [maxLen] at hl1
 have hwt : wtS wtTab (⟨id,T,xs⟩ : Sl (Tab)) = sumW wtTab xs:=rfl
 rw [hwt] at h1 ⊢
 simp [Tryz.f60]
 refine loop_rule (X:=Nat) (fun i=>i <= xs.length) (fun i=>[(0,.d (dSl cTab ⟨id,T,mkAt mkTab wtTab xs k i⟩)),(1,.d (.int .i64 (k + sumW wtTab (xs.take i)))),(5,.d (.int .i64 i))]) (fun _=>[]) (fun i=>xs.length - i) 0 (by simp) (by simp) (by simp) ?_
 intro i hs t m hi hh
 by_cases hlt : i < xs.length
 ·have hwi:=wr1 (i:=i) (by omega)
  have e1:=sumW_succ wtTab hlt
  have e2:=sumW_le wtTab xs (i + 1)
  have hmem : xs[i] ∈ xs:=List.getElem_mem _
  have hwx : wtTab xs[i] = 1 + 1 + wtS (wtS wtI) xs[i].rel.rows:=by simp only [wtI,wtReln,wtStr,wtTab] <;> omega
  obtain ⟨g,hg,T',hT⟩:=hw.1.id hlt
  simp only at hg hT
  subst hg hT
  have hnd2:=sl_nd hnd
  have hnn : g ∉ idsLL ((mkAt mkTab wtTab xs k i).map cTab):=by rw [ids_mkAt marksTab.ids]; exact hnd2.2 g rfl
  have hni : g ∉ idsL (cTab xs[i]):=fun hin=>hnd2.2 g rfl (idsLL_map_mem.2 ⟨_,hmem,hin⟩)
  have hne:=elem_nd hnd2.1 hlt
  have hni0:=hni
  have hne0:=hne
  have hap : ∀ W : List Nat,(∀ q ∈ W,q ∈ idsL (cTab xs[i])) -> ∀ ws (j : Nat) (e : List D),j ≠ i -> ((mkAt mkTab wtTab xs k i).map cTab)[j]? = some e -> ∀ q ∈ idsL e,phi W ws q = none:=by
   intro W hW ws
   exact nd_mapD (by rw [ids_mkAt marksTab.ids]; exact hnd2.1) (i:=i) (by simpa using hlt) (by simpa using hW) ws
  simp only [cI,cReln,cS,cStr,cTab,idsL_app,idsL,D.ids,dSl,List.append_nil,List.nil_append,List.cons_append,List.mem_append,not_or,List.append_assoc] at hni hne
  simp [dSl,hlt]
  have hk0 : IntKind.i64.wrap (k + sumW wtTab (xs.take i) + 1) = k + sumW wtTab (xs.take i) + 1:=wrap64_of (by omega) (by omega)
  refine call_pure (w_laws_markText _ (by omega) (by omega)) rfl (by simp) rfl fun hs0 hh0=>?_
  simp at hh0
  simp [dSl,hlt,cI,cReln,cS,cStr,cTab,hnn,nin_set hnn,idsL,D.ids,hni,hk0,hwi,ids_mk (wt:=(wtS wtI)) (marksS marksI).ids]
  have hk1 : IntKind.i64.wrap (k + sumW wtTab (xs.take i) + 1 + 1) = k + sumW wtTab (xs.take i) + 1 + 1:=wrap64_of (by omega) (by omega)
  simp [dSl,hlt,cI,cReln,cS,cStr,cTab,hnn,nin_set hnn,idsL,D.ids,hni,hk1,hwi,ids_mk (wt:=(wtS wtI)) (marksS marksI).ids]
  have hx2 : dSl (cS cI) xs[i].rel.rows ∈ cTab xs[i]:=by simp [cI,cReln,cS,cStr,cTab]
  refine call_x (E65) (by simp [dSl]) (by simp) (by simp) (fun q hq=>.inr ?_) (w_laws_markIntSS xs[i].rel.rows (k + sumW wtTab (xs.take i) + 1 + 1) (by omega) (by omega) ((hw.2 _ hmem).2.2) ((hl.2 _ hmem).2.2) (nd_mem hne0 hx2)) fun n2 hs2 r cs' ws hn2 hm2 hp hr hws=>?_
  ·exact elem_ids (s:=⟨some g,some T',xs⟩) (c:=cTab) (i:=i) hlt (mem_idsL hx2 hq)
  obtain ⟨rfl,rfl⟩:=hp
  simp at hn2
  have hre2 : reL (phi (dSl (cS cI) xs[i].rel.rows).ids [dSl (cS cI) (mkS (mkS (mkI) (wtI)) (wtS wtI) xs[i].rel.rows (k + sumW wtTab (xs.take i) + 1 + 1))]) [D.str (mtext (k + sumW wtTab (xs.take i))),D.int .i64 (k + sumW wtTab (xs.take i) + 1),dSl (cS cI) xs[i].rel.rows] = some [D.str (mtext (k + sumW wtTab (xs.take i))),D.int .i64 (k + sumW wtTab (xs.take i) + 1),dSl (cS cI) (mkS (mkS (mkI) (wtI)) (wtS wtI) xs[i].rel.rows (k + sumW wtTab (xs.take i) + 1 + 1))]:=reL_cons_iff.2 ⟨rfl,reL_cons_iff.2 ⟨rfl,reL_cons_iff.2 ⟨re_root (marksS marksI).len ((hw.2 _ hmem).2.2).1 (by simp) (fun g hg=>mem_slids hg) [],rfl⟩⟩⟩
  have hse2:=re_elemD (g:=g) (T:=some T') (es:=(mkAt mkTab wtTab xs k i).map cTab) (phi_out (W:=(dSl (cS cI) xs[i].rel.rows).ids) (ws:=[dSl (cS cI) (mkS (mkS (mkI) (wtI)) (wtS wtI) xs[i].rel.rows (k + sumW wtTab (xs.take i) + 1 + 1))]) (g:=g) (fun h=>hni0 (mem_idsL hx2 h))) hre2 (hap _ (fun q hq=>mem_idsL hx2 hq) _)
  simp [dSl,cI,cReln,cS,cStr,cTab,mkS] at hse2 ⊢
  simp [hse2,hlt,hnn,nin_set hnn,idsL,D.ids,hni,hwi,mkS,ids_mk (wt:=(wtS wtI)) (marksS marksI).ids]
  refine back (i + 1) (by omega) (by omega) rfl (by simp <;> omega) ?_ (by simp)
  simp [mkAt_succ hlt,e1,cI,cReln,cS,cStr,cTab,dSl]
  first
  | exact ⟨rfl,by omega⟩
  | (refine ⟨?_,by omega⟩; simp [mkI,mkReln,mkStr,mkTab,wtI,wtReln,wtStr,wtTab,mkS,Int.add_assoc,show ∀ x : Int,1 + (1 + x) = 2 + x from fun x=>by omega])
 ·have hn : i = xs.length:=by omega
  subst hn
  simp [dSl,vendX]
  refine ⟨[0],fun γ hs' h1 h2=>?_⟩
  simp [mkS,mkAt_all]
theorem simT_Db {a : Db} (hw : whDb a) (k : Int) : Sim (cDb a) (cDb (mkTDb a k)):=sim_mk marksTab hw (k)
theorem w_laws_markDatabase (a : Db) (k : Int) (h0 : 1 <= k) (h1 : k + wtTDb a <= 4611686018427387904) (hw : whDb a) (hl : okDb a) (hnd : (idsL (cDb a)).Nodup) :
  VX Tryz.prog 18 (idsL (cDb a)) [.agg ((cDb a).map V.d),.d (.int .i64 k)] none (fun _ r _ ws=>r = .d (.int .i64 (k + wtTDb a)) /\ ws = cDb (mkTDb a k)):=by
 refine VX.of E s18 (by kernel_rfl) Tryz.func18 (by rfl) (by kernel_rfl) (by simp [Tryz.f18]) (by simp [Tryz.f18]) s18_ok ?_ ?_ fun B hB=>?_
 ·exact fun g hg=>.inl (by simpa [idsVL,V.ids,idsVL_map_d] using hg)
 ·exact fun cs h=>nomatch h
 have hwt : wtTDb a = wtS wtTab a.tabs:=rfl
 have hnd0:=hnd
 simp only [cDb,idsL_app] at hnd0
 have nd0 : (idsL (cS cTab a.tabs)).Nodup:=hnd0
 simp [Tryz.f18,cDb,cS]
 refine call_x (E60) (by simp) (by simp) (by simp) (fun q hq=>.inr ?_) (w_laws_markTableS a.tabs (k) (by omega) (by omega) (hw) (hl) (by rw [<- idsL_cS]; exact nd0)) fun n0 hs0 r cs' ws hn0 hm0 hp hr hws=>?_
 ·simp only [idsL_app,idsL,List.append_nil,List.nil_append,List.append_assoc,List.mem_append,cDb,cS] at hq ⊢
  first | (simp [hq]; done) | (simp [D.ids] at hq ⊢; grind)
 obtain ⟨rfl,rfl⟩:=hp
 simp at hn0
 have hre0 : reL (phi ((dSl cTab a.tabs).ids) [dSl cTab (mkS (mkTab) (wtTab) a.tabs (k))]) (cS cTab a.tabs) = some (cS cTab (mkS (mkTab) (wtTab) a.tabs (k))):=by
  have:=re_sim (sim_mk marksTab hw (k)) ((marksS marksTab).ids _ _) nd0
  rw [idsL_cS] at this
  exact this
 replace hre0:=reVL_map hre0
 simp only [cDb,cS,List.cons_append,List.nil_append,List.map_cons,List.map_nil,reVL_cons,reVL_nil,List.cons.injEq,and_true,reV_int,reV_str,true_and] at hre0
 simp [hre0,cDb,cS]
 simp [vendX]
 refine ⟨[0],fun γ hs' h1 h2=>?_⟩
 simp [isD,dD,hwt,mkTDb,cDb,cS,reD]
 try omega
theorem w_laws_markAtomS (a : Sl (Atom)) (k : Int) (h0 : 1 <= k) (h1 : k + wtS wtAtom a <= 4611686018427387904) (hw : whS whAtom a) (hl : okS okAtom a) (hnd : (dSl cAtom a).ids.Nodup) :
  VX Tryz.prog 61 (dSl cAtom a).ids [.d (dSl cAtom a),.d (.int .i64 k)] none (fun _ r _ ws=>r = .d (.int .i64 (k + wtS wtAtom a)) /\ ws = [dSl cAtom (mkS (mkAtom) (wtAtom) a k)]):=by
 refine VX.of E s61 (by kernel_rfl) Tryz.func61 (by rfl) (by kernel_rfl) (by simp [Tryz.f61]) (by simp [Tryz.f61]) s61_ok ?_ ?_ fun B hB=>?_
 ·exact fun g hg=>.inl (by simpa using hg)
 ·exact fun cs h=>nomatch h
 obtain ⟨id,T,xs⟩:=a
 have hl1:=hl.1
 simp only [maxLen] at hl1
 have hwt : wtS wtAtom (⟨id,T,xs⟩ : Sl (Atom)) = sumW wtAtom xs:=rfl
 rw [hwt] at h1 ⊢
 simp [Tryz.f61]
 refine loop_rule (X:=Nat) (fun i=>i <= xs.length) (fun i=>[(0,.d (dSl cAtom ⟨id,T,mkAt mkAtom wtAtom xs k i⟩)),(1,.d (.int .i64 (k + sumW wtAtom (xs.take i)))),(5,.d (.int .i64 i))]) (fun _=>[]) (fun i=>xs.length - i) 0 (by simp) (by simp) (by simp) ?_
 intro i hs t m hi hh
 by_cases hlt : i < xs.length
 ·have hwi:=wr1 (i:=i) (by omega)
  have e1:=sumW_succ wtAtom hlt
  have e2:=sumW_le wtAtom xs (i + 1)
  have hmem : xs[i] ∈ xs:=List.getElem_mem _
  have hwx : wtAtom xs[i] = 1 + wtS wtI xs[i].vars:=by simp only [wtAtom,wtStr] <;> omega
  obtain ⟨g,hg,T',hT⟩:=hw.1.id hlt
  simp only at hg hT
  subst hg hT
  have hnd2:=sl_nd hnd
  have hnn : g ∉ idsLL ((mkAt mkAtom wtAtom xs k i).map cAtom):=by rw [ids_mkAt marksAtom.ids]; exact hnd2.2 g rfl
  have hni : g ∉ idsL (cAtom xs[i]):=fun hin=>hnd2.2 g rfl (idsLL_map_mem.2 ⟨_,hmem,hin⟩)
  have hne:=elem_nd hnd2.1 hlt
  have hni0:=hni
  have hne0:=hne
  have hap : ∀ W : List Nat,(∀ q ∈ W,q ∈ idsL (cAtom xs[i])) -> ∀ ws (j : Nat) (e : List D),j ≠ i -> ((mkAt mkAtom wtAtom xs k i).map cAtom)[j]? = some e -> ∀ q ∈ idsL e,phi W ws q = none:=by
   intro W hW ws
   exact nd_mapD (by rw [ids_mkAt marksAtom.ids]; exact hnd2.1) (i:=i) (by simpa using hlt) (by simpa using hW) ws
  simp only [cAtom,cS,cStr,idsL_app,idsL,D.ids,dSl,List.append_nil,List.nil_append,List.cons_append,List.mem_append,not_or,List.append_assoc] at hni hne
  simp [dSl,hlt]
  have hk0 : IntKind.i64.wrap (k + sumW wtAtom (xs.take i) + 1) = k + sumW wtAtom (xs.take i) + 1:=wrap64_of (by omega) (by omega)
  refine call_pure (w_laws_markText _ (by omega) (by omega)) rfl (by simp) rfl fun hs0 hh0=>?_
  simp at hh0
  simp [dSl,hlt,cAtom,cS,cStr,hnn,nin_set hnn,idsL,D.ids,hni,hk0,hwi,ids_mk (wt:=wtI) marksI.ids]
  have hx1 : dSl cI xs[i].vars ∈ cAtom xs[i]:=by simp [cAtom,cS,cStr]
  refine call_x (E20) (by simp [dSl]) (by simp) (by simp) (fun q hq=>.inr ?_) (w_laws_markIntS xs[i].vars (k + sumW wtAtom (xs.take i) + 1) (by omega) (by omega) ((hw.2 _ hmem).2) ((hl.2 _ hmem).2) (nd_mem hne0 hx1)) fun n1 hs1 r cs' ws hn1 hm1 hp hr hws=>?_
  ·exact elem_ids (s:=⟨some g,some T',xs⟩) (c:=cAtom) (i:=i) hlt (mem_idsL hx1 hq)
  obtain ⟨rfl,rfl⟩:=hp
  simp at hn1
  have hre1 : reL (phi (dSl cI xs[i].vars).ids [dSl cI (mkS (mkI) (wtI) xs[i].vars (k + sumW wtAtom (xs.take i) + 1))]) [D.str (mtext (k + sumW wtAtom (xs.take i))),dSl cI xs[i].vars] = some [D.str (mtext (k + sumW wtAtom (xs.take i))),dSl cI (mkS (mkI) (wtI) xs[i].vars (k + sumW wtAtom (xs.take i) + 1))]:=reL_cons_iff.2 ⟨rfl,reL_cons_iff.2 ⟨re_root marksI.len ((hw.2 _ hmem).2).1 (by simp) (fun g hg=>mem_slids hg) [],rfl⟩⟩
  have hse1:=re_elemD (g:=g) (T:=some T') (es:=(mkAt mkAtom wtAtom xs k i).map cAtom) (phi_out (W:=(dSl cI xs[i].vars).ids) (ws:=[dSl cI (mkS (mkI) (wtI) xs[i].vars (k + sumW wtAtom (xs.take i) + 1))]) (g:=g) (fun h=>hni0 (mem_idsL hx1 h))) hre1 (hap _ (fun q hq=>mem_idsL hx1 hq) _)
  simp [dSl,cAtom,cS,cStr,mkS] at hse1 ⊢
  simp [hse1,hlt,hnn,nin_set hnn,idsL,D.ids,hni,hwi,mkS,ids_mk (wt:=wtI) marksI.ids]
  refine back (i + 1) (by omega) (by omega) rfl (by simp <;> omega) ?_ (by simp)
  simp [mkAt_succ hlt,e1,cAtom,cS,cStr,dSl]
  first
  | exact ⟨rfl,by omega⟩
  | (refine ⟨?_,by omega⟩; simp [mkAtom,mkStr,wtAtom,wtStr,mkS,Int.add_assoc,show ∀ x : Int,1 + (1 + x) = 2 + x from fun x=>by omega])
 ·have hn : i = xs.length:=by omega
  subst hn
  simp [dSl,vendX]
  refine ⟨[0],fun γ hs' h1 h2=>?_⟩
  simp [mkS,mkAt_all]
theorem simT_Query {a : Query} (hw : whQuery a) (k : Int) : Sim (cQuery a) (cQuery (mkTQuery a k)):=((Sim.leaf (by simp [D.ids]) Sim.nil).app (sim_mk marksAtom hw.2.1 (k))).app (sim_mk marksI hw.2.2 (k + wtS wtAtom a.atoms))
theorem w_laws_markQuery (a : Query) (k : Int) (h0 : 1 <= k) (h1 : k + wtTQuery a <= 4611686018427387904) (hw : whQuery a) (hl : okQuery a) (hnd : (idsL (cQuery a)).Nodup) :
  VX Tryz.prog 19 (idsL (cQuery a)) [.agg ((cQuery a).map V.d),.d (.int .i64 k)] none (fun _ r _ ws=>r = .d (.int .i64 (k + wtTQuery a)) /\ ws = cQuery (mkTQuery a k)):=by
 refine VX.of E s19 (by kernel_rfl) Tryz.func19 (by rfl) (by kernel_rfl) (by simp [Tryz.f19]) (by simp [Tryz.f19]) s19_ok ?_ ?_ fun B hB=>?_
 ·exact fun g hg=>.inl (by simpa [idsVL,V.ids,idsVL_map_d] using hg)
 ·exact fun cs h=>nomatch h
 have hwt : wtTQuery a = wtS wtAtom a.atoms + wtS wtI a.out:=rfl
 have hnd0:=hnd
 simp only [cQuery,idsL_app] at hnd0
 have nd0 : (idsL (cI a.n)).Nodup:=nd_left (nd_left (hnd0))
 have nd1 : (idsL (cS cAtom a.atoms)).Nodup:=nd_right (nd_left (hnd0))
 have nd2 : (idsL (cS cI a.out)).Nodup:=nd_right (hnd0)
 have dj0_1 : ∀ g ∈ idsL (cI a.n),g ∉ idsL (cS cAtom a.atoms):=fun g hg=>nd_disj (nd_left (hnd0)) g (hg)
 have dj0_2 : ∀ g ∈ idsL (cI a.n),g ∉ idsL (cS cI a.out):=fun g hg=>nd_disj (hnd0) g (List.mem_append_left _ (hg))
 have dj1_2 : ∀ g ∈ idsL (cS cAtom a.atoms),g ∉ idsL (cS cI a.out):=fun g hg=>nd_disj (hnd0) g (List.mem_append_right _ hg)
 simp [Tryz.f19,cI,cQuery,cS]
 refine call_x (E61) (by simp) (by simp) (by simp) (fun q hq=>.inr ?_) (w_laws_markAtomS a.atoms (k) (by omega) (by omega) (hw.2.1) (hl.2.1) (by rw [<- idsL_cS]; exact nd1)) fun n0 hs0 r cs' ws hn0 hm0 hp hr hws=>?_
 ·simp only [idsL_app,idsL,List.append_nil,List.nil_append,List.append_assoc,List.mem_append,cI,cQuery,cS] at hq ⊢
  first | (simp [hq]; done) | (simp [D.ids] at hq ⊢; grind)
 obtain ⟨rfl,rfl⟩:=hp
 simp at hn0
 have hre0 : reL (phi ((dSl cAtom a.atoms).ids) [dSl cAtom (mkS (mkAtom) (wtAtom) a.atoms (k))]) (cS cAtom a.atoms) = some (cS cAtom (mkS (mkAtom) (wtAtom) a.atoms (k))):=by
  have:=re_sim (sim_mk marksAtom hw.2.1 (k)) ((marksS marksAtom).ids _ _) nd1
  rw [idsL_cS] at this
  exact this
 have ho0_2 : reL (phi ((dSl cAtom a.atoms).ids) [dSl cAtom (mkS (mkAtom) (wtAtom) a.atoms (k))]) (cS cI a.out) = some (cS cI a.out):=re_same fun g hg=>by
  rw [<- idsL_cS] at hg
  skip
  exact dj1_2 g hg
 replace hre0:=reVL_map hre0
 replace ho0_2:=reVL_map ho0_2
 simp only [cI,cQuery,cS,List.cons_append,List.nil_append,List.map_cons,List.map_nil,reVL_cons,reVL_nil,List.cons.injEq,and_true,reV_int,reV_str,true_and] at hre0 ho0_2
 simp [hre0,ho0_2,cI,cQuery,cS]
 refine call_x (E20) (by simp) (by simp) (by simp) (fun q hq=>.inr ?_) (w_laws_markIntS a.out (k + wtS wtAtom a.atoms) (by omega) (by omega) (hw.2.2) (hl.2.2) (by rw [<- idsL_cS]; exact nd2)) fun n1 hs1 r cs' ws hn1 hm1 hp hr hws=>?_
 ·simp only [idsL_app,idsL,List.append_nil,List.nil_append,List.append_assoc,List.mem_append,cI,cQuery,cS] at hq ⊢
  first | (simp [hq]; done) | (simp [D.ids] at hq ⊢; grind)
 obtain ⟨rfl,rfl⟩:=hp
 simp at hn1
 have hre1 : reL (phi ((dSl cI a.out).ids) [dSl cI (mkS (mkI) (wtI) a.out (k + wtS wtAtom a.atoms))]) (cS cI a.out) = some (cS cI (mkS (mkI) (wtI) a.out (k + wtS wtAtom a.atoms))):=by
  have:=re_sim (sim_mk marksI hw.2.2 (k + wtS wtAtom a.atoms)) ((marksS marksI).ids _ _) nd2
  rw [idsL_cS] at this
  exact this
 have ho1_1 : reL (phi ((dSl cI a.out).ids) [dSl cI (mkS (mkI) (wtI) a.out (k + wtS wtAtom a.atoms))]) (cS cAtom (mkS (mkAtom) (wtAtom) a.atoms (k))) = some (cS cAtom (mkS (mkAtom) (wtAtom) a.atoms (k))):=re_same fun g hg=>by
  rw [<- idsL_cS] at hg
  rw [(marksS marksAtom).ids]
  exact (fun h=>dj1_2 g h hg)
 replace hre1:=reVL_map hre1
 replace ho1_1:=reVL_map ho1_1
 simp only [cI,cQuery,cS,List.cons_append,List.nil_append,List.map_cons,List.map_nil,reVL_cons,reVL_nil,List.cons.injEq,and_true,reV_int,reV_str,true_and] at hre1 ho1_1
 simp [hre1,ho1_1,cI,cQuery,cS]
 simp [vendX]
 refine ⟨[0],fun γ hs' h1 h2=>?_⟩
 simp [isD,dD,hwt,mkTQuery,cI,cQuery,cS,reD]
 try omega
theorem simT_Dec {a : Dec} (hw : whDec a) (k : Int) : Sim (cDec a) (cDec (mkTDec a k)):=(sim_mk (marksS marksI) hw.1 (k)).app (sim_mk marksI hw.2 (k + wtS (wtS wtI) a.bags))
theorem w_laws_markDecomposition (a : Dec) (k : Int) (h0 : 1 <= k) (h1 : k + wtTDec a <= 4611686018427387904) (hw : whDec a) (hl : okDec a) (hnd : (idsL (cDec a)).Nodup) :
  VX Tryz.prog 28 (idsL (cDec a)) [.agg ((cDec a).map V.d),.d (.int .i64 k)] none (fun _ r _ ws=>r = .d (.int .i64 (k + wtTDec a)) /\ ws = cDec (mkTDec a k)):=by
 refine VX.of E s28 (by kernel_rfl) Tryz.func28 (by rfl) (by kernel_rfl) (by simp [Tryz.f28]) (by simp [Tryz.f28]) s28_ok ?_ ?_ fun B hB=>?_
 ·exact fun g hg=>.inl (by simpa [idsVL,V.ids,idsVL_map_d] using hg)
 ·exact fun cs h=>nomatch h
 have hwt : wtTDec a = wtS (wtS wtI) a.bags + wtS wtI a.par:=rfl
 have hnd0:=hnd
 simp only [cDec,idsL_app] at hnd0
 have nd0 : (idsL (cS (cS cI) a.bags)).Nodup:=nd_left (hnd0)
 have nd1 : (idsL (cS cI a.par)).Nodup:=nd_right (hnd0)
 have dj0_1 : ∀ g ∈ idsL (cS (cS cI) a.bags),g ∉ idsL (cS cI a.par):=fun g hg=>nd_disj (hnd0) g (hg)
 simp [Tryz.f28,cDec,cS]
 refine call_x (E65) (by simp) (by simp) (by simp) (fun q hq=>.inr ?_) (w_laws_markIntSS a.bags (k) (by omega) (by omega) (hw.1) (hl.1) (by rw [<- idsL_cS]; exact nd0)) fun n0 hs0 r cs' ws hn0 hm0 hp hr hws=>?_
 ·simp only [idsL_app,idsL,List.append_nil,List.nil_append,List.append_assoc,List.mem_append,cDec,cS] at hq ⊢
  first | (simp [hq]; done) | (simp [D.ids] at hq ⊢; grind)
 obtain ⟨rfl,rfl⟩:=hp
 simp at hn0
 have hre0 : reL (phi ((dSl (cS cI) a.bags).ids) [dSl (cS cI) (mkS (mkS (mkI) (wtI)) (wtS wtI) a.bags (k))]) (cS (cS cI) a.bags) = some (cS (cS cI) (mkS (mkS (mkI) (wtI)) (wtS wtI) a.bags (k))):=by
  have:=re_sim (sim_mk (marksS marksI) hw.1 (k)) ((marksS (marksS marksI)).ids _ _) nd0
  rw [idsL_cS] at this
  exact this
 have ho0_1 : reL (phi ((dSl (cS cI) a.bags).ids) [dSl (cS cI) (mkS (mkS (mkI) (wtI)) (wtS wtI) a.bags (k))]) (cS cI a.par) = some (cS cI a.par):=re_same fun g hg=>by
  rw [<- idsL_cS] at hg
  skip
  exact dj0_1 g hg
 replace hre0:=reVL_map hre0
 replace ho0_1:=reVL_map ho0_1
 simp only [cDec,cS,List.cons_append,List.nil_append,List.map_cons,List.map_nil,reVL_cons,reVL_nil,List.cons.injEq,and_true,reV_int,reV_str,true_and] at hre0 ho0_1
 simp [hre0,ho0_1,cDec,cS]
 refine call_x (E20) (by simp) (by simp) (by simp) (fun q hq=>.inr ?_) (w_laws_markIntS a.par (k + wtS (wtS wtI) a.bags) (by omega) (by omega) (hw.2) (hl.2) (by rw [<- idsL_cS]; exact nd1)) fun n1 hs1 r cs' ws hn1 hm1 hp hr hws=>?_
 ·simp only [idsL_app,idsL,List.append_nil,List.nil_append,List.append_assoc,List.mem_append,cDec,cS] at hq ⊢
  first | (simp [hq]; done) | (simp [D.ids] at hq ⊢; grind)
 obtain ⟨rfl,rfl⟩:=hp
 simp at hn1
 have hre1 : reL (phi ((dSl cI a.par).ids) [dSl cI (mkS (mkI) (wtI) a.par (k + wtS (wtS wtI) a.bags))]) (cS cI a.par) = some (cS cI (mkS (mkI) (wtI) a.par (k + wtS (wtS wtI) a.bags))):=by
  have:=re_sim (sim_mk marksI hw.2 (k + wtS (wtS wtI) a.bags)) ((marksS marksI).ids _ _) nd1
  rw [idsL_cS] at this
  exact this
 have ho1_0 : reL (phi ((dSl cI a.par).ids) [dSl cI (mkS (mkI) (wtI) a.par (k + wtS (wtS wtI) a.bags))]) (cS (cS cI) (mkS (mkS (mkI) (wtI)) (wtS wtI) a.bags (k))) = some (cS (cS cI) (mkS (mkS (mkI) (wtI)) (wtS wtI) a.bags (k))):=re_same fun g hg=>by
  rw [<- idsL_cS] at hg
  rw [(marksS (marksS marksI)).ids]
  exact (fun h=>dj0_1 g h hg)
 replace hre1:=reVL_map hre1
 replace ho1_0:=reVL_map ho1_0
 simp only [cDec,cS,List.cons_append,List.nil_append,List.map_cons,List.map_nil,reVL_cons,reVL_nil,List.cons.injEq,and_true,reV_int,reV_str,true_and] at hre1 ho1_0
 simp [hre1,ho1_0,cDec,cS]
 simp [vendX]
 refine ⟨[0],fun γ hs' h1 h2=>?_⟩
 simp [isD,dD,hwt,mkTDec,cDec,cS,reD]
 try omega
end Go.Proofs.YtglilmkmkdkedaaGreatDoor
namespace Go.Proofs.YtglilmkmkdkedaaGreatDoor
open Go.Vs Go.Proofs Go
set_option maxRecDepth 100000
set_option maxHeartbeats 1000000
attribute [simp] plI_id plStr_id map_plI map_plStr pS cP cI cStr cU8 cB
theorem w_impl_within (n lo hi : Int) : VC Tryz.prog 129 [.d (.int .i64 n),.d (.int .i64 lo),.d (.int .i64 hi)] (fun _ r=>r = .d (.bool (inR n lo hi))):=by
 refine VC.ofL EP s129 (by kernel_rfl) Tryz.func129 (by rfl) (by kernel_rfl) (by simp [Tryz.f129]) (by simp [Tryz.f129]) s129_ok fun B hl=>?_
 by_cases h : lo <= n
 ·simp [Tryz.f129,inR,h]
 ·simp [Tryz.f129,inR,h]
theorem w_spec_l1In (n lo hi : Int) : VC Tryz.prog 82 [.d (.int .i64 n),.d (.int .i64 lo),.d (.int .i64 hi)] (fun _ r=>r = .d (.bool (inR n lo hi))):=by
 refine VC.ofL EP s82 (by kernel_rfl) Tryz.func82 (by rfl) (by kernel_rfl) (by simp [Tryz.f82]) (by simp [Tryz.f82]) s82_ok fun B hl=>?_
 by_cases h : lo <= n
 ·simp [Tryz.f82,inR,h]
 ·simp [Tryz.f82,inR,h]
theorem w_impl_AreValidValues (xs : List Int) : VC Tryz.prog 140 [.d (pS cI xs)] (fun _ r=>r = .d (.bool (valsOk xs))):=by
 refine VC.ofL EP s140 (by kernel_rfl) Tryz.func140 (by rfl) (by kernel_rfl) (by simp [Tryz.f140]) (by simp [Tryz.f140]) s140_ok fun B hl=>?_
 simp [pS,maxLen] at hl
 simp [Tryz.f140,pS]
 refine loop_rule (X:=Nat) (fun i=>i <= xs.length /\ (xs.take i).all (fun v=>inR v 0 99) = true) (fun i=>[(5,.d (.pl (xs.map cI))),(6,.d (.int .i64 xs.length)),(7,.d (.int .i64 i))]) (fun _=>[]) (fun i=>xs.length - i) 0 (by simp) (by simp) (by simp) ?_
 intro i hs t m hi hh
 by_cases hlt : i < xs.length
 ·have hwi:=wr1 (i:=i) (by omega)
  have hst:=all_step (p:=fun v=>inR v 0 99) hlt
  rw [hi.2,Bool.true_and] at hst
  have hbad : inR xs[i] 0 99 = false -> valsOk xs = false:=all_bad (p:=fun v=>inR v 0 99) hlt
  simp [hlt,cI]
  refine call_f (w_impl_within xs[i] 0 99) (by simp) rfl fun hs1 hh1=>?_
  cases hc : inR xs[i] 0 99
  ·simp [hbad hc]
  ·simp [hwi]
   simp at hh1
   exact back (i + 1) ⟨by omega,List.all_eq_true.1 (hst.trans hc)⟩ (by omega) rfl (by simp <;> omega) (by simp) (by simp)
 ·have hd : valsOk xs = true:=all_done (by omega) hi.2
  simp [hlt,hd]
end Go.Proofs.YtglilmkmkdkedaaGreatDoor
namespace Go.Proofs.YtglilmkmkdkedaaGreatDoor
open Go.Vs Go.Proofs Go
set_option maxRecDepth 100000
set_option maxHeartbeats 1000000
theorem w_spec_AreValidValues (xs : List Int) : VC Tryz.prog 126 [.d (pS cI xs)] (fun _ r=>r = .d (.bool (valsOk xs))):=by
 refine VC.ofL EP s126 (by kernel_rfl) Tryz.func126 (by rfl) (by kernel_rfl) (by simp [Tryz.f126]) (by simp [Tryz.f126]) s126_ok fun B hl=>?_
 simp [pS,maxLen] at hl
 simp [Tryz.f126,pS]
 refine loop_rule (X:=Nat) (fun i=>i <= xs.length /\ (xs.take i).all (fun v=>inR v 0 99) = true) (fun i=>[(0,.d (.pl (xs.map cI))),(3,.d (.int .i64 i))]) (fun _=>[]) (fun i=>xs.length - i) 0 (by simp) (by simp) (by simp) ?_
 intro i hs t m hi hh
 by_cases hlt : i < xs.length
 ·have hwi:=wr1 (i:=i) (by omega)
  have hst:=all_step (p:=fun v=>inR v 0 99) hlt
  rw [hi.2,Bool.true_and] at hst
  have hbad : inR xs[i] 0 99 = false -> valsOk xs = false:=all_bad (p:=fun v=>inR v 0 99) hlt
  simp [hlt,cI]
  refine call_f (w_spec_l1In xs[i] 0 99) (by simp) rfl fun hs1 hh1=>?_
  simp at hh1
  cases hc : inR xs[i] 0 99
  ·simp [hbad hc]
  ·simp [hwi]
   exact back (i + 1) ⟨by omega,List.all_eq_true.1 (hst.trans hc)⟩ (by omega) rfl (by simp <;> omega) (by simp) (by simp)
 ·have hd : valsOk xs = true:=all_done (by omega) hi.2
  simp [hlt,hd]
theorem w_spec_CompareRows (a b : List Int) : VC Tryz.prog 91 [.d (pS cI a),.d (pS cI b)] (fun _ r=>r = .d (.int .i64 (cmpL a b))):=by
 refine VC.ofL EP s91 (by kernel_rfl) Tryz.func91 (by rfl) (by kernel_rfl) (by simp [Tryz.f91]) (by simp [Tryz.f91]) s91_ok fun B hl=>?_
 simp [pS,maxLen,cI] at hl
 simp [Tryz.f91,s91_4,s91_6,pS]
 refine loop_rule (X:=Nat) (fun i=>i <= a.length /\ i <= b.length /\ cmpL a b = cmpL (a.drop i) (b.drop i)) (fun i=>[(0,.d (.pl (a.map cI))),(1,.d (.pl (b.map cI))),(5,.d (.int .i64 i))]) (fun _=>[]) (fun i=>a.length - i) 0 (by simp) (by simp) (by simp) ?_
 intro i hs t m hi hh
 by_cases hlt : i < a.length
 ·by_cases hlb : i < b.length
  ·have hwi:=wr1 (i:=i) (by omega)
   have hc:=cmpL_drop hlt hlb
   rw [<- hi.2.2] at hc
   by_cases h1 : a[i] < b[i]
   ·simp [cI,s91_4,s91_6,hlt,hlb,h1,hc]
   ·by_cases h2 : b[i] < a[i]
    ·simp [cI,s91_4,s91_6,hlt,hlb,h1,h2,hc]
    ·simp only [h1,h2,if_false] at hc
     simp [cI,s91_4,s91_6,hlt,hlb,h1,h2,hwi]
     exact back (i + 1) ⟨by omega,by omega,hc⟩ (by omega) rfl (by simp) (by simp) (by simp)
  ·have he:=cmpL_end hi.1 hi.2.1 (by omega)
   rw [<- hi.2.2] at he
   by_cases h1 : a.length < b.length
   ·simp [hlt,hlb,h1,he]
   ·by_cases h2 : b.length < a.length <;> simp [hlt,hlb,h1,h2,he]
 ·have he:=cmpL_end hi.1 hi.2.1 (by omega)
  rw [<- hi.2.2] at he
  by_cases h1 : a.length < b.length
  ·simp [hlt,h1,he]
  ·by_cases h2 : b.length < a.length <;> simp [hlt,h1,h2,he]
theorem w_impl_compareInts (x y : Int) : VC Tryz.prog 146 [.d (.int .i64 x),.d (.int .i64 y)] (fun _ r=>r = .d (.int .i64 (if x < y then -1 else if y < x then 1 else 0))):=by
 refine VC.ofL EP s146 (by kernel_rfl) Tryz.func146 (by rfl) (by kernel_rfl) (by simp [Tryz.f146]) (by simp [Tryz.f146]) s146_ok fun B hl=>?_
 by_cases h1 : x < y
 ·simp [Tryz.f146,h1]
 ·by_cases h2 : y < x <;> simp [Tryz.f146,h1,h2]
theorem w_impl_CompareRows (a b : List Int) : VC Tryz.prog 138 [.d (pS cI a),.d (pS cI b)] (fun _ r=>r = .d (.int .i64 (cmpL a b))):=by
 refine VC.ofL EP s138 (by kernel_rfl) Tryz.func138 (by rfl) (by kernel_rfl) (by simp [Tryz.f138]) (by simp [Tryz.f138]) s138_ok fun B hl=>?_
 simp [pS,maxLen,cI] at hl
 simp [Tryz.f138,s138_4,s138_5,pS]
 refine loop_rule (X:=Nat) (fun i=>i <= a.length /\ i <= b.length /\ cmpL a b = cmpL (a.drop i) (b.drop i)) (fun i=>[(0,.d (.pl (a.map cI))),(1,.d (.pl (b.map cI))),(5,.d (.int .i64 i))]) (fun _=>[]) (fun i=>a.length - i) 0 (by simp) (by simp) (by simp) ?_
 intro i hs t m hi hh
 by_cases hlt : i < a.length /\ i < b.length
 ·obtain ⟨hlt,hlb⟩:=hlt
  have hwi:=wr1 (i:=i) (by omega)
  have hc:=cmpL_drop hlt hlb
  rw [<- hi.2.2] at hc
  by_cases he : a[i] = b[i]
  ·rw [if_neg (by omega),if_neg (by omega)] at hc
   simp [cI,s138_4,s138_5,hlt,hlb,hwi,he]
   exact back (i + 1) ⟨by omega,by omega,hc⟩ (by omega) rfl (by simp) (by simp) (by simp)
  ·simp [cI,s138_4,s138_5,hlt,hlb,hwi,he]
   refine call_f (w_impl_compareInts a[i] b[i]) (by simp) rfl fun hs1 hh1=>?_
   have : (if a[i] < b[i] then (-1 : Int) else if b[i] < a[i] then 1 else 0) = cmpL a b:=by rw [hc]; by_cases h1 : a[i] < b[i] <;> simp [h1]; omega
   simp [this]
 ·have he:=cmpL_end hi.1 hi.2.1 hlt
  rw [<- hi.2.2] at he
  have hcm : (if (a.length : Int) < b.length then (-1 : Int) else if (b.length : Int) < a.length then 1 else 0) = cmpL a b:=by rw [he]; simp
  by_cases hl1 : i < a.length
  ·have hl2 : ¬ i < b.length:=fun h=>hlt ⟨hl1,h⟩
   simp [hl1,hl2]
   refine call_f (w_impl_compareInts a.length b.length) (by simp) rfl fun hs1 hh1=>?_
   simp only [hcm]
   simp
  ·simp [hl1]
   refine call_f (w_impl_compareInts a.length b.length) (by simp) rfl fun hs1 hh1=>?_
   simp only [hcm]
   simp
theorem w_impl_rowsValid (ar : Int) (l : List (List Int)) : VC Tryz.prog 139 [.d (.int .i64 ar),.d (pS (cP cI) l)] (fun _ r=>r = .d (.bool (rowsOk ar l))):=by
 refine VC.ofL EP s139 (by kernel_rfl) Tryz.func139 (by rfl) (by kernel_rfl) (by simp [Tryz.f139]) (by simp [Tryz.f139]) s139_ok fun B hl=>?_
 simp [pS,cP,cI,maxLen] at hl
 simp [Tryz.f139,pS]
 refine call_f (w_impl_within ar 0 5) (by simp) rfl fun hs0 hh0=>?_
 simp at hh0
 cases h1 : inR ar 0 5
 ·simp [rowsOk,h1]
 by_cases h2 : (4000 : Int) < l.length
 ·simp [rowsOk,h2,show ¬ l.length <= 4000 by omega]
 have h2' : l.length <= 4000:=by omega
 simp [h2]
 refine loop_rule (X:=Nat) (fun i=>i <= l.length /\ ∀ j,j < i -> rowOk ar l j = true) (fun i=>[(0,.d (.int .i64 ar)),(1,.d (.pl (l.map (cP cI)))),(15,.d (.pl (l.map (cP cI)))),(16,.d (.int .i64 l.length)),(17,.d (.int .i64 i))]) (fun _=>[]) (fun i=>l.length - i) 0 (by simp) (by simp) (by simp) ?_
 intro i hs t m hi hh
 by_cases hlt : i < l.length
 ·have hwi:=wr1 (i:=i) (by omega)
  have hr : rowOk ar l i = (decide ((l[i].length : Int) = ar) && valsOk l[i] && (i == 0 || decide (cmpL (l.getD (i - 1) []) l[i] < 0))):=by simp [rowOk,hlt]
  have hbad:=fun h=>rows_bad (ar:=ar) hlt h
  have step : rowOk ar l i = true -> ∀ j,j < i + 1 -> rowOk ar l j = true:=fun h j hj=>by
   rcases Nat.lt_succ_iff_lt_or_eq.1 hj with h' | h'
   ·exact hi.2 j h'
   ·rw [h']; exact h
  by_cases c1 : (l[i].length : Int) = ar
  case neg=>simp [hlt,cP,pS,c1,hbad (by rw [hr]; simp [c1])]
  simp [hlt,cP,pS,c1]
  refine call_f (w_impl_AreValidValues l[i]) (by simp [pS]) rfl fun hs1 hh1=>?_
  simp at hh1
  cases c2 : valsOk l[i]
  ·simp [hbad (by rw [hr]; simp [c2])]
  by_cases c3 : i = 0
  ·subst c3
   simp [hwi,show IntKind.i64.wrap 1 = 1 by decide]
   exact back 1 ⟨by omega,step (by rw [hr]; simp [c1,c2])⟩ (by omega) rfl (by simp <;> omega) (by simp [cP,pS,show IntKind.i64.wrap 1 = 1 by decide]) (by simp)
  ·have hw1 : IntKind.i64.wrap ((i : Int) - 1) = ((i - 1 : Nat) : Int):=by rw [wrap64_of (by omega) (by omega)]; omega
   have hip : (0 : Int) < i:=by omega
   have hlt1 : i - 1 < l.length:=by omega
   have hg1 : l.getD (i - 1) [] = l[i - 1]:=by simp [hlt1]
   rw [hg1] at hr
   simp [hip,hw1,hlt1,cP,pS,c3,show 0 < i by omega]
   refine call_f (w_impl_CompareRows l[i - 1] l[i]) (by simp [pS]) rfl fun hs2 hh2=>?_
   simp at hh2
   by_cases c4 : cmpL l[i - 1] l[i] < 0
   ·simp [hwi,show ¬ 0 <= cmpL l[i - 1] l[i] by omega]
    exact back (i + 1) ⟨by omega,step (by rw [hr]; simp [c1,c2,c4])⟩ (by omega) rfl (by simp <;> omega) (by simp [cP,pS]) (by simp)
   ·simp [show 0 <= cmpL l[i - 1] l[i] by omega,hbad (by rw [hr]; simp [c3,c4])]
 ·have hn : i = l.length:=by omega
  have hd:=rows_done h1 h2' (hn ▸ hi.2)
  simp [hlt,hd]
theorem w_impl_IsValidRelation (r : PReln) : VC Tryz.prog 118 [.agg ((eReln r).map .d)] (fun _ v=>v = .d (.bool (rowsOk r.ar r.rows))):=by
 refine VC.ofL EP s118 (by kernel_rfl) Tryz.func118 (by rfl) (by kernel_rfl) (by simp [Tryz.f118]) (by simp [Tryz.f118]) s118_ok fun B hl=>?_
 simp [Tryz.f118,eReln,cI,cP]
 refine call_f (w_impl_rowsValid r.ar r.rows) (by simp [pS,cP]) rfl fun hs0 hh0=>?_
 simp
theorem w_spec_IsValidRelation (r : PReln) : VC Tryz.prog 85 [.agg ((eReln r).map .d)] (fun _ v=>v = .d (.bool (rowsOk r.ar r.rows))):=by
 obtain ⟨ar,l⟩:=r
 refine VC.ofL EP s85 (by kernel_rfl) Tryz.func85 (by rfl) (by kernel_rfl) (by simp [Tryz.f85]) (by simp [Tryz.f85]) s85_ok fun B hl=>?_
 simp [eReln,pS,cP,cI,maxLen] at hl
 simp [Tryz.f85,s85_6,eReln,cI,cP,pS]
 refine call_f (w_spec_l1In ar 0 5) (by simp) rfl fun hs0 hh0=>?_
 simp at hh0
 cases h1 : inR ar 0 5
 ·simp [rowsOk,h1]
 by_cases h2 : (4000 : Int) < l.length
 ·simp [rowsOk,h2,show ¬ l.length <= 4000 by omega]
 have h2' : l.length <= 4000:=by omega
 simp [h2]
 refine loop_rule (X:=Nat) (fun i=>i <= l.length /\ ∀ j,j < i -> rowOk ar l j = true) (fun i=>[(1,.ptr 1 0 0),(3,.d (.int .i64 i))]) (fun _=>[(1,some (.box [.d (.int .i64 ar),.d (.pl (l.map fun xs=>[.pl (xs.map cI)]))]))]) (fun i=>l.length - i) 0 (by simp) (by simp) (by simp [cI,cP,pS]) ?_
 intro i hs t m hi hh
 by_cases hlt : i < l.length
 ·have hwi:=wr1 (i:=i) (by omega)
  have hr : rowOk ar l i = (decide ((l[i].length : Int) = ar) && valsOk l[i] && (i == 0 || decide (cmpL (l.getD (i - 1) []) l[i] < 0))):=by simp [rowOk,hlt]
  have hbad:=fun h=>rows_bad (ar:=ar) hlt h
  have step : rowOk ar l i = true -> ∀ j,j < i + 1 -> rowOk ar l j = true:=fun h j hj=>by
   rcases Nat.lt_succ_iff_lt_or_eq.1 hj with h' | h'
   ·exact hi.2 j h'
   ·rw [h']; exact h
  by_cases c1 : (l[i].length : Int) = ar
  case neg=>simp [hlt,s85_6,c1,hbad (by rw [hr]; simp [c1])]
  simp [hlt,s85_6,c1]
  refine call_f (w_spec_AreValidValues l[i]) (by simp [pS]) rfl fun hs1 hh1=>?_
  simp at hh1
  cases c2 : valsOk l[i]
  ·simp [hbad (by rw [hr]; simp [c2])]
  by_cases c3 : i = 0
  ·subst c3
   simp [hwi,show IntKind.i64.wrap 1 = 1 by decide]
   exact back 1 ⟨by omega,step (by rw [hr]; simp [c1,c2])⟩ (by omega) rfl (by simp <;> omega) (by simp [show IntKind.i64.wrap 1 = 1 by decide]) (by simp)
  ·have hw1 : IntKind.i64.wrap ((i : Int) - 1) = ((i - 1 : Nat) : Int):=by rw [wrap64_of (by omega) (by omega)]; omega
   have hip : (0 : Int) < i:=by omega
   have hlt1 : i - 1 < l.length:=by omega
   have hg1 : l.getD (i - 1) [] = l[i - 1]:=by simp [hlt1]
   rw [hg1] at hr
   simp [hip,hw1,hlt1,hlt,c3,show 0 < i by omega]
   refine call_f (w_spec_CompareRows l[i - 1] l[i]) (by simp [pS]) rfl fun hs2 hh2=>?_
   simp at hh2
   by_cases c4 : cmpL l[i - 1] l[i] < 0
   ·simp [hwi,show ¬ 0 <= cmpL l[i - 1] l[i] by omega]
    exact back (i + 1) ⟨by omega,step (by rw [hr]; simp [c1,c2,c4])⟩ (by omega) rfl (by simp <;> omega) (by simp) (by simp)
   ·simp [show 0 <= cmpL l[i - 1] l[i] by omega,hbad (by rw [hr]; simp [c3,c4])]
 ·have hn : i = l.length:=by omega
  have hd:=rows_done h1 h2' (hn ▸ hi.2)
  simp [hlt,hd]
theorem w_spec_l5Place (r : PReln) (row : List Int) (hb : r.rows.length <= 4294967296) : VC Tryz.prog 116 [.agg ((eReln r).map .d),.d (pS cI row)] (fun _ v=>v = .tup [.d (.int .i64 (placeK r.rows row)),.d (.bool (placeB r.rows row))]):=by
 obtain ⟨ar,l⟩:=r
 simp only at hb ⊢
 refine VC.ofL EP s116 (by kernel_rfl) Tryz.func116 (by rfl) (by kernel_rfl) (by simp [Tryz.f116]) (by simp [Tryz.f116]) s116_ok fun B hl=>?_
 simp [eReln,pS,cP,cI,maxLen] at hl
 simp [Tryz.f116,eReln,cI,cP,pS]
 refine loop_rule (X:=Nat × Nat) (fun p=>p.1 <= p.2 /\ p.2 <= l.length /\ bs l row p.1 p.2 = placeK l row) (fun p=>[(2,.ptr 2 0 0),(1,.d (.pl (row.map cI))),(6,.d (.int .i64 p.1)),(7,.d (.int .i64 p.2))]) (fun _=>[(2,some (.box [.d (.int .i64 ar),.d (.pl (l.map (cP cI)))]))]) (fun p=>p.2 - p.1) (0,l.length) (by simp; rfl) (by simp [cI]) (by simp [cP,pS,cI]) ?_
 rintro ⟨lo,hi⟩ hs t m ⟨h1,h2,h3⟩ hh
 simp only at h1 h2 h3
 by_cases hlt : lo < hi
 ·rw [bs_lt hlt] at h3
  have hm:=mid64 (a:=lo) (b:=hi) (by omega) (by omega)
  have hml : (lo + hi) / 2 < l.length:=by omega
  have hk1 : lo <= (lo + hi) / 2 /\ (lo + hi) / 2 < hi:=by omega
  generalize (lo + hi) / 2 = k at *
  have hg : l.getD k [] = l[k]:=by simp [hml]
  simp [hlt,hm,hml,cP,pS]
  refine call_f (w_spec_CompareRows l[k] row) (by simp [pS]) rfl fun hs1 hh1=>?_
  simp at hh1
  rw [hg] at h3
  by_cases hc : cmpL l[k] row < 0
  ·rw [if_pos hc] at h3
   have hw:=wr1 (i:=k) (by omega)
   simp [hc,hw]
   exact back (k + 1,hi) ⟨by simp; omega,h2,h3⟩ (by simp; omega) rfl (by simp <;> omega) (by simp [cP,pS]) (by simp [cP,pS])
  ·rw [if_neg hc] at h3
   simp [hc]
   exact back (lo,k) ⟨by simp; omega,by simp; omega,h3⟩ (by simp; omega) rfl (by simp <;> omega) (by simp [cP,pS]) (by simp [cP,pS])
 ·rw [bs_ge hlt] at h3
  subst h3
  by_cases hk : placeK l row < l.length
  ·simp [hlt,hk,cP,pS]
   refine call_f (w_spec_CompareRows l[placeK l row] row) (by simp [pS]) rfl fun hs1 hh1=>?_
   simp [placeB,hk]
  ·simp [hlt,hk,placeB]
end Go.Proofs.YtglilmkmkdkedaaGreatDoor
namespace Go.Proofs.YtglilmkmkdkedaaGreatDoor
open Go.Vs Go.Proofs Go
set_option maxRecDepth 100000
set_option maxHeartbeats 1000000
section
attribute [local simp] plI_id plStr_id map_plI map_plStr pS cP cI cStr cU8 cB
theorem w_spec_l7Find (l : List Int) (v : Int) : VC Tryz.prog 46 [.d (pS cI l),.d (.int .i64 v)] (fun _ r=>r = .d (.int .i64 (idxL l v))):=by
 refine VC.ofL EP s46 (by kernel_rfl) Tryz.func46 (by rfl) (by kernel_rfl) (by simp [Tryz.f46]) (by simp [Tryz.f46]) s46_ok fun B hl=>?_
 simp [pS,maxLen] at hl
 simp [Tryz.f46,]
 refine loop_rule (X:=Nat) (fun i=>i <= l.length /\ AllTo (fun x=>!(x == v)) l i) (fun i=>[(0,.d (.pl (l.map cI))),(1,.d (.int .i64 v)),(5,.d (.int .i64 i))]) (fun _=>[]) (fun i=>l.length - i) 0 ⟨by simp,allTo_zero⟩ (by simp) (by simp) ?_
 intro i hs t m hi hh
 by_cases hlt : i < l.length
 ·have hwi:=wr1 (i:=i) (by omega)
  by_cases he : l[i] = v
  ·have hx:=idxL_at hi.2 hlt he
   simp [hlt,he,hx,]
  ·simp [hlt,he,hwi,]
   exact back (i + 1) ⟨by omega,allTo_step hi.2 hlt (by simp [he])⟩ (by omega) rfl (by simp <;> omega) (by simp) (by simp)
 ·have hx:=(idxL_no (allTo_done hi.2 (by omega))).2
  simp [hlt,hx]
theorem w_impl_indexOf (l : List Int) (v : Int) : VC Tryz.prog 106 [.d (pS cI l),.d (.int .i64 v)] (fun _ r=>r = .d (.int .i64 (idxL l v))):=by
 refine VC.ofL EP s106 (by kernel_rfl) Tryz.func106 (by rfl) (by kernel_rfl) (by simp [Tryz.f106]) (by simp [Tryz.f106]) s106_ok fun B hl=>?_
 simp [pS,maxLen] at hl
 simp [Tryz.f106,]
 refine loop_rule (X:=Nat) (fun i=>i <= l.length /\ AllTo (fun x=>!(x == v)) l i) (fun i=>[(1,.d (.int .i64 v)),(7,.d (.pl (l.map cI))),(8,.d (.int .i64 l.length)),(9,.d (.int .i64 i))]) (fun _=>[]) (fun i=>l.length - i) 0 ⟨by simp,allTo_zero⟩ (by simp) (by simp) ?_
 intro i hs t m hi hh
 by_cases hlt : i < l.length
 ·have hwi:=wr1 (i:=i) (by omega)
  by_cases he : l[i] = v
  ·have hx:=idxL_at hi.2 hlt he
   simp [hlt,he,hx,]
  ·simp [hlt,he,hwi,]
   exact back (i + 1) ⟨by omega,allTo_step hi.2 hlt (by simp [he])⟩ (by omega) rfl (by simp <;> omega) (by simp) (by simp)
 ·have hx:=(idxL_no (allTo_done hi.2 (by omega))).2
  simp [hlt,hx]
theorem w_impl_hasInt (l : List Int) (v : Int) : VC Tryz.prog 100 [.d (pS cI l),.d (.int .i64 v)] (fun _ r=>r = .d (.bool (l.contains v))):=by
 refine VC.ofL EP s100 (by kernel_rfl) Tryz.func100 (by rfl) (by kernel_rfl) (by simp [Tryz.f100]) (by simp [Tryz.f100]) s100_ok fun B hl=>?_
 rw [<- idxL_ge]
 simp [Tryz.f100,]
 refine call_f (w_impl_indexOf l v) (by simp) rfl fun hs1 hh1=>?_
 simp
theorem w_spec_ContainsVariable (a : PAtom) (v : Int) : VC Tryz.prog 125 [.agg ((eAtom a).map V.d),.d (.int .i64 v)] (fun _ r=>r = .d (.bool (a.vars.contains v))):=by
 refine VC.ofL EP s125 (by kernel_rfl) Tryz.func125 (by rfl) (by kernel_rfl) (by simp [Tryz.f125]) (by simp [Tryz.f125]) s125_ok fun B hl=>?_
 obtain ⟨nm,l⟩:=a
 simp [pS,maxLen,eAtom] at hl
 simp [Tryz.f125,eAtom]
 refine loop_rule (X:=Nat) (fun i=>i <= l.length /\ AllTo (fun x=>!(x == v)) l i) (fun i=>[(1,.d (.int .i64 v)),(2,.ptr 2 0 0),(5,.d (.int .i64 i))]) (fun _=>[(2,some (.box [.d (.str nm),.d (.pl (l.map cI))]))]) (fun i=>l.length - i) 0 ⟨by simp,allTo_zero⟩ (by simp) (by simp) ?_
 intro i hs t m hi hh
 by_cases hlt : i < l.length
 ·have hwi:=wr1 (i:=i) (by omega)
  by_cases he : l[i] = v
  ·have hx : v ∈ l:=he ▸ List.getElem_mem hlt
   simp [hlt,he,hx,]
  ·simp [hlt,he,hwi,]
   exact back (i + 1) ⟨by omega,allTo_step hi.2 hlt (by simp [he])⟩ (by omega) rfl (by simp <;> omega) (by simp) (by simp)
 ·have hx:=(idxL_no (allTo_done hi.2 (by omega))).1
  simp [hlt,hx]
theorem w_impl_ContainsVariable (a : PAtom) (v : Int) : VC Tryz.prog 101 [.agg ((eAtom a).map V.d),.d (.int .i64 v)] (fun _ r=>r = .d (.bool (a.vars.contains v))):=by
 refine VC.ofL EP s101 (by kernel_rfl) Tryz.func101 (by rfl) (by kernel_rfl) (by simp [Tryz.f101]) (by simp [Tryz.f101]) s101_ok fun B hl=>?_
 simp [Tryz.f101,eAtom]
 refine call_f (w_impl_hasInt a.vars v) (by simp) rfl fun hs1 hh1=>?_
 simp
theorem w_impl_isLetters (s : List UInt8) : VC Tryz.prog 141 [.d (.str s),.d (.int .i64 4)] (fun _ r=>r = .d (.bool (nameOk s))):=by
 refine VC.ofL EP s141 (by kernel_rfl) Tryz.func141 (by rfl) (by kernel_rfl) (by simp [Tryz.f141]) (by simp [Tryz.f141]) s141_ok fun B hl=>?_
 by_cases h1 : (s.length : Int) < 1
 ·have : s = []:=List.length_eq_zero_iff.1 (by omega)
  subst this
  simp [Tryz.f141,nameOk_len]
 by_cases h4 : (4 : Int) < s.length
 ·have : nameOk s = false:=nameOk_len (by omega)
  simp [Tryz.f141,h1,h4,this]
 have hlen : 1 <= s.length /\ s.length <= 4:=by omega
 simp [Tryz.f141,h1,h4]
 refine loop_rule (X:=Nat) (fun i=>i <= s.length /\ AllTo lowB s i) (fun i=>[(0,.d (.str s)),(5,.d (.int .i64 i))]) (fun _=>[]) (fun i=>s.length - i) 0 ⟨by simp,allTo_zero⟩ (by simp) (by simp) ?_
 intro i hs t m hi hh
 by_cases hlt : i < s.length
 ·have hwi:=wr1 (i:=i) (by omega)
  by_cases ha : ((s[i]).toNat : Int) < 97
  ·have hbad:=nameOk_bad (all_bad (p:=lowB) hlt (lowB_lo ha))
   simp [hlt,ha,hbad,]
  ·by_cases hz : (122 : Int) < ((s[i]).toNat : Int)
   ·have hbad:=nameOk_bad (all_bad (p:=lowB) hlt (lowB_hi hz))
    simp [hlt,ha,hz,hbad,]
   ·simp [hlt,ha,hz,hwi,]
    exact back (i + 1) ⟨by omega,allTo_step hi.2 hlt (lowB_ok ha hz)⟩ (by omega) rfl (by simp <;> omega) (by simp) (by simp)
 ·have hd:=allTo_done hi.2 (by omega)
  have hd2 : nameOk s = true:=by rw [nameOk_ok hd,decide_eq_true hlen]
  simp [hlt,hd2]
theorem w_impl_IsValidName (s : List UInt8) : VC Tryz.prog 131 [.d (.str s)] (fun _ r=>r = .d (.bool (nameOk s))):=by
 refine VC.ofL EP s131 (by kernel_rfl) Tryz.func131 (by rfl) (by kernel_rfl) (by simp [Tryz.f131]) (by simp [Tryz.f131]) s131_ok fun B hl=>?_
 simp [Tryz.f131,]
 refine call_f (w_impl_isLetters s) (by simp) rfl fun hs1 hh1=>?_
 simp
theorem w_spec_IsValidName (s : List UInt8) (hb : s.length <= maxLen) : VC Tryz.prog 124 [.d (.str s)] (fun _ r=>r = .d (.bool (nameOk s))):=by
 refine VC.ofL EP s124 (by kernel_rfl) Tryz.func124 (by rfl) (by kernel_rfl) (by simp [Tryz.f124]) (by simp [Tryz.f124]) s124_ok fun B hl=>?_
 simp only [maxLen] at hb
 simp [Tryz.f124,]
 refine loop_rule (X:=Nat) (fun i=>i <= s.length /\ AllTo lowB s i) (fun i=>[(0,.d (.str s)),(3,.d (.int .i64 i))]) (fun _=>[]) (fun i=>s.length - i) 0 ⟨by simp,allTo_zero⟩ (by simp) (by simp) ?_
 intro i hs t m hi hh
 by_cases hlt : i < s.length
 ·have hwi:=wr1 (i:=i) (by omega)
  by_cases ha : ((s[i]).toNat : Int) < 97
  ·have hbad:=nameOk_bad (all_bad (p:=lowB) hlt (lowB_lo ha))
   simp [hlt,ha,hbad,]
  ·by_cases hz : (122 : Int) < ((s[i]).toNat : Int)
   ·have hbad:=nameOk_bad (all_bad (p:=lowB) hlt (lowB_hi hz))
    simp [hlt,ha,hz,hbad,]
   ·simp [hlt,ha,hz,hwi,]
    exact back (i + 1) ⟨by omega,allTo_step hi.2 hlt (lowB_ok ha hz)⟩ (by omega) rfl (by simp <;> omega) (by simp) (by simp)
 ·have hd:=allTo_done hi.2 (by omega)
  simp [hlt,]
  refine call_f (w_spec_l1In s.length 1 4) (by simp) rfl fun hs1 hh1=>?_
  have e : inR (s.length : Int) 1 4 = decide (1 <= s.length /\ s.length <= 4):=by
   simp only [inR,<- Bool.decide_and]; congr 1; apply propext; omega
  rw [e,nameOk_ok hd]
  simp
theorem w_impl_isSetOf (l : List Int) (n : Int) : VC Tryz.prog 130 [.d (pS cI l),.d (.int .i64 n)] (fun _ r=>r = .d (.bool (setOf l n))):=by
 refine VC.ofL EP s130 (by kernel_rfl) Tryz.func130 (by rfl) (by kernel_rfl) (by simp [Tryz.f130]) (by simp [Tryz.f130]) s130_ok fun B hl=>?_
 simp [pS,maxLen] at hl
 simp [Tryz.f130,]
 refine loop_rule (X:=Nat) (SetTo l n) (fun i=>[(0,.d (.pl (l.map cI))),(1,.d (.int .i64 n)),(7,.d (.pl (l.map cI))),(8,.d (.int .i64 l.length)),(9,.d (.int .i64 i))]) (fun _=>[]) (fun i=>l.length - i) 0 .zero (by simp) (by simp) ?_
 intro i hs t m hi hh
 have hil:=hi.le
 by_cases hlt : i < l.length
 ·have hwi:=wr1 (i:=i) (by omega)
  simp [hlt,]
  refine call_f (w_impl_within l[i] 0 (IntKind.i64.wrap (n - 1))) (by simp) rfl fun hs1 hh1=>?_
  simp at hh1
  cases h1 : inR l[i] 0 (IntKind.i64.wrap (n - 1))
  ·simp [setOf_bad1 hlt h1]
  simp [hil,<- List.map_take,]
  refine call_f (w_impl_hasInt (l.take i) l[i]) (by simp) rfl fun hs2 hh2=>?_
  simp at hh2
  by_cases h2 : l[i] ∈ l.take i
  ·simp [h2,setOf_bad2 hlt h2]
  simp [h2,hwi,]
  exact back (i + 1) (hi.step hlt h1 h2) (by omega) rfl (by simp <;> omega) (by simp) (by simp)
 ·have hd:=hi.done (by omega)
  simp [hlt,hd]
end
end Go.Proofs.YtglilmkmkdkedaaGreatDoor
namespace Go.Proofs.YtglilmkmkdkedaaGreatDoor
open Go.Vs Go.Proofs Go
set_option maxRecDepth 100000
set_option maxHeartbeats 1000000
section
attribute [local simp] plI_id plStr_id map_plI map_plStr pS cP cI cStr cU8 cB eAtom
theorem w_spec_IsValidQuery (q : PQuery) (hst : ∀ a ∈ q.atoms,a.rel.length <= maxLen) : VC Tryz.prog 80 [.agg ((eQuery q).map V.d)] (fun _ r=>r = .d (.bool (queryOk q))):=by
 refine VC.ofL EP s80 (by kernel_rfl) Tryz.func80 (by rfl) (by kernel_rfl) (by simp [Tryz.f80]) (by simp [Tryz.f80]) s80_ok fun B hl=>?_
 obtain ⟨n,ats,out⟩:=q
 simp only at hst
 simp [pS,maxLen,eQuery] at hl
 simp [Tryz.f80,s80_11,s80_26,s80_11,s80_26,eQuery]
 refine call_f (w_spec_l1In n 1 5) (by simp) rfl fun hs1 hh1=>?_
 simp at hh1
 cases h1 : inR n 1 5
 ·simp [queryOk_n (q:=⟨n,ats,out⟩) h1]
 have hn : 1 <= n /\ n <= 5:=by simpa [inR] using h1
 simp [s80_11,s80_26,eQuery]
 refine call_f (w_spec_l1In ats.length 1 4) (by simp) rfl fun hs2 hh2=>?_
 simp at hh2
 cases h2 : inR (ats.length : Int) 1 4
 ·simp [queryOk_a (q:=⟨n,ats,out⟩) h2]
 have ha4 : ats.length <= 4:=by simp [inR] at h2; omega
 by_cases h3 : n < out.length
 ·have hso : setOf out n = false:=by
   cases hs : setOf out n
   ·rfl
   ·have:=setOf_len hn hs; omega
  simp [h3,queryOk_o (q:=⟨n,ats,out⟩) hso]
 have hrw : ∀ i (h : i < ats.length),ats[i].rel.length <= maxLen:=fun i h=>hst _ (List.getElem_mem h)
 have hvl : ∀ i (h : i < ats.length),ats[i].vars.length <= 9223372036854775807:=fun i h=>(hl.1.2 _ (List.getElem_mem h))
 simp [h3]
 refine loop_rule (X:=Nat) (AtI n ats) (fun i=>[(1,.ptr 1 0 0),(3,.d (.int .i64 i))]) (fun _=>[(1,some (.box [.d (.int .i64 n),.d (.pl (ats.map eAtom)),.d (.pl (out.map cI))]))]) (fun i=>ats.length - i) 0 .zero (by simp) (by simp) ?_
 intro i hs t m hi hh
 have hil:=hi.le
 by_cases hlt : i < ats.length
 ·have hwi:=wr1 (i:=i) (by omega)
  have hbad : atomOk n ats[i] = false -> queryOk ⟨n,ats,out⟩ = false:=fun h=>queryOk_at (q:=⟨n,ats,out⟩) hlt h
  simp [hlt,s80_11,s80_26,]
  refine call_f (w_spec_IsValidName ats[i].rel (hrw i hlt)) (by simp) rfl fun hs3 hh3=>?_
  simp at hh3
  cases h4 : nameOk ats[i].rel
  ·simp [hbad (by simp only [atomOk,h4,Bool.false_and])]
  simp [hlt,s80_11,s80_26,]
  refine call_f (w_spec_l1In ats[i].vars.length 1 5) (by simp) rfl fun hs4 hh4=>?_
  simp at hh4
  cases h5 : inR (ats[i].vars.length : Int) 1 5
  ·simp [hbad (by simp only [atomOk,h5,Bool.false_and,Bool.and_false])]
  simp [s80_11,s80_26,]
  refine loop_rule (X:=Nat) (AtK n ats[i].vars) (fun k=>[(1,.ptr 1 0 0),(3,.d (.int .i64 i)),(4,.d (.int .i64 k))]) (fun _=>[(1,some (.box [.d (.int .i64 n),.d (.pl (ats.map eAtom)),.d (.pl (out.map cI))]))]) (fun k=>ats[i].vars.length - k) 0 .zero (by simp) (by simp) ?_
  intro k hs t m hk hh
  have hkl:=hk.le
  have hvi:=hvl i hlt
  by_cases hkt : k < ats[i].vars.length
  ·have hwk:=wr1 (i:=k) (by omega)
   cases h6 : inR ats[i].vars[k] 0 (IntKind.i64.wrap (n - 1))
   ·have hq:=hbad (atomOk_bad hkt h6)
    simp [hlt,hkt,s80_11,s80_26,]
    refine call_f (VC.to (w_spec_l1In ats[i].vars[k] 0 (IntKind.i64.wrap (n - 1))) (show _ = V.d (.bool false) by rw [h6])) (by simp) rfl fun hs5 hh5=>?_
    simp [hq]
   ·refine anyQ fun Q=>?_
    simp [hlt,hkt,s80_11,s80_26,]
    refine call_f (VC.to (w_spec_l1In ats[i].vars[k] 0 (IntKind.i64.wrap (n - 1))) (show _ = V.d (.bool true) by rw [h6])) (by simp) rfl fun hs5 hh5=>?_
    simp at hh5
    simp [hwk,s80_11,s80_26,]
    exact back (k + 1) (hk.step hkt h6) (by omega) rfl (by simp <;> omega) (by simp) (by simp)
  ·have hao:=atomOk_done hk (by omega) h4 h5
   simp [hlt,hkt,hwi,s80_11,s80_26,]
   exact back (i + 1) (hi.step hlt hao) (by omega) rfl (by simp <;> omega) (by simp) (by simp)
 have hall:=allTo_done hi.ok (by omega)
 simp [hlt,s80_11,s80_26,]
 refine loop_rule (X:=Nat) (UsTo n ats) (fun v=>[(1,.ptr 1 0 0),(5,.d (.int .i64 v))]) (fun _=>[(1,some (.box [.d (.int .i64 n),.d (.pl (ats.map eAtom)),.d (.pl (out.map cI))]))]) (fun v=>n.toNat - v) 0 .zero (by simp) (by simp) ?_
 intro v hs t m hv hh
 have hvn:=hv.le
 by_cases hvt : v < n.toNat
 ·have hwv:=wr1 (i:=v) (by omega)
  have hvt' : (v : Int) < n:=by omega
  simp [hvt',s80_11,s80_26,]
  refine loop_rule (X:=Nat) (fun i=>i <= ats.length) (fun i=>[(1,.ptr 1 0 0),(5,.d (.int .i64 v)),(6,.d (.bool (hasTo ats v i))),(7,.d (.int .i64 i))]) (fun _=>[(1,some (.box [.d (.int .i64 n),.d (.pl (ats.map eAtom)),.d (.pl (out.map cI))]))]) (fun i=>ats.length - i) 0 (by simp) (by simp [hasTo_zero]) (by simp) ?_
  intro i hs t m hi hh
  by_cases hlt : i < ats.length
  ·have hwi:=wr1 (i:=i) (by omega)
   have hst:=hasTo_step (v:=(v : Int)) hlt
   refine anyQ fun Q=>?_
   cases h6 : hasTo ats v i
   ·rw [h6,Bool.false_or] at hst
    simp [hlt,s80_11,s80_26,]
    refine call_f (w_spec_ContainsVariable ats[i] v) (by simp) rfl fun hs5 hh5=>?_
    simp at hh5
    simp only [List.contains_eq_mem] at hst
    simp [hwi,s80_11,s80_26,]
    exact back (i + 1) (by omega) (by omega) rfl (by simp <;> omega) (by simp [hst]) (by simp)
   ·rw [h6,Bool.true_or] at hst
    simp [hlt,hwi,s80_11,s80_26,]
    exact back (i + 1) (by omega) (by omega) rfl (by simp <;> omega) (by simp [hst]) (by simp)
  ·have hha:=hasTo_all (l:=ats) (v:=(v : Int)) (i:=i) (by omega)
   cases h7 : (varsIn ats).contains (v : Int)
   ·rw [h7] at hha
    simp [hlt,hha,queryOk_u (q:=⟨n,ats,out⟩) (usesAll_bad hvt h7),s80_11,s80_26,]
   ·rw [h7] at hha
    simp [hlt,hha,hwv,s80_11,s80_26,]
    exact back (v + 1) (hv.step hvt h7) (by omega) rfl (by simp <;> omega) (by simp) (by simp)
 have hus:=hv.done (by omega)
 have hvt' : ¬ (v : Int) < n:=by omega
 simp [hvt',s80_11,s80_26,]
 refine loop_rule (X:=Nat) (SetTo out n) (fun i=>[(1,.ptr 1 0 0),(8,.d (.int .i64 i))]) (fun _=>[(1,some (.box [.d (.int .i64 n),.d (.pl (ats.map eAtom)),.d (.pl (out.map cI))]))]) (fun i=>out.length - i) 0 .zero (by simp) (by simp) ?_
 intro i hs t m hi hh
 have hil:=hi.le
 by_cases hlt : i < out.length
 ·have hwi:=wr1 (i:=i) (by omega)
  simp [hlt,s80_11,s80_26,]
  refine call_f (w_spec_l1In out[i] 0 (IntKind.i64.wrap (n - 1))) (by simp) rfl fun hs5 hh5=>?_
  simp at hh5
  cases h6 : inR out[i] 0 (IntKind.i64.wrap (n - 1))
  ·simp [queryOk_o (q:=⟨n,ats,out⟩) (setOf_bad1 hlt h6)]
  simp [hil,hlt,<- List.map_take,s80_11,s80_26,]
  refine call_f (w_spec_l7Find (out.take i) out[i]) (by simp) rfl fun hs6 hh6=>?_
  simp at hh6
  have hge:=idxL_ge (out.take i) out[i]
  by_cases h7 : out[i] ∈ out.take i
  ·have h8 : 0 <= idxL (out.take i) out[i]:=by simpa [h7] using hge
   simp [h8,queryOk_o (q:=⟨n,ats,out⟩) (setOf_bad2 hlt h7)]
  ·have h8 : ¬ 0 <= idxL (out.take i) out[i]:=by simpa [h7] using hge
   simp [h8,hwi,s80_11,s80_26,]
   exact back (i + 1) (hi.step hlt h6 h7) (by omega) rfl (by simp <;> omega) (by simp) (by simp)
 ·have hd:=hi.done (by omega)
  simp [hlt,queryOk_all (q:=⟨n,ats,out⟩) h1 h2 hd hall hus]
end
end Go.Proofs.YtglilmkmkdkedaaGreatDoor
namespace Go.Proofs.YtglilmkmkdkedaaGreatDoor
open Go.Vs Go.Proofs Go
set_option maxRecDepth 100000
set_option maxHeartbeats 1000000
section
attribute [local simp] plI_id plStr_id map_plI map_plStr pS cP cI cStr cU8 cB eAtom
theorem w_impl_IsValidQuery (q : PQuery) : VC Tryz.prog 94 [.agg ((eQuery q).map V.d)] (fun _ r=>r = .d (.bool (queryOk q))):=by
 refine VC.ofL EP s94 (by kernel_rfl) Tryz.func94 (by rfl) (by kernel_rfl) (by simp [Tryz.f94]) (by simp [Tryz.f94]) s94_ok fun B hl=>?_
 obtain ⟨n,ats,out⟩:=q
 simp [pS,maxLen,eQuery] at hl
 simp [Tryz.f94,eQuery]
 refine call_f (w_impl_within n 1 5) (by simp) rfl fun hs1 hh1=>?_
 simp at hh1
 cases h1 : inR n 1 5
 ·simp [queryOk_n (q:=⟨n,ats,out⟩) h1]
 have hn : 1 <= n /\ n <= 5:=by simpa [inR] using h1
 obtain ⟨N,rfl⟩ : ∃ N : Nat,n = (N : Int):=⟨n.toNat,by omega⟩
 simp [eQuery]
 refine call_f (w_impl_within ats.length 1 4) (by simp) rfl fun hs2 hh2=>?_
 simp at hh2
 cases h2 : inR (ats.length : Int) 1 4
 ·simp [queryOk_a (q:=⟨N,ats,out⟩) h2]
 have ha4 : ats.length <= 4:=by simp [inR] at h2; omega
 simp [eQuery]
 refine call_f (w_impl_isSetOf out N) (by simp) rfl fun hs3 hh3=>?_
 simp at hh3
 cases h3 : setOf out N
 ·simp [queryOk_o (q:=⟨N,ats,out⟩) h3]
 have hvl : ∀ i (h : i < ats.length),ats[i].vars.length <= 9223372036854775807:=fun i h=>(hl.1.2 _ (List.getElem_mem h))
 have hL : LenOk 1 N:=⟨by omega,by simp only [maxLen]; omega⟩
 have hwN : IntKind.i64.wrap ((N : Int) - 1) = N - 1:=wrap64_of (by omega) (by omega)
 simp [hL,]
 refine loop_rule (X:=Nat) (AtI N ats) (fun i=>[(3,.d (.int .i64 N)),(4,.own 31 0 N),(33,.d (.pl (ats.map eAtom))),(34,.d (.int .i64 ats.length)),(35,.d (.int .i64 i))])
  (fun i=>[(31,some (.row 4 1 ((usedL N (varsIn (ats.take i))).map cB)))]) (fun i=>ats.length - i) 0 .zero (by simp) (by simp [usedL_nil,varsIn]) ?_
 intro i hs t m hi hh
 have hil:=hi.le
 by_cases hlt : i < ats.length
 ·have hwi:=wr1 (i:=i) (by omega)
  have hbad : atomOk N ats[i] = false -> queryOk ⟨N,ats,out⟩ = false:=fun h=>queryOk_at (q:=⟨N,ats,out⟩) hlt h
  have hvs : varsIn (ats.take (i + 1)) = varsIn (ats.take i) ++ ats[i].vars:=by
   rw [varsIn,List.take_succ_eq_append_getElem hlt,List.flatMap_append]; simp only [varsIn,List.flatMap_cons,List.flatMap_nil,List.append_nil]
  simp [hlt,]
  refine call_f (w_impl_IsValidName ats[i].rel) (by simp) rfl fun hs3 hh3=>?_
  simp at hh3
  cases h4 : nameOk ats[i].rel
  ·simp [hbad (by simp only [atomOk,h4,Bool.false_and])]
  simp []
  refine call_f (w_impl_within ats[i].vars.length 1 5) (by simp) rfl fun hs4 hh4=>?_
  simp at hh4
  cases h5 : inR (ats[i].vars.length : Int) 1 5
  ·simp [hbad (by simp only [atomOk,h5,Bool.false_and,Bool.and_false])]
  simp []
  obtain ⟨us,hus⟩ : ∃ us,us = varsIn (ats.take i):=⟨_,rfl⟩
  rw [<- hus] at hvs ⊢
  obtain ⟨vs,hvse⟩ : ∃ vs,vs = ats[i].vars:=⟨_,rfl⟩
  have hvi:=hvl i hlt
  rw [<- hvse] at hvs hvi h5
  refine loop_rule (X:=Nat) (AtK N vs) (fun k=>[(3,.d (.int .i64 N)),(4,.own 31 0 N),(33,.d (.pl (ats.map eAtom))),(34,.d (.int .i64 ats.length)),(35,.d (.int .i64 i)),(51,.d (.pl (vs.map cI))),(52,.d (.int .i64 vs.length)),(53,.d (.int .i64 k))])
   (fun k=>[(31,some (.row 4 1 ((usedL N (us ++ vs.take k)).map cB)))]) (fun k=>vs.length - k) 0 .zero (by simp [hvse]) (by simp [hus]) ?_
  intro k hs t m hk hh
  have hkl:=hk.le
  by_cases hkt : k < vs.length
  ·have hwk:=wr1 (i:=k) (by omega)
   simp [hkt,]
   refine call_f (w_impl_within vs[k] 0 (IntKind.i64.wrap ((N : Int) - 1))) (by simp) rfl fun hs5 hh5=>?_
   simp at hh5
   cases h6 : inR vs[k] 0 (IntKind.i64.wrap ((N : Int) - 1))
   ·have hq:=hbad (atomOk_bad (k:=k) (by rw [<- hvse]; exact hkt) (by simpa only [<- hvse] using h6))
    simp [hq]
   ·have hst:=hk.step hkt h6
    rw [hwN] at h6
    simp only [inR,Bool.and_eq_true,decide_eq_true_eq] at h6
    obtain ⟨p,hp⟩ : ∃ p : Nat,vs[k] = (p : Int):=⟨vs[k].toNat,by omega⟩
    have hpN : p < N:=by omega
    have hset : usedL N (us ++ vs.take (k + 1)) = (usedL N (us ++ vs.take k)).set p true:=by
     rw [usedL_snoc hpN,List.append_assoc,List.take_succ_eq_append_getElem hkt,hp]
    simp [hp,hpN,hwk,]
    exact back (k + 1) hst (by omega) rfl (by simp <;> omega) (by simp) (by simp [hset])
  ·have hao:=atomOk_done (n:=N) (a:=ats[i]) (k:=k) (by rw [<- hvse]; exact hk) (by rw [<- hvse]; omega) h4 (by rw [<- hvse]; exact h5)
   have hd : vs.take k = vs:=List.take_of_length_le (by omega)
   simp [hkt,hwi,hd,]
   exact back (i + 1) (hi.step hlt hao) (by omega) rfl (by simp <;> omega) (by simp) (by simp [hvs])
 have hall:=allTo_done hi.ok (by omega)
 have hd : ats.take i = ats:=List.take_of_length_le (by omega)
 rw [hd]
 simp [hlt,]
 have hu:=usesAll_iff (n:=(N : Int)) (l:=ats)
 rw [Int.toNat_natCast] at hu
 refine loop_rule (X:=Nat) (fun j=>j <= N /\ AllTo id (usedL N (varsIn ats)) j) (fun j=>[(67,.own 31 0 N),(68,.d (.int .i64 N)),(69,.d (.int .i64 j))]) (fun _=>[(31,some (.row 4 1 ((usedL N (varsIn ats)).map cB)))]) (fun j=>N - j) 0 ⟨by simp,allTo_zero⟩ (by simp) (by simp) ?_
 intro j hs t m hj hh
 by_cases hjt : j < N
 ·have hwj:=wr1 (i:=j) (by omega)
  have hjl : j < (usedL N (varsIn ats)).length:=by simpa using hjt
  cases h6 : (usedL N (varsIn ats))[j]
  ·have hq : queryOk ⟨N,ats,out⟩ = false:=queryOk_u (q:=⟨N,ats,out⟩) (by rw [hu]; exact all_bad (p:=id) hjl h6)
   simp [hjt,h6,hq,]
  ·simp [hjt,h6,hwj,]
   exact back (j + 1) ⟨by omega,allTo_step hj.2 hjl h6⟩ (by omega) rfl (by simp <;> omega) (by simp) (by simp)
 ·have hus : usesAll N ats = true:=by rw [hu]; exact allTo_done hj.2 (by simp; omega)
  simp [hjt,queryOk_all (q:=⟨N,ats,out⟩) h1 h2 h3 hall hus]
end
end Go.Proofs.YtglilmkmkdkedaaGreatDoor
namespace Go.Proofs.YtglilmkmkdkedaaGreatDoor
open Go.Vs Go.Proofs Go
set_option maxRecDepth 100000
set_option maxHeartbeats 1000000
section
attribute [local simp] plI_id plStr_id map_plI map_plStr pS cP cI cStr cU8 cB eTab eReln
theorem w_impl_IsValidDatabase (d : PDb) : VC Tryz.prog 98 [.agg ((eDb d).map V.d)] (fun _ r=>r = .d (.bool (dbOk d))):=by
 refine VC.ofL EP s98 (by kernel_rfl) Tryz.func98 (by rfl) (by kernel_rfl) (by simp [Tryz.f98]) (by simp [Tryz.f98]) s98_ok fun B hl=>?_
 obtain ⟨l⟩:=d
 by_cases h6 : (6 : Int) < l.length
 ·have : dbOk ⟨l⟩ = false:=by
   have : ¬ l.length <= 6:=by omega
   simp only [dbOk,this,decide_false,Bool.false_and]
  simp [Tryz.f98,s98_6,s98_6,eDb,h6,this]
 simp [Tryz.f98,s98_6,s98_6,eDb,h6]
 refine loop_rule (X:=Nat) (DbTo l) (fun i=>[(1,.ptr 1 0 0),(10,.d (.pl (l.map eTab))),(11,.d (.int .i64 l.length)),(12,.d (.int .i64 i))]) (fun _=>[(1,some (.box [.d (.pl (l.map eTab))]))]) (fun i=>l.length - i) 0 .zero (by simp) (by simp) ?_
 intro i hs t m hi hh
 have hil:=hi.le
 by_cases hlt : i < l.length
 case neg=>
  have hd:=hi.done (by omega)
  simp [hlt,hd]
  omega
 have hwi:=wr1 (i:=i) (by omega)
 have hat:=dbAt_eq hlt
 have hbad : dbAt l i = false -> dbOk ⟨l⟩ = false:=dbOk_bad hlt
 obtain ⟨nm,ar,rows,hT⟩ : ∃ nm ar rows,l[i] = ⟨nm,⟨ar,rows⟩⟩:=⟨_,_,_,rfl⟩
 rw [hT] at hat
 simp only [tabOk] at hat
 simp [hlt,hT,s98_6,]
 refine call_f (w_impl_IsValidName nm) (by simp) rfl fun hs1 hh1=>?_
 simp at hh1
 cases h1 : nameOk nm
 ·have hb:=hbad (by rw [hat,h1]; simp)
  simp [hb,s98_6,]
 by_cases h0 : i = 0
 ·subst h0
  have hwi0 : IntKind.i64.wrap 1 = 1:=by simpa using hwi
  simp [hT,s98_6,]
  refine call_f (w_impl_IsValidRelation ⟨ar,rows⟩) (by simp [eReln]) rfl fun hs2 hh2=>?_
  simp at hh2
  cases h3 : rowsOk ar rows
  ·have hb:=hbad (by rw [hat,h3]; simp)
   simp [hb,s98_6,]
  by_cases h4 : ar < 1
  ·have hb := hbad (by rw [hat]; have : ¬ 1 ≤ ar := by omega
                       simp [this])
   simp [h4,hb,hT,s98_6,]
  by_cases h5 : (16 : Int) < rows.length
  ·have hb := hbad (by rw [hat]; have : ¬ rows.length ≤ 16 := by omega
                       simp [this])
   simp [h4,h5,hb,hT,s98_6,]
  have hok : dbAt l 0 = true:=by
   have a4 : 1 <= ar:=by omega
   have a5 : rows.length <= 16:=by omega
   rw [hat,h1,h3]; simp [a4,a5]
  simp [h4,h5,hT,hwi0,s98_6,]
  exact back 1 (hi.step hlt hok) (by omega) rfl (by simp <;> omega) (by simp) (by simp)
 ·have h0' : 0 < i:=by omega
  have hw : IntKind.i64.wrap ((i : Int) - 1) = ((i - 1 : Nat) : Int):=by rw [wrap64_of (by omega) (by omega)]; omega
  have hlt1 : i - 1 < l.length:=by omega
  cases h2 : Op.bytesLess (l[i - 1]'(by omega)).name nm
  ·have hb:=hbad (by rw [hat,h2]; simp [h0])
   simp [h0,h0',hw,hlt1,hT,h2,hb,s98_6,]
  simp [h0,h0',hw,hlt1,hT,h2,s98_6,]
  refine call_f (w_impl_IsValidRelation ⟨ar,rows⟩) (by simp [eReln]) rfl fun hs2 hh2=>?_
  simp at hh2
  cases h3 : rowsOk ar rows
  ·have hb:=hbad (by rw [hat,h3]; simp)
   simp [hb,s98_6,]
  by_cases h4 : ar < 1
  ·have hb := hbad (by rw [hat]; have : ¬ 1 ≤ ar := by omega
                       simp [this])
   simp [h4,hb,hT,s98_6,]
  by_cases h5 : (16 : Int) < rows.length
  ·have hb := hbad (by rw [hat]; have : ¬ rows.length ≤ 16 := by omega
                       simp [this])
   simp [h4,h5,hb,hT,s98_6,]
  have hok : dbAt l i = true:=by
   have a4 : 1 <= ar:=by omega
   have a5 : rows.length <= 16:=by omega
   rw [hat,h1,h3]; simp [a4,a5,h2]
  simp [h4,h5,hT,hwi,s98_6,]
  exact back (i + 1) (hi.step hlt hok) (by omega) rfl (by simp <;> omega) (by simp) (by simp)
theorem w_spec_IsValidDatabase (d : PDb) (hst : ∀ t ∈ d.tabs,t.name.length <= maxLen) : VC Tryz.prog 81 [.agg ((eDb d).map V.d)] (fun _ r=>r = .d (.bool (dbOk d))):=by
 refine VC.ofL EP s81 (by kernel_rfl) Tryz.func81 (by rfl) (by kernel_rfl) (by simp [Tryz.f81]) (by simp [Tryz.f81]) s81_ok fun B hl=>?_
 obtain ⟨l⟩:=d
 simp [pS,maxLen,eDb] at hl
 simp only at hst
 simp [Tryz.f81,s81_5,s81_5,eDb]
 refine loop_rule (X:=Nat) (DbTo l) (fun i=>[(1,.ptr 1 0 0),(3,.d (.int .i64 i))]) (fun _=>[(1,some (.box [.d (.pl (l.map eTab))]))]) (fun i=>l.length - i) 0 .zero (by simp) (by simp) ?_
 intro i hs t m hi hh
 have hil:=hi.le
 by_cases hlt : i < l.length
 case neg=>
  have hd:=hi.done (by omega)
  simp [hlt,hd]
  omega
 have hwi:=wr1 (i:=i) (by omega)
 have hat:=dbAt_eq hlt
 have hbad : dbAt l i = false -> dbOk ⟨l⟩ = false:=dbOk_bad hlt
 obtain ⟨nm,ar,rows,hT⟩ : ∃ nm ar rows,l[i] = ⟨nm,⟨ar,rows⟩⟩:=⟨_,_,_,rfl⟩
 rw [hT] at hat
 simp only [tabOk] at hat
 have hnl : nm.length <= maxLen:=by have:=hst l[i] (List.getElem_mem hlt); rwa [hT] at this
 simp [hlt,hT,s81_5,]
 refine call_f (w_spec_IsValidName nm hnl) (by simp) rfl fun hs1 hh1=>?_
 simp at hh1
 cases h1 : nameOk nm
 ·have hb:=hbad (by rw [hat,h1]; simp)
  simp [hb,s81_5,]
 by_cases h0 : i = 0
 ·subst h0
  have hwi0 : IntKind.i64.wrap 1 = 1:=by simpa using hwi
  simp [hT,s81_5,]
  refine call_f (w_spec_IsValidRelation ⟨ar,rows⟩) (by simp [eReln]) rfl fun hs2 hh2=>?_
  simp at hh2
  cases h3 : rowsOk ar rows
  ·have hb:=hbad (by rw [hat,h3]; simp)
   simp [hb,s81_5,]
  by_cases h5 : (16 : Int) < rows.length
  ·have hb := hbad (by rw [hat]; have : ¬ rows.length ≤ 16 := by omega
                       simp [this])
   simp [h5,hb,hT,s81_5,]
  by_cases h4 : ar < 1
  ·have hb := hbad (by rw [hat]; have : ¬ 1 ≤ ar := by omega
                       simp [this])
   simp [h4,h5,hb,hT,s81_5,]
  have hok : dbAt l 0 = true:=by
   have a4 : 1 <= ar:=by omega
   have a5 : rows.length <= 16:=by omega
   rw [hat,h1,h3]; simp [a4,a5]
  simp [h4,h5,hT,hwi0,s81_5,]
  exact back 1 (hi.step hlt hok) (by omega) rfl (by simp <;> omega) (by simp) (by simp)
 ·have h0' : 0 < i:=by omega
  have hw : IntKind.i64.wrap ((i : Int) - 1) = ((i - 1 : Nat) : Int):=by rw [wrap64_of (by omega) (by omega)]; omega
  have hlt1 : i - 1 < l.length:=by omega
  cases h2 : Op.bytesLess (l[i - 1]'(by omega)).name nm
  ·have hb:=hbad (by rw [hat,h2]; simp [h0])
   simp [h0,h0',hw,hlt1,hT,h2,hb,s81_5,]
  simp [h0,h0',hw,hlt1,hT,h2,s81_5,]
  refine call_f (w_spec_IsValidRelation ⟨ar,rows⟩) (by simp [eReln]) rfl fun hs2 hh2=>?_
  simp at hh2
  cases h3 : rowsOk ar rows
  ·have hb:=hbad (by rw [hat,h3]; simp)
   simp [hb,s81_5,]
  by_cases h5 : (16 : Int) < rows.length
  ·have hb := hbad (by rw [hat]; have : ¬ rows.length ≤ 16 := by omega
                       simp [this])
   simp [h5,hb,hT,s81_5,]
  by_cases h4 : ar < 1
  ·have hb := hbad (by rw [hat]; have : ¬ 1 ≤ ar := by omega
                       simp [this])
   simp [h4,h5,hb,hT,s81_5,]
  have hok : dbAt l i = true:=by
   have a4 : 1 <= ar:=by omega
   have a5 : rows.length <= 16:=by omega
   rw [hat,h1,h3]; simp [a4,a5,h2]
  simp [h4,h5,hT,hwi,s81_5,]
  exact back (i + 1) (hi.step hlt hok) (by omega) rfl (by simp <;> omega) (by simp) (by simp)
end
end Go.Proofs.YtglilmkmkdkedaaGreatDoor
namespace Go.Proofs.YtglilmkmkdkedaaGreatDoor
open Go.Vs Go.Proofs Go
set_option maxRecDepth 100000
set_option maxHeartbeats 1000000
theorem w_spec_l5Copy (r : PReln) (hb : r.rows.length <= 4294967296) (hb2 : ∀ x ∈ r.rows,x.length <= 4294967296) : VC Tryz.prog 123 [.agg ((eReln r).map .d)] (fun _ v=>v = .agg ((eReln r).map .d)):=by
 obtain ⟨ar,l⟩:=r
 simp only at hb hb2
 refine VC.ofL EP s123 (by kernel_rfl) Tryz.func123 (by rfl) (by kernel_rfl) (by simp [Tryz.f123]) (by simp [Tryz.f123]) s123_ok fun B hl=>?_
 simp [Tryz.f123,s123_5,eReln]
 refine loop_ruleL (X:=Nat) (fun i _=>i <= l.length) (fun i=>[(1,.ptr 1 0 0),(2,.ptr 2 0 0),(3,.ptr 3 0 0),(4,.d (.int .i64 i))])
  (fun i=>[(1,some (.box [.d (.int .i64 ar),.d (.pl (l.map (cP cI)))])),(2,some (.box [.d (.int .i64 0),.d (.sl none none [])])),(3,some (.box [.d (.int .i64 ar),.own 25 0 i])),(25,some (.row 26 1 ((l.take i).map (cP cI))))]) (fun i=>l.length - i) ?_ ?_
 ·refine (lead_box 3 1 25 26 1 [.d (.int .i64 ar),.d (.sl none none [])] (by omega) (by omega) (by omega) (by simp) rfl).bind ?_
  rintro _ rfl
  exact Lead.of ⟨0,by simp,rfl,rfl,Nat.le_refl _,by simp,by simp⟩
 ·intro i hs t m hi hh
  by_cases hlt : i < l.length
  ·have hwi:=wr1 (i:=i) (by omega)
   have hL : LenOk 24 (i + 1):=⟨by omega,by simp only [maxLen]; omega⟩
   have hx:=hb2 _ (List.getElem_mem hlt)
   have hL2 : LenOk 8 l[i].length:=⟨by omega,by simp only [maxLen]; omega⟩
   simp [hlt,hL,hL2,hwi,List.take_of_length_le,show min i l.length = i by omega,s123_5,]
   refine back2 (i + 1) (by omega) (by omega) rfl (by simp <;> omega) (by simp) ?_
   simp
   rw [List.take_succ_eq_append_getElem (by simpa using hlt)]; simp
  ·have hn : i = l.length:=by omega
   subst hn
   simp [List.take_of_length_le]
end Go.Proofs.YtglilmkmkdkedaaGreatDoor
namespace Go.Proofs.YtglilmkmkdkedaaGreatDoor
open Go.Vs Go.Proofs Go
set_option maxRecDepth 100000
set_option maxHeartbeats 1000000
section
attribute [local simp] plI_id plStr_id map_plI map_plStr pS cP cI cStr cU8 cB
theorem q_impl_copyInts (l : List Int) (hb : l.length <= 4294967296) : VC Tryz.prog 117 [.d (pS cI l)] (fun _ r=>r = .d (pS cI l)):=by
 refine VC.ofL EP s117 (by kernel_rfl) Tryz.func117 (by rfl) (by kernel_rfl) (by simp [Tryz.f117]) (by simp [Tryz.f117]) s117_ok fun B hl=>?_
 have hL : LenOk 8 l.length:=⟨by omega,by simp only [maxLen]; omega⟩
 simp [Tryz.f117,hL,List.take_of_length_le]
theorem q_impl_copyRows (l : List (List Int)) (hb : l.length <= 4294967296) (hb2 : ∀ r ∈ l,r.length <= 4294967296) : VC Tryz.prog 137 [.d (pS (cP cI) l)] (fun _ r=>r = .d (pS (cP cI) l)):=by
 refine VC.ofL EP s137 (by kernel_rfl) Tryz.func137 (by rfl) (by kernel_rfl) (by simp [Tryz.f137]) (by simp [Tryz.f137]) s137_ok fun B hl=>?_
 simp [Tryz.f137,]
 refine loop_ruleL (X:=Nat) (fun i _=>i <= l.length) (fun i=>[(3,.own 16 0 i),(6,.d (.pl (l.map (cP cI)))),(7,.d (.int .i64 l.length)),(8,.d (.int .i64 i))]) (fun i=>[(16,some (.row 26 1 ((l.take i).map (cP cI))))]) (fun i=>l.length - i) ?_ ?_
 ·refine (lead_slot 3 16 26 1 (by omega) (by omega) (by simp)).bind ?_
  rintro _ rfl
  exact Lead.of ⟨0,by omega,rfl,rfl,Nat.le_refl _,by simp,by simp⟩
 intro i hs t m hi hh
 by_cases hlt : i < l.length
 ·have hwi:=wr1 (i:=i) (by omega)
  have hL : LenOk 24 (i + 1):=⟨by omega,by simp only [maxLen]; omega⟩
  have hmn : min i l.length = i:=by omega
  have hst2 : List.take (i + 1) (List.map (cP cI) l) = List.take i (List.map (cP cI) l) ++ [cP cI l[i]]:=by
   rw [List.take_succ_eq_append_getElem (by simpa using hlt)]; simp
  simp [hlt,]
  refine call_p (q_impl_copyInts l[i] (hb2 _ (List.getElem_mem hlt))) (by simp) fun hs1 hh1 hl1=>?_
  simp at hh1
  simp [hwi,hL,hmn,]
  exact back2 (i + 1) (by omega) (by omega) rfl (by simp <;> omega) (by simp) (by simp [hst2])
 ·have hn : i = l.length:=by omega
  subst hn
  simp [List.take_of_length_le]
theorem q_impl_copyRelation (r : PReln) (hb : r.rows.length <= 4294967296) (hb2 : ∀ x ∈ r.rows,x.length <= 4294967296) : VC Tryz.prog 136 [.agg ((eReln r).map V.d)] (fun _ v=>v = .agg ((eReln r).map V.d)):=by
 refine VC.ofL EP s136 (by kernel_rfl) Tryz.func136 (by rfl) (by kernel_rfl) (by simp [Tryz.f136]) (by simp [Tryz.f136]) s136_ok fun B hl=>?_
 simp [Tryz.f136,s136_1,s136_1,eReln]
 refine call_p (q_impl_copyRows r.rows hb hb2) (by simp) fun hs1 hh1 hl1=>?_
 simp at hh1
 simp [s136_1,]
theorem w_impl_LookupRelation (d : PDb) (nm : List UInt8) : VC Tryz.prog 99 [.agg ((eDb d).map V.d),.d (.str nm)] (fun _ v=>v = .tup [.agg ((eReln (lkR d nm)).map V.d),.d (.bool (lkB d nm))]):=by
 refine VC.ofL EP s99 (by kernel_rfl) Tryz.func99 (by rfl) (by kernel_rfl) (by simp [Tryz.f99]) (by simp [Tryz.f99]) s99_ok fun B hl=>?_
 obtain ⟨l⟩:=d
 simp [Tryz.f99,eDb]
 refine call_f (w_impl_IsValidDatabase ⟨l⟩) (by simp [eDb]) rfl fun hs1 hh1=>?_
 simp at hh1
 cases h1 : dbOk ⟨l⟩
 ·obtain ⟨e1,e2⟩:=lk_no (nm:=nm) h1
  simp [e1,e2,eReln]
 have hl6:=dbOk_len h1
 simp only at hl6
 simp
 refine loop_rule (X:=Nat) (LkTo l nm) (fun i=>[(1,.d (.str nm)),(2,.ptr 2 0 0),(4,.ptr 4 0 0),(11,.d (.pl (l.map eTab))),(12,.d (.int .i64 l.length)),(13,.d (.int .i64 i))]) (fun _=>[(2,some (.box [.d (.pl (l.map eTab))])),(4,some (.box [.d (.int .i64 0),.d (.sl none none [])]))]) (fun i=>l.length - i) 0 .zero (by simp) (by simp) ?_
 intro i hs t m hi hh
 by_cases hlt : i < l.length
 ·have hwi:=wr1 (i:=i) (by omega)
  have hr:=tabOk_rel (dbOk_tab h1 (List.getElem_mem hlt))
  by_cases he : l[i].name = nm
  ·obtain ⟨e1,e2⟩:=hi.found h1 hlt he
   simp [hlt,he,eTab,eReln,]
   refine call_p (q_impl_copyRelation l[i].rel hr.1 hr.2) (by simp [eReln]) fun hs2 hh2 hl2=>?_
   simp [e1,e2,eReln]
  ·simp [hlt,he,hwi,eTab,eReln,]
   exact back (i + 1) (hi.step hlt he) (by omega) rfl (by simp <;> omega) (by simp [eTab,eReln]) (by simp [eTab,eReln])
 ·obtain ⟨e1,e2⟩:=hi.done (by omega)
  simp [hlt,e1,e2,eReln]
theorem w_spec_LookupRelation (d : PDb) (nm : List UInt8) (hst : ∀ t ∈ d.tabs,t.name.length <= maxLen) : VC Tryz.prog 79 [.agg ((eDb d).map V.d),.d (.str nm)] (fun _ v=>v = .tup [.agg ((eReln (lkR d nm)).map V.d),.d (.bool (lkB d nm))]):=by
 refine VC.ofL EP s79 (by kernel_rfl) Tryz.func79 (by rfl) (by kernel_rfl) (by simp [Tryz.f79]) (by simp [Tryz.f79]) s79_ok fun B hl=>?_
 obtain ⟨l⟩:=d
 simp [pS,maxLen,eDb] at hl
 simp [Tryz.f79,eDb]
 refine loop_rule (X:=Nat) (LkTo l nm) (fun i=>[(1,.d (.str nm)),(2,.ptr 2 0 0),(4,.ptr 4 0 0),(6,.d (.int .i64 i))]) (fun _=>[(2,some (.box [.d (.pl (l.map eTab))])),(4,some (.box [.d (.int .i64 0),.d (.sl none none [])]))]) (fun i=>l.length - i) 0 .zero (by simp) (by simp) ?_
 intro i hs t m hi hh
 by_cases hlt : i < l.length
 ·have hwi:=wr1 (i:=i) (by omega)
  simp [hlt,]
  refine call_f (w_spec_IsValidDatabase ⟨l⟩ hst) (by simp [eDb]) rfl fun hs1 hh1=>?_
  simp at hh1
  cases h1 : dbOk ⟨l⟩
  ·obtain ⟨e1,e2⟩:=lk_no (nm:=nm) h1
   simp [e1,e2,eReln,]
  have hr:=tabOk_rel (dbOk_tab h1 (List.getElem_mem hlt))
  by_cases he : l[i].name = nm
  ·obtain ⟨e1,e2⟩:=hi.found h1 hlt he
   simp [hlt,he,eTab,eReln,]
   refine call_p (w_spec_l5Copy l[i].rel hr.1 hr.2) (by simp [eReln]) fun hs2 hh2 hl2=>?_
   simp [e1,e2,eReln]
  ·simp [hlt,he,hwi,eTab,eReln,]
   exact back (i + 1) (hi.step hlt he) (by omega) rfl (by simp <;> omega) (by simp [eTab,eReln]) (by simp [eTab,eReln])
 ·obtain ⟨e1,e2⟩:=hi.done (by omega)
  simp [hlt,e1,e2,eReln,]
end
end Go.Proofs.YtglilmkmkdkedaaGreatDoor
namespace Go.Proofs.YtglilmkmkdkedaaGreatDoor
open Go.Vs Go.Proofs Go
set_option maxRecDepth 100000
set_option maxHeartbeats 1000000
section
attribute [local simp] plI_id plStr_id map_plI map_plStr
theorem e_impl_copyInts (l : List Int) (hb : l.length <= 4294967296) :
  VC Tryz.prog 117 [.d (pS cI l)] (fun n r=>∃ y : Ints,r = .d (dSl cI y) /\ plS plI y = l /\ okS okI y /\ Good (cS cI y) (whS whI y) n):=by
 refine VC.of E s117 (by kernel_rfl) Tryz.func117 (by rfl) (by kernel_rfl) (by simp [Tryz.f117]) (by simp [Tryz.f117]) s117_ok fun B=>?_
 have hL : LenOk 8 l.length:=⟨by omega,by simp only [maxLen]; omega⟩
 simp [Tryz.f117,pS,hL,cI]
 intro γ hs' h1 hg
 obtain ⟨q1,q2⟩:=gam_at hg (k:=3) (T:=3) (sz:=1) (es:=l.map cI) (by simp [cI])
 have q3:=gam_row hg (k:=3) (T:=3) (sz:=1) (es:=l.map cI) (by simp [cI])
 clear hg
 have hp : hpLL (l.map cI) = false:=hpLL_mapI l
 refine ⟨⟨γ 3,some (3,1),l⟩,by simp [dSl,List.take_of_length_le,cI],by simp [plS],⟨by simp only [maxLen]; omega,fun _ _=>trivial⟩,good_row (fun g hg=>(q1 g hg).1) (by simpa using q2) q3 ⟨by simp,by simp⟩ (by simp [whI])⟩
theorem e_impl_copyRowsT (l : List (List Int)) (hb : l.length <= 4294967296) (hb2 : ∀ r ∈ l,r.length <= 4294967296) :
  VC Tryz.prog 137 [.d (pS (cP cI) l)] (fun n r=>∃ y : Sl Ints,r = .d (dSl (cS cI) y) /\ plS (plS plI) y = l /\ okS (okS okI) y /\ Good (cS (cS cI) y) (whS (whS whI) y) n /\ y.T = some (26,1)):=by
 refine VC.of E s137 (by kernel_rfl) Tryz.func137 (by rfl) (by kernel_rfl) (by simp [Tryz.f137]) (by simp [Tryz.f137]) s137_ok fun B=>?_
 simp [Tryz.f137,pS]
 refine loop_ruleL (X:=Nat × List Ints) (CopI (cS cI) (whS whI) (okS okI) (plS plI) l B) (fun p=>[(3,.own 16 0 p.2.length),(6,.d (.pl (l.map (cP cI)))),(7,.d (.int .i64 l.length)),(8,.d (.int .i64 p.1))]) (fun p=>[(16,some (.row 26 1 (p.2.map (cS cI))))]) (fun p=>l.length - p.1) ?_ ?_
 ·refine (lead_slot 3 16 26 1 (by omega) (by omega) (by simp)).bind ?_
  rintro _ rfl
  exact Lead.of ⟨(0,[]),.zero,rfl,rfl,Nat.le_refl _,by simp,by simp⟩
 rintro ⟨i,ys⟩ hs t m hI hh
 have hle:=hI.le
 have hyl:=hI.len
 simp only at hle
 by_cases hlt : i < l.length
 ·have hwi:=wr1 (i:=i) (by omega)
  have hL : LenOk 24 (ys.length + 1):=⟨by omega,by simp only [maxLen]; omega⟩
  simp [hlt,cP,pS,]
  refine call_some (e_impl_copyInts l[i] (hb2 _ (List.getElem_mem hlt))) (by simp [pS]) (by simp) fun n hs' r hn hn' hp hr=>?_
  obtain ⟨y,rfl,hy1,hy2,hy3⟩:=hp
  simp at hn
  have hr' : ∀ g ∈ idsL (cS cI y),g < hs':=fun g hg=>hr g (by rw [idsL_cS] at hg; exact hg)
  simp [cS,dSl,hL,hwi,]
  exact back2 (i + 1,ys ++ [y]) (hI.snoc hlt hy1 hy2 (by omega) hn' hy3 hr') (by simp only; omega) rfl (by simp <;> omega) (by simp [cP,pS]) (by simp [cS,dSl])
 ·have hall:=hI.all (by omega)
  simp [hlt,]
  intro γ hs' h1 hg
  obtain ⟨q1,q2⟩:=gam_at hg (k:=16) (T:=26) (sz:=1) (es:=ys.map (cS cI)) (by simp)
  have q3:=gam_row hg (k:=16) (T:=26) (sz:=1) (es:=ys.map (cS cI)) (by simp)
  clear hg
  have hp : hpLL (ys.map (cS cI)) = false:=hpLL_mapS ys
  refine ⟨⟨γ 16,some (26,1),ys⟩,by simp [dSl,List.take_of_length_le],by simpa [plS] using hall,⟨by simp only [maxLen]; show ys.length <= _; omega,hI.ok⟩,good_row (fun g hg=>(q1 g hg).1) (by simpa using q2) q3 ⟨hI.good.nd,hI.good.lo⟩ hI.good.wh,rfl⟩
theorem e_impl_copyRows (l : List (List Int)) (hb : l.length <= 4294967296) (hb2 : ∀ r ∈ l,r.length <= 4294967296) :
  VC Tryz.prog 137 [.d (pS (cP cI) l)] (fun n r=>∃ y : Sl Ints,r = .d (dSl (cS cI) y) /\ plS (plS plI) y = l /\ okS (okS okI) y /\ Good (cS (cS cI) y) (whS (whS whI) y) n):=
 (e_impl_copyRowsT l hb hb2).weak fun _ _ ⟨y,h1,h2,h3,h4,_⟩=>⟨y,h1,h2,h3,h4⟩
end
end Go.Proofs.YtglilmkmkdkedaaGreatDoor
namespace Go.Proofs.YtglilmkmkdkedaaGreatDoor
open Go.Vs Go.Proofs Go
set_option maxRecDepth 100000
set_option maxHeartbeats 1000000
theorem w_spec_l5Sort : ∀ (n : Nat) (l : List (List Int)),l.length <= n -> l.length <= 4294967296 -> VC Tryz.prog 127 [.d (pS (cP cI) l)] (fun _ r=>r = .d (pS (cP cI) (srtU l))):=by
 intro n
 induction n with
 | zero =>
   intro l hn hb
   have : l = []:=List.length_eq_zero_iff.1 (by omega)
   subst this
   refine VC.ofL EP s127 (by kernel_rfl) Tryz.func127 (by rfl) (by kernel_rfl) (by simp [Tryz.f127]) (by simp [Tryz.f127]) s127_ok fun B hl=>?_
   simp [Tryz.f127,s127_13,srtU]
 | succ n ih=>
 intro l hn hb
 refine VC.ofL EP s127 (by kernel_rfl) Tryz.func127 (by rfl) (by kernel_rfl) (by simp [Tryz.f127]) (by simp [Tryz.f127]) s127_ok fun B hl=>?_
 by_cases h2 : l.length < 2
 ·have e : srtU l = l:=srtU_id (by
   match l,h2 with
   | [],_=>exact .nil
   | [_],_=>simp
   | _ :: _ :: _,h=>simp only [List.length_cons] at h; omega)
  simp [Tryz.f127,s127_13,show ((l.length : Int) < 2) by omega,e]
 obtain ⟨k,hk⟩ : ∃ k,k = l.length / 2:=⟨_,rfl⟩
 have hm : IntKind.i64.wrap ((l.length : Int) / 2) = (k : Int):=by rw [wrap64_of (by omega) (by omega)]; omega
 simp [Tryz.f127,s127_13,show ¬ ((l.length : Int) < 2) by omega,hm,show k <= l.length by omega]
 refine call_p (ih (l.take k) (by simp; omega) (by simp; omega)) (by simp [List.map_take]) fun hs1 hh1 _=>?_
 simp at hh1
 simp [hm,show k <= l.length by omega,List.take_of_length_le]
 refine call_p (ih (l.drop k) (by simp; omega) (by simp; omega)) (by simp [List.map_drop]) fun hs2 hh2 _=>?_
 simp at hh2
 simp
 have hst:=MI.start l k
 generalize srtU (l.take k) = a0 at hst
 generalize srtU (l.drop k) = b0 at hst
 refine loop_rule (X:=List (List Int) × List (List Int) × List (List Int)) (fun p=>MI l p.1 p.2.1 p.2.2)
  (fun p=>[(4,.d (.pl (p.1.map (cP cI)))),(5,.d (.pl (p.2.1.map (cP cI)))),(6,.own 24 0 p.2.2.length)]) (fun p=>[(24,some (.row 26 1 (p.2.2.map (cP cI))))]) (fun p=>p.1.length + p.2.1.length) (a0,b0,[]) hst (by simp) (by simp) ?_
 rintro ⟨a,b,out⟩ hs t m hI hh
 simp only at hI
 have hlen:=hI.len
 have hL24 : LenOk 24 1:=⟨by omega,by simp only [maxLen]; omega⟩
 have hpa : ∀ a : List (List Int),(0 : Int) < (a.length : Int) + 1:=fun a=>by omega
 have hpb : ∀ a : List (List Int),¬ (a.length : Int) + 1 = 0:=fun a=>by omega
 have hqa : (0 : Int) < 1:=by omega
 have hqb : ¬ (0 : Int) < -1:=by omega
 rcases a with _ | ⟨x,a⟩
 ·rcases b with _ | ⟨y,b⟩
  ·have hd:=hI.done
   subst hd
   simp [List.take_of_length_le]
  ·refine anyQ fun Q=>?_
   have hc0 : True:=trivial
   have hI':=hI.swap
   have hL:=hI'.left (by simp)
   rcases nil_or_snoc out with rfl | ⟨o,z,rfl⟩
   ·simp [hc0,hpa,hpb,hqa,hqb,List.take_of_length_le,cP,hL24,s127_13,]
    exact back ([],b,[y]) (MI.swap (hL.2 (by simp))) (by simp <;> omega) rfl (by simp <;> omega) (by simp) (by simp)
   ·simp only [List.length_append,List.length_cons,List.length_nil] at hlen
    have hw : IntKind.i64.wrap (o.length : Int) = o.length:=wrap64_of (by omega) (by omega)
    have hix : (o.map (cP cI) ++ [[D.pl (z.map cI)]])[o.length]? = some [D.pl (z.map cI)]:=by rw [List.getElem?_append_right (by simp)]; simp
    simp [hc0,hpa,hpb,hqa,hqb,List.take_of_length_le,hw,hix,cP,s127_13,]
    refine call_f (w_spec_CompareRows z y) (by simp) rfl fun hs3 hh3=>?_
    simp at hh3
    by_cases e : z = y
    ·subst e
     simp [cmpL_self]
     exact back ([],b,o ++ [z]) (MI.swap (hL.1 (hI'.last.2 rfl))) (by simp <;> omega) rfl (by simp <;> omega) (by simp) (by simp)
    ·have e' : ¬ cmpL z y = 0:=fun h=>e ((cmpL_zero _ _).1 h)
     simp [e',show LenOk 24 (o.length + 1 + 1) from ⟨by omega,by simp only [maxLen]; omega⟩,cP]
     exact back ([],b,o ++ [z] ++ [y]) (MI.swap (hL.2 fun h=>e (hI'.last.1 h))) (by simp <;> omega) rfl (by simp <;> omega) (by simp) (by simp)
 ·rcases b with _ | ⟨y,b⟩
  ·refine anyQ fun Q=>?_
   have hc0 : True:=trivial
   have hL:=hI.left (by simp)
   rcases nil_or_snoc out with rfl | ⟨o,z,rfl⟩
   ·simp [hc0,hpa,hpb,hqa,hqb,List.take_of_length_le,cP,hL24,s127_13,]
    exact back (a,[],[x]) ((hL.2 (by simp))) (by simp <;> omega) rfl (by simp <;> omega) (by simp) (by simp)
   ·simp only [List.length_append,List.length_cons,List.length_nil] at hlen
    have hw : IntKind.i64.wrap (o.length : Int) = o.length:=wrap64_of (by omega) (by omega)
    have hix : (o.map (cP cI) ++ [[D.pl (z.map cI)]])[o.length]? = some [D.pl (z.map cI)]:=by rw [List.getElem?_append_right (by simp)]; simp
    simp [hc0,hpa,hpb,hqa,hqb,List.take_of_length_le,hw,hix,cP,s127_13,]
    refine call_f (w_spec_CompareRows z x) (by simp) rfl fun hs3 hh3=>?_
    simp at hh3
    by_cases e : z = x
    ·subst e
     simp [cmpL_self]
     exact back (a,[],o ++ [z]) ((hL.1 (hI.last.2 rfl))) (by simp <;> omega) rfl (by simp <;> omega) (by simp) (by simp)
    ·have e' : ¬ cmpL z x = 0:=fun h=>e ((cmpL_zero _ _).1 h)
     simp [e',show LenOk 24 (o.length + 1 + 1) from ⟨by omega,by simp only [maxLen]; omega⟩,cP]
     exact back (a,[],o ++ [z] ++ [x]) ((hL.2 fun h=>e (hI.last.1 h))) (by simp <;> omega) rfl (by simp <;> omega) (by simp) (by simp)
  ·refine anyQ fun Q=>?_
   simp [cP,hpa,hpb,s127_13,]
   refine call_f (w_spec_CompareRows x y) (by simp) rfl fun hs0 hh0=>?_
   simp at hh0
   by_cases hc0 : 0 < cmpL x y
   ·have hI':=hI.swap
    have hL:=hI'.left (hI.hr hc0)
    rcases nil_or_snoc out with rfl | ⟨o,z,rfl⟩
    ·simp [hc0,hpa,hpb,hqa,hqb,List.take_of_length_le,cP,hL24,s127_13,]
     exact back ((x :: a),b,[y]) (MI.swap (hL.2 (by simp))) (by simp <;> omega) rfl (by simp <;> omega) (by simp) (by simp)
    ·simp only [List.length_append,List.length_cons,List.length_nil] at hlen
     have hw : IntKind.i64.wrap (o.length : Int) = o.length:=wrap64_of (by omega) (by omega)
     have hix : (o.map (cP cI) ++ [[D.pl (z.map cI)]])[o.length]? = some [D.pl (z.map cI)]:=by rw [List.getElem?_append_right (by simp)]; simp
     simp [hc0,hpa,hpb,hqa,hqb,List.take_of_length_le,hw,hix,cP,s127_13,]
     refine call_f (w_spec_CompareRows z y) (by simp) rfl fun hs3 hh3=>?_
     simp at hh3
     by_cases e : z = y
     ·subst e
      simp [cmpL_self]
      exact back ((x :: a),b,o ++ [z]) (MI.swap (hL.1 (hI'.last.2 rfl))) (by simp <;> omega) rfl (by simp <;> omega) (by simp) (by simp)
     ·have e' : ¬ cmpL z y = 0:=fun h=>e ((cmpL_zero _ _).1 h)
      simp [e',show LenOk 24 (o.length + 1 + 1) from ⟨by omega,by simp only [maxLen]; omega⟩,cP]
      exact back ((x :: a),b,o ++ [z] ++ [y]) (MI.swap (hL.2 fun h=>e (hI'.last.1 h))) (by simp <;> omega) rfl (by simp <;> omega) (by simp) (by simp)
   ·
    have hL:=hI.left (hI.hl hc0)
    rcases nil_or_snoc out with rfl | ⟨o,z,rfl⟩
    ·simp [hc0,hpa,hpb,hqa,hqb,List.take_of_length_le,cP,hL24,s127_13,]
     exact back (a,(y :: b),[x]) ((hL.2 (by simp))) (by simp <;> omega) rfl (by simp <;> omega) (by simp) (by simp)
    ·simp only [List.length_append,List.length_cons,List.length_nil] at hlen
     have hw : IntKind.i64.wrap (o.length : Int) = o.length:=wrap64_of (by omega) (by omega)
     have hix : (o.map (cP cI) ++ [[D.pl (z.map cI)]])[o.length]? = some [D.pl (z.map cI)]:=by rw [List.getElem?_append_right (by simp)]; simp
     simp [hc0,hpa,hpb,hqa,hqb,List.take_of_length_le,hw,hix,cP,s127_13,]
     refine call_f (w_spec_CompareRows z x) (by simp) rfl fun hs3 hh3=>?_
     simp at hh3
     by_cases e : z = x
     ·subst e
      simp [cmpL_self]
      exact back (a,(y :: b),o ++ [z]) ((hL.1 (hI.last.2 rfl))) (by simp <;> omega) rfl (by simp <;> omega) (by simp) (by simp)
     ·have e' : ¬ cmpL z x = 0:=fun h=>e ((cmpL_zero _ _).1 h)
      simp [e',show LenOk 24 (o.length + 1 + 1) from ⟨by omega,by simp only [maxLen]; omega⟩,cP]
      exact back (a,(y :: b),o ++ [z] ++ [x]) ((hL.2 fun h=>e (hI.last.1 h))) (by simp <;> omega) rfl (by simp <;> omega) (by simp) (by simp)
theorem w_spec_NewRelation (ar : Int) (l : List (List Int)) (hb : l.length <= 4294967296) (hn : ∀ x ∈ l,x.length <= 4294967296) : VC Tryz.prog 87 [.d (.int .i64 ar),.d (pS (cP cI) l)] (fun _ v=>v = .tup [.agg ((eReln (newR ar l)).map .d),.d (.bool (newB ar l))]):=by
 refine VC.ofL EP s87 (by kernel_rfl) Tryz.func87 (by rfl) (by kernel_rfl) (by simp [Tryz.f87]) (by simp [Tryz.f87]) s87_ok fun B hl=>?_
 simp [Tryz.f87,eReln]
 refine loop_rule (X:=Nat) (fun i=>i <= l.length /\ AllTo (fun r : List Int=>decide ((r.length : Int) = ar) && valsOk r) l i) (fun i=>[(0,.d (.int .i64 ar)),(1,.d (.pl (l.map (cP cI)))),(4,.ptr 4 0 0),(6,.d (.int .i64 i))])
  (fun i=>[(4,some (.box [.d (.int .i64 0),.d (.sl none none [])]))]) (fun i=>l.length - i) 0 ⟨by simp,allTo_zero⟩ (by simp) (by simp) ?_
 intro i hs t m hi hh
 by_cases hlt : i < l.length
 ·have hwi:=wr1 (i:=i) (by omega)
  by_cases hln : (l[i].length : Int) = ar
  ·simp [hlt,hln,cP,]
   refine call_f (w_spec_AreValidValues l[i]) (by simp) rfl fun hs1 hh1=>?_
   simp at hh1
   cases hv : valsOk l[i]
   ·have hbad:=all_bad (p:=fun r : List Int=>decide ((r.length : Int) = ar) && valsOk r) hlt (by simp [hv])
    simp [newR,newB,hbad,eReln]
   ·simp [hwi]
    exact back (i + 1) ⟨by omega,allTo_step hi.2 hlt (by simp [hv,hln])⟩ (by omega) rfl (by simp <;> omega) (by simp) (by simp)
  ·have hbad:=all_bad (p:=fun r : List Int=>decide ((r.length : Int) = ar) && valsOk r) hlt (by simp [hln])
   simp [hlt,hln,newR,newB,hbad,eReln,]
 ·have hd:=allTo_done hi.2 (by omega)
  have hsl:=srtU_len l
  simp [hlt,]
  refine call_p (w_spec_l5Sort _ l (Nat.le_refl _) hb) (by simp) fun hs1 hh1 _=>?_
  simp at hh1
  simp []
  refine call_p (w_spec_l5Copy ⟨ar,srtU l⟩ (by simp; omega) (fun x hx=>hn x ((srtU_mem l x).1 hx))) (by simp [eReln]) fun hs2 hh2 _=>?_
  simp at hh2
  simp [eReln]
  refine call_f (w_spec_IsValidRelation ⟨ar,srtU l⟩) (by simp [eReln]) rfl fun hs3 hh3=>?_
  simp at hh3
  cases h1 : rowsOk ar (srtU l)
  ·simp [newR,newB,h1,eReln]
  ·simp [newR,newB,h1,hd,eReln]
end Go.Proofs.YtglilmkmkdkedaaGreatDoor
namespace Go.Proofs.YtglilmkmkdkedaaGreatDoor
open Go.Vs Go.Proofs Go
set_option maxRecDepth 100000
set_option maxHeartbeats 1000000
section
attribute [local simp] plI_id plStr_id map_plI map_plStr pS cP cI cStr cU8 cB
end
end Go.Proofs.YtglilmkmkdkedaaGreatDoor
namespace Go.Proofs.YtglilmkmkdkedaaGreatDoor
open Go.Vs Go.Proofs Go
set_option maxRecDepth 100000
set_option maxHeartbeats 1000000
theorem e_impl_sorted : ∀ (n : Nat) (l : List (List Int)),l.length <= n -> l.length <= 4294967296 -> (∀ r ∈ l,r.length <= 4294967296) ->
  VC Tryz.prog 105 [.d (pS (cP cI) l)] (fun m r=>∃ y : Sl Ints,r = .d (dSl (cS cI) y) /\ plS (plS plI) y = srtU l /\ okS (okS okI) y /\ Good (cS (cS cI) y) (whS (whS whI) y) m):=by
 intro n
 induction n with
 | zero =>
   intro l hn hb hb2
   have : l = []:=List.length_eq_zero_iff.1 (by omega)
   subst this
   refine VC.of E s105 (by kernel_rfl) Tryz.func105 (by rfl) (by kernel_rfl) (by simp [Tryz.f105]) (by simp [Tryz.f105]) s105_ok fun B=>?_
   simp [Tryz.f105,s105_4,s105_11,s105_4,s105_11,pS]
   refine call_some (e_impl_copyRows [] (by simp) (by simp)) (by simp [pS]) (by simp) fun n1 hs1 r1 hn1 hm1 hp1 hr1=>?_
   obtain ⟨y,rfl,p1,k1,G1⟩:=hp1
   simp at hn1
   simp
   exact ⟨y,rfl,by rw [p1]; rfl,k1,G1.le (by omega)⟩
 | succ n ih=>
 intro l hn hb hb2
 refine VC.of E s105 (by kernel_rfl) Tryz.func105 (by rfl) (by kernel_rfl) (by simp [Tryz.f105]) (by simp [Tryz.f105]) s105_ok fun B=>?_
 by_cases h2 : l.length < 2
 ·have e : srtU l = l:=srtU_id (by
   match l,h2 with
   | [],_=>exact .nil
   | [_],_=>simp
   | _ :: _ :: _,h=>simp only [List.length_cons] at h; omega)
  simp [Tryz.f105,s105_4,s105_11,s105_4,s105_11,pS,show ((l.length : Int) < 2) by omega]
  refine call_some (e_impl_copyRows l hb hb2) (by simp [pS]) (by simp) fun n1 hs1 r1 hn1 hm1 hp1 hr1=>?_
  obtain ⟨y,rfl,p1,k1,G1⟩:=hp1
  simp at hn1
  simp
  exact ⟨y,rfl,by rw [p1,e],k1,G1.le (by omega)⟩
 obtain ⟨k,hk⟩ : ∃ k,k = l.length / 2:=⟨_,rfl⟩
 have hm : IntKind.i64.wrap ((l.length : Int) / 2) = (k : Int):=by rw [wrap64_of (by omega) (by omega)]; omega
 have hkl : k <= l.length:=by omega
 simp [Tryz.f105,s105_4,s105_11,s105_4,s105_11,pS,show ¬ ((l.length : Int) < 2) by omega,hm,hkl]
 have hA:=ih (l.take k) (by simp; omega) (by simp; omega) (fun r hr=>hb2 r (List.mem_of_mem_take hr))
 have hB':=ih (l.drop k) (by simp; omega) (by simp; omega) (fun r hr=>hb2 r (List.mem_of_mem_drop hr))
 simp only [pS,List.map_take] at hA
 simp only [pS,List.map_drop] at hB'
 refine call_some hA (by simp) (by simp) fun n1 hs1 r1 hn1 hm1 hp1 hr1=>?_
 obtain ⟨ya,rfl,p1,k1,G1⟩:=hp1
 simp at hn1
 simp [hm,hkl,List.take_of_length_le,s105_4,s105_11,]
 refine call_some hB' (by simp) (by simp) fun n2 hs2 r2 hn2 hm2 hp2 hr2=>?_
 obtain ⟨yb,rfl,p2,k2,G2⟩:=hp2
 simp at hn2
 have hst:=MJ.start l k
 rw [<- p1,<- p2] at hst
 obtain ⟨aid,aT,as_⟩:=ya
 obtain ⟨bid,bT,bs_⟩:=yb
 have u1 : ∀ g ∈ idsLL (as_.map (cS cI)),g < hs1:=fun g hg=>hr1 g (by rw [V.ids]; exact mem_sl_ids.2 (.inr hg))
 have own0 : OwnR B ([] ++ (as_ ++ bs_)):=by
  have g1:=G1.nd
  have g2:=G2.nd
  rw [idsL_cS] at g1 g2
  have h1:=(sl_nd g1).1
  have h2:=(sl_nd g2).1
  have e : idsLL ((as_ ++ bs_).map (cS cI)) = idsLL (as_.map (cS cI)) ++ idsLL (bs_.map (cS cI)):=by rw [List.map_append,idsLL_append]
  have l1 : ∀ g ∈ idsLL (as_.map (cS cI)),B <= g:=fun g hg=>by have:=G1.lo g (by rw [idsL_cS]; exact mem_sl_ids.2 (.inr hg)); omega
  have l2 : ∀ g ∈ idsLL (bs_.map (cS cI)),n2 <= g:=fun g hg=>G2.lo g (by rw [idsL_cS]; exact mem_sl_ids.2 (.inr hg))
  refine ⟨?_,?_,fun r hr=>?_,fun r hr=>?_⟩
  ·rw [List.nil_append,e]
   exact List.nodup_append.2 ⟨h1,h2,fun x hx y hy hxy=>by subst hxy; have:=u1 x hx; have:=l2 x hy; omega⟩
  ·intro g hg
   rw [List.nil_append,e] at hg
   rcases List.mem_append.1 hg with h | h
   ·exact l1 g h
   ·have:=l2 g h; omega
  ·rcases (by simpa using hr : r ∈ as_ \/ r ∈ bs_) with h | h
   ·exact G1.wh.2 r h
   ·exact G2.wh.2 r h
  ·rcases (by simpa using hr : r ∈ as_ \/ r ∈ bs_) with h | h
   ·exact k1.2 r h
   ·exact k2.2 r h
 clear hr1 hr2 u1
 simp [dSl,s105_4,s105_11,]
 refine loop_ruleL (X:=List Ints × List Ints × List Ints × Option (TypeId × Nat) × Option (TypeId × Nat)) (fun p _=>SrtI l B p) (fun p=>[(4,.d (.sl aid p.2.2.2.1 (p.1.map (cS cI)))),(5,.d (.sl bid p.2.2.2.2 (p.2.1.map (cS cI)))),(6,.own 52 0 p.2.2.1.length)])
  (fun p=>[(52,some (.row 26 1 (p.2.2.1.map (cS cI))))]) (fun p=>p.1.length + p.2.1.length) ?_ ?_
 ·refine (lead_slot 6 52 26 1 (by omega) (by omega) (by simp)).bind ?_
  rintro _ rfl
  exact Lead.of ⟨(as_,bs_,[],aT,bT),⟨hst,own0⟩,rfl,rfl,Nat.le_refl _,by simp,by simp⟩
 rintro ⟨a,b,o,Ta,Tb⟩ hs t m hI hh
 have hlen:=hI.mj.len
 simp only [List.length_map] at hlen
 have hpa : ∀ a : List Ints,(0 : Int) < (a.length : Int) + 1:=fun a=>by omega
 have hpb : ∀ a : List Ints,¬ (a.length : Int) + 1 = 0:=fun a=>by omega
 rcases a with _ | ⟨x,a⟩
 ·rcases b with _ | ⟨y,b⟩
  ·have hd:=hI.mj.done
   simp only at hd
   simp [s105_4,s105_11,]
   intro γ hs' h1 hg
   obtain ⟨q1,q2⟩:=gam_at hg (k:=52) (T:=26) (sz:=1) (es:=o.map (cS cI)) (by simp)
   have q3:=gam_row hg (k:=52) (T:=26) (sz:=1) (es:=o.map (cS cI)) (by simp)
   clear hg
   have hown : OwnR B o:=by have:=hI.own; simpa using this
   have hp : hpLL (o.map (cS cI)) = false:=hpLL_mapS o
   simp only [List.length_nil] at hlen
   exact ⟨⟨γ 52,some (26,1),o⟩,by simp [dSl,List.take_of_length_le],by simpa [plS] using hd,⟨by simp only [maxLen]; show o.length <= _; omega,hown.ok⟩,good_row (fun g hg=>(q1 g hg).1) (by simpa using q2) q3 ⟨hown.nd,hown.lo⟩ hown.wh⟩
  ·simp only [List.length_cons,List.length_nil] at hlen
   have hL : LenOk 24 (o.length + 1):=⟨by omega,by simp only [maxLen]; omega⟩
   refine anyQ2 fun Q=>?_
   simp [hpa,hpb,hL,cS,dSl,s105_4,s105_11,]
   exact back2 ([],b,o ++ [y],Ta,(if bid.isSome = true then none else Tb)) (hI.right (by simp)) (by simp <;> omega) rfl (by simp <;> omega) (by simp [cS,dSl,List.take_of_length_le]) (by simp [cS,dSl])
 ·rcases b with _ | ⟨y,b⟩
  ·simp only [List.length_cons,List.length_nil] at hlen
   have hL : LenOk 24 (o.length + 1):=⟨by omega,by simp only [maxLen]; omega⟩
   refine anyQ2 fun Q=>?_
   simp [hpa,hpb,hL,cS,dSl,s105_4,s105_11,]
   exact back2 (a,[],o ++ [x],(if aid.isSome = true then none else Ta),Tb) (hI.left (by simp)) (by simp <;> omega) rfl (by simp <;> omega) (by simp [cS,dSl,List.take_of_length_le]) (by simp [cS,dSl])
  ·simp only [List.length_cons] at hlen
   have hL : LenOk 24 (o.length + 1):=⟨by omega,by simp only [maxLen]; omega⟩
   have hM:=hI.mj
   simp only [List.map_cons] at hM
   refine anyQ2 fun Q=>?_
   simp [hpa,hpb,cS,dSl,s105_4,s105_11,]
   refine call_f (w_impl_CompareRows (plS plI x) (plS plI y)) (by simp [plS,pS,erLL_map er_cI,map_plI]) rfl fun hs3 hh3=>?_
   simp at hh3
   by_cases c1 : cmpL (plS plI x) (plS plI y) < 0
   ·have c2 : cmpL (plS plI x) (plS plI y) <= 0:=by omega
    have c3 : ¬ 0 <= cmpL (plS plI x) (plS plI y):=by omega
    simp [c2,c3,hL,cS,dSl,s105_4,s105_11,]
    exact back2 (a,y :: b,o ++ [x],(if aid.isSome = true then none else Ta),Tb) (hI.left (hM.less c1)) (by simp <;> omega) rfl (by simp <;> omega) (by simp [cS,dSl,List.take_of_length_le]) (by simp [cS,dSl])
   by_cases c4 : cmpL (plS plI x) (plS plI y) = 0
   ·have e:=(cmpL_zero _ _).1 c4
    simp [c4,hL,cS,dSl,s105_4,s105_11,]
    exact back2 (a,b,o ++ [x],(if aid.isSome = true then none else Ta),(if bid.isSome = true then none else Tb)) (hI.both e) (by simp <;> omega) rfl (by simp <;> omega) (by simp [cS,dSl,List.take_of_length_le]) (by simp [cS,dSl])
   ·have c2 : ¬ cmpL (plS plI x) (plS plI y) <= 0:=by omega
    have c3 : 0 <= cmpL (plS plI x) (plS plI y):=by omega
    have c5 : 0 < cmpL (plS plI x) (plS plI y):=by omega
    have c6 : cmpL (plS plI y) (plS plI x) < 0:=by have:=cmpL_swap (plS plI x) (plS plI y); omega
    simp [c2,c3,c5,hL,cS,dSl,s105_4,s105_11,]
    exact back2 (x :: a,b,o ++ [y],Ta,(if bid.isSome = true then none else Tb)) (hI.right (hM.swap.less c6)) (by simp <;> omega) rfl (by simp <;> omega) (by simp [cS,dSl,List.take_of_length_le]) (by simp [cS,dSl])
theorem e_impl_NewRelation (ar : Int) (l : List (List Int)) (hb : l.length <= 4294967296) (hb2 : ∀ r ∈ l,r.length <= 4294967296) :
  VC Tryz.prog 121 [.d (.int .i64 ar),.d (pS (cP cI) l)] (fun m r=>∃ y : Reln,r = .tup [.agg ((cReln y).map V.d),.d (.bool (newB ar l))] /\ plReln y = newR ar l /\ okReln y /\ Good (cReln y) (whReln y) m):=by
 refine VC.of E s121 (by kernel_rfl) Tryz.func121 (by rfl) (by kernel_rfl) (by simp [Tryz.f121]) (by simp [Tryz.f121]) s121_ok fun B=>?_
 have hno : newB ar l = false -> ∃ y : Reln,V.tup [.agg ((cReln ⟨0,nilS⟩).map V.d),.d (.bool false)] = .tup [.agg ((cReln y).map V.d),.d (.bool (newB ar l))] /\ plReln y = newR ar l /\ okReln y /\ Good (cReln y) (whReln y) B:=fun h=>
  ⟨⟨0,nilS⟩,by rw [h],by simp [newR,h,plReln,plI,nilS,plS],⟨trivial,ok_nilS⟩,good_Reln0 B⟩
 simp only [cReln,cS,cI,nilS,dSl] at hno
 simp at hno
 simp [Tryz.f121,pS]
 refine loop_rule (X:=Nat) (ToN ar l) (fun i=>[(0,.d (.int .i64 ar)),(1,.d (.pl (l.map (cP cI)))),(4,.ptr 4 0 0),(9,.d (.pl (l.map (cP cI)))),(10,.d (.int .i64 l.length)),(11,.d (.int .i64 i))])
  (fun i=>[(4,some (.box [.d (.int .i64 0),.d (.sl none none [])]))]) (fun i=>l.length - i) 0 .zero (by simp [cP,cI,pS]) (by simp) ?_
 intro i hs t m hi hh
 have hle:=hi.le
 by_cases hlt : i < l.length
 ·have hwi:=wr1 (i:=i) (by omega)
  by_cases hln : (l[i].length : Int) = ar
  ·simp [hlt,hln,cP,pS,]
   refine call_f (w_impl_AreValidValues l[i]) (by simp [pS]) rfl fun hs1 hh1=>?_
   simp at hh1
   cases hv : valsOk l[i]
   ·have hB0 : newB ar l = false:=hi.bad hlt (by simp [hv])
    simp
    simpa [hB0,cReln,cS,cI,dSl] using hno hB0
   ·simp [hwi]
    exact back (i + 1) (hi.step hlt (by simp [hv,hln])) (by omega) rfl (by simp <;> omega) (by simp [cP,cI,pS]) (by simp)
  ·have hB0 : newB ar l = false:=hi.bad hlt (by simp [hln])
   simp [hlt,hln,cP,pS,]
   simpa [hB0,cReln,cS,cI,dSl] using hno hB0
 ·have hd:=hi.done (by omega)
  have hsl:=srtU_len l
  simp [hlt,]
  refine call_some (e_impl_sorted _ l (Nat.le_refl _) hb hb2) (by simp [pS]) (by simp) fun n1 hs1 r1 hn1 hm1 hp1 hr1=>?_
  obtain ⟨y,rfl,p1,k1,G1⟩:=hp1
  simp at hn1
  clear hr1
  simp []
  refine call_f (w_impl_IsValidRelation ⟨ar,srtU l⟩) (by simp [<- p1,eReln,er_SI,cI]) rfl fun hs3 hh3=>?_
  simp at hh3
  cases h1 : rowsOk ar (srtU l)
  ·have hB0 : newB ar l = false:=by rw [newB,h1,Bool.and_false]
   simp
   simpa [hB0,cReln,cS,cI,dSl] using hno hB0
  ·have hB1 : newB ar l = true:=by rw [newB,h1,hd]; rfl
   simp [hB1]
   exact ⟨⟨ar,y⟩,by simp [cReln,cS,cI],by simp only [newR,hB1,if_true,plReln,plI]; rw [p1],⟨trivial,k1⟩,good_Reln G1 (by omega)⟩
theorem w_impl_columnsFit (ar : Int) (cols : List Int) : VC Tryz.prog 119 [.d (.int .i64 ar),.d (pS cI cols)] (fun _ v=>v = .d (.bool (colsOk ar cols))):=by
 refine VC.ofL EP s119 (by kernel_rfl) Tryz.func119 (by rfl) (by kernel_rfl) (by simp [Tryz.f119]) (by simp [Tryz.f119]) s119_ok fun B hl=>?_
 by_cases h5 : cols.length <= 5
 case neg=>simp [Tryz.f119,colsOk,h5,show (5 : Int) < cols.length by omega]
 simp [Tryz.f119,show ¬ (5 : Int) < cols.length by omega]
 refine loop_rule (X:=Nat) (fun i=>i <= cols.length /\ AllTo (fun c=>inR c 0 (IntKind.i64.wrap (ar - 1))) cols i) (fun i=>[(0,.d (.int .i64 ar)),(10,.d (.pl (cols.map cI))),(11,.d (.int .i64 cols.length)),(12,.d (.int .i64 i))])
  (fun _=>[]) (fun i=>cols.length - i) 0 ⟨by simp,allTo_zero⟩ (by simp) (by simp) ?_
 intro i hs t m hi hh
 by_cases hlt : i < cols.length
 ·have hwi:=wr1 (i:=i) (by omega)
  simp [hlt,cI,]
  refine call_f (w_impl_within cols[i] 0 (IntKind.i64.wrap (ar - 1))) (by simp) rfl fun hs1 hh1=>?_
  simp at hh1
  cases hv : inR cols[i] 0 (IntKind.i64.wrap (ar - 1))
  ·have hbad:=all_bad (p:=fun c=>inR c 0 (IntKind.i64.wrap (ar - 1))) hlt hv
   simp [colsOk,hbad]
  ·simp [hwi]
   exact back (i + 1) ⟨by omega,allTo_step hi.2 hlt hv⟩ (by omega) rfl (by simp <;> omega) (by simp) (by simp)
 have hd:=allTo_done hi.2 (by omega)
 simp [hlt,colsOk,hd,h5]
theorem w_spec_l5Cols (row cols : List Int) (hb : cols.length <= 4294967296) (hc : ∀ c ∈ cols,0 <= c /\ c < row.length) : VC Tryz.prog 86 [.d (pS cI row),.d (pS cI cols)] (fun _ v=>v = .d (pS cI (pickR cols row))):=by
 refine VC.ofL EP s86 (by kernel_rfl) Tryz.func86 (by rfl) (by kernel_rfl) (by simp [Tryz.f86]) (by simp [Tryz.f86]) s86_ok fun B hl=>?_
 simp [Tryz.f86,]
 refine loop_rule (X:=Nat) (fun i=>i <= cols.length) (fun i=>[(0,.d (.pl (row.map cI))),(1,.d (.pl (cols.map cI))),(5,.own 7 0 i),(6,.d (.int .i64 i))])
  (fun i=>[(7,some (.row 3 1 ((pickR (cols.take i) row).map cI)))]) (fun i=>cols.length - i) 0 (by simp) (by simp) (by simp [pickR]) ?_
 intro i hs t m hi hh
 by_cases hlt : i < cols.length
 ·have hwi:=wr1 (i:=i) (by omega)
  have h1:=hc _ (List.getElem_mem hlt)
  have hst:=pickR_step hlt hc
  obtain ⟨k,hk⟩ : ∃ k : Nat,cols[i] = (k : Int):=⟨cols[i].toNat,by omega⟩
  have hkl : k < row.length:=by omega
  have hL : LenOk 8 (i + 1):=⟨by omega,by simp only [maxLen]; omega⟩
  have hpl : (pickR (cols.take i) row).length = i:=by rw [pickR_len,List.length_take]; omega
  simp only [hk,Int.toNat_natCast] at hst
  simp [hlt,hk,hkl,hL,hwi,hpl,cI,]
  exact back (i + 1) (by omega) (by omega) rfl (by simp <;> omega) (by simp) (by simp [hst,cI])
 ·have hn : i = cols.length:=by omega
  subst hn
  simp [List.take_of_length_le,pickR_len]
end Go.Proofs.YtglilmkmkdkedaaGreatDoor
