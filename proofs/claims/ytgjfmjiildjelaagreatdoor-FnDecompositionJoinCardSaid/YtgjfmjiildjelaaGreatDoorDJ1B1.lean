/-
  A part of a proof of this seat: a value-level semantics of Go code without maps, walks, plain lemmas. It holds of all that its hypotheses name.
-/
import Derived.Test.YtgjfmjiildjelaaGreatDoorDJ1A5
import Derived.Test.YtgjfmjiildjelaaGreatDoorProg
import Derived.KernelRfl
set_option linter.unusedSimpArgs false
set_option linter.unusedVariables false
set_option linter.unnecessarySimpa false
namespace Go.Proofs.YtgjfmjiildjelaaGreatDoor
section
open Go.Vs Go.Proofs
theorem gcs0 : gcs Tryz.prog 0 = [1,1]:=by kernel_rfl
theorem gis0 : ((gdat Tryz.prog).lookup 0).isSome = true:=by kernel_rfl
theorem tsz3 : tsz Tryz.prog 3 = some 1:=by kernel_rfl
theorem tsz4 : tsz Tryz.prog 4 = some 1:=by kernel_rfl
theorem tsz5 : tsz Tryz.prog 5 = some 1:=by kernel_rfl
theorem tsz9 : tsz Tryz.prog 9 = some 1:=by kernel_rfl
theorem Kq : tsz Tryz.prog 22 = some 1:=by kernel_rfl
theorem Kr : tsz Tryz.prog 24 = some 1:=by kernel_rfl
theorem Ks : tsz Tryz.prog 26 = some 1:=by kernel_rfl
theorem Kt : tsz Tryz.prog 27 = some 1:=by kernel_rfl
theorem Ku : tsz Tryz.prog 28 = some 1:=by kernel_rfl
theorem Kv : tsz Tryz.prog 30 = some 3:=by kernel_rfl
theorem Kw : tsz Tryz.prog 31 = some 1:=by kernel_rfl
theorem Kx : tsz Tryz.prog 33 = some 2:=by kernel_rfl
theorem Ky : tsz Tryz.prog 37 = some 2:=by kernel_rfl
theorem Kz : tsz Tryz.prog 53 = some 3:=by kernel_rfl
theorem KA : tsz Tryz.prog 62 = some 2:=by kernel_rfl
theorem KB : tsz Tryz.prog 71 = some 1:=by kernel_rfl
theorem KD : tsz Tryz.prog 78 = some 2:=by kernel_rfl
theorem ID : tsz Tryz.prog 101 = some 1:=by kernel_rfl
theorem IE : tsz Tryz.prog 104 = some 1:=by kernel_rfl
theorem IF : tsz Tryz.prog 106 = some 3:=by kernel_rfl
theorem IG : tsz Tryz.prog 120 = some 3:=by kernel_rfl
theorem IH : tsz Tryz.prog 165 = some 1:=by kernel_rfl
theorem Ki : tagg Tryz.prog 3 = some false:=by kernel_rfl
theorem Kj : tagg Tryz.prog 4 = some false:=by kernel_rfl
theorem Kk : tagg Tryz.prog 5 = some false:=by kernel_rfl
theorem Kl : tagg Tryz.prog 9 = some false:=by kernel_rfl
theorem H7 : tagg Tryz.prog 22 = some false:=by kernel_rfl
theorem H8 : tagg Tryz.prog 24 = some false:=by kernel_rfl
theorem H9 : tagg Tryz.prog 26 = some true:=by kernel_rfl
theorem Ia : tagg Tryz.prog 27 = some false:=by kernel_rfl
theorem Ib : tagg Tryz.prog 28 = some false:=by kernel_rfl
theorem Ic : tagg Tryz.prog 30 = some true:=by kernel_rfl
theorem Ie : tagg Tryz.prog 31 = some false:=by kernel_rfl
theorem If : tagg Tryz.prog 33 = some true:=by kernel_rfl
theorem Ig : tagg Tryz.prog 37 = some true:=by kernel_rfl
theorem Ih : tagg Tryz.prog 53 = some true:=by kernel_rfl
theorem Ii : tagg Tryz.prog 62 = some true:=by kernel_rfl
theorem Ij : tagg Tryz.prog 71 = some true:=by kernel_rfl
theorem Ik : tagg Tryz.prog 78 = some true:=by kernel_rfl
theorem Fg : tagg Tryz.prog 101 = some false:=by kernel_rfl
theorem Fh : tagg Tryz.prog 104 = some false:=by kernel_rfl
theorem Fi : tagg Tryz.prog 106 = some true:=by kernel_rfl
theorem Fj : tagg Tryz.prog 120 = some true:=by kernel_rfl
theorem Fk : tagg Tryz.prog 165 = some false:=by kernel_rfl
theorem II : tzero Tryz.prog 3 = some [.int .i64 0]:=by kernel_rfl
theorem IJ : tzero Tryz.prog 4 = some [.bool false]:=by kernel_rfl
theorem FF : tzero Tryz.prog 26 = some [.sl none none []]:=by kernel_rfl
theorem FG : tzero Tryz.prog 30 = some [.int .i64 0,.sl none none [],.sl none none []]:=by kernel_rfl
theorem FH : tzero Tryz.prog 33 = some [.sl none none [],.sl none none []]:=by kernel_rfl
theorem FI : tzero Tryz.prog 37 = some [.int .i64 0,.sl none none []]:=by kernel_rfl
theorem FJ : tzero Tryz.prog 53 = some [.sl none none [],.int .i64 0,.sl none none []]:=by kernel_rfl
theorem FK : tzero Tryz.prog 62 = some [.int .i64 0,.int .i64 0]:=by kernel_rfl
theorem FL : tzero Tryz.prog 71 = some [.sl none none []]:=by kernel_rfl
theorem FM : tzero Tryz.prog 78 = some [.str [],.sl none none []]:=by kernel_rfl
theorem Du : tzero Tryz.prog 101 = some [.sl none none []]:=by kernel_rfl
theorem Dv : tzero Tryz.prog 104 = some [.sl none none []]:=by kernel_rfl
theorem Dw : tzero Tryz.prog 106 = some [.sl none none [],.sl none none [],.sl none none []]:=by kernel_rfl
theorem Dx : tzero Tryz.prog 120 = some [.str [],.int .i64 0,.sl none none []]:=by kernel_rfl
theorem Dy : tzero Tryz.prog 124 = some [.sl none none [],.int .i64 0,.int .i64 0]:=by kernel_rfl
theorem Aa : (tzero Tryz.prog 165).isSome = false:=by kernel_rfl
theorem I1 : zfn Tryz.prog 165 = true:=by kernel_rfl
theorem Dm : tslice Tryz.prog 22 = some (5,1,1):=by kernel_rfl
theorem Fl : ja Tryz.prog 22 = some 5:=by kernel_rfl
theorem Dn : tslice Tryz.prog 24 = some (120,3,48):=by kernel_rfl
theorem Fm : ja Tryz.prog 24 = some 120:=by kernel_rfl
theorem Do : tslice Tryz.prog 27 = some (78,2,40):=by kernel_rfl
theorem Fo : ja Tryz.prog 27 = some 78:=by kernel_rfl
theorem Dp : tslice Tryz.prog 28 = some (3,1,8):=by kernel_rfl
theorem Fp : ja Tryz.prog 28 = some 3:=by kernel_rfl
theorem Dq : tslice Tryz.prog 31 = some (28,1,24):=by kernel_rfl
theorem Fq : ja Tryz.prog 31 = some 28:=by kernel_rfl
theorem Dr : tslice Tryz.prog 40 = some (53,3,56):=by kernel_rfl
theorem Fs : ja Tryz.prog 40 = some 53:=by kernel_rfl
theorem z6 : tslice Tryz.prog 101 = some (62,2,16):=by kernel_rfl
theorem Dc : ja Tryz.prog 101 = some 62:=by kernel_rfl
theorem z7 : tslice Tryz.prog 104 = some (101,1,24):=by kernel_rfl
theorem Dd : ja Tryz.prog 104 = some 101:=by kernel_rfl
theorem z8 : tslice Tryz.prog 133 = some (4,1,1):=by kernel_rfl
theorem De : ja Tryz.prog 133 = some 4:=by kernel_rfl
theorem z9 : tslice Tryz.prog 145 = some (9,1,16):=by kernel_rfl
theorem Df : ja Tryz.prog 145 = some 9:=by kernel_rfl
theorem Kp : tstr Tryz.prog 9 = some true:=by kernel_rfl
theorem Ix : tstr Tryz.prog 22 = some false:=by kernel_rfl
theorem Iy : tstr Tryz.prog 24 = some false:=by kernel_rfl
theorem Iz : tstr Tryz.prog 27 = some false:=by kernel_rfl
theorem IA : tstr Tryz.prog 28 = some false:=by kernel_rfl
theorem IB : tstr Tryz.prog 31 = some false:=by kernel_rfl
theorem IC : tstr Tryz.prog 40 = some false:=by kernel_rfl
theorem FB : tstr Tryz.prog 101 = some false:=by kernel_rfl
theorem FC : tstr Tryz.prog 104 = some false:=by kernel_rfl
theorem FD : tstr Tryz.prog 133 = some false:=by kernel_rfl
theorem FE : tstr Tryz.prog 145 = some false:=by kernel_rfl
theorem Im : tfld Tryz.prog 26 = true:=by kernel_rfl
theorem Io : tfld Tryz.prog 30 = true:=by kernel_rfl
theorem Ip : tfld Tryz.prog 33 = true:=by kernel_rfl
theorem Iq : tfld Tryz.prog 37 = true:=by kernel_rfl
theorem Ir : tfld Tryz.prog 53 = true:=by kernel_rfl
theorem Is : tfld Tryz.prog 62 = true:=by kernel_rfl
theorem It : tfld Tryz.prog 71 = true:=by kernel_rfl
theorem Iu : tfld Tryz.prog 78 = true:=by kernel_rfl
theorem Ft : tfld Tryz.prog 106 = true:=by kernel_rfl
theorem Fu : tfld Tryz.prog 120 = true:=by kernel_rfl
theorem Fv : tfld Tryz.prog 124 = true:=by kernel_rfl
theorem Bn : foff Tryz.prog 26 0 = some (0,1):=by kernel_rfl
theorem Bo : foff Tryz.prog 30 0 = some (0,1):=by kernel_rfl
theorem Bp : foff Tryz.prog 30 1 = some (1,1):=by kernel_rfl
theorem Bq : foff Tryz.prog 30 2 = some (2,1):=by kernel_rfl
theorem Br : foff Tryz.prog 33 0 = some (0,1):=by kernel_rfl
theorem Bs : foff Tryz.prog 33 1 = some (1,1):=by kernel_rfl
theorem Bt : foff Tryz.prog 37 0 = some (0,1):=by kernel_rfl
theorem Bu : foff Tryz.prog 37 1 = some (1,1):=by kernel_rfl
theorem Bw : foff Tryz.prog 53 0 = some (0,1):=by kernel_rfl
theorem Bx : foff Tryz.prog 53 1 = some (1,2):=by kernel_rfl
theorem By : foff Tryz.prog 62 0 = some (0,1):=by kernel_rfl
theorem Bz : foff Tryz.prog 62 1 = some (1,1):=by kernel_rfl
theorem BA : foff Tryz.prog 71 0 = some (0,1):=by kernel_rfl
theorem BB : foff Tryz.prog 78 0 = some (0,1):=by kernel_rfl
theorem BC : foff Tryz.prog 78 1 = some (1,1):=by kernel_rfl
theorem zi : foff Tryz.prog 106 0 = some (0,1):=by kernel_rfl
theorem zj : foff Tryz.prog 106 1 = some (1,1):=by kernel_rfl
theorem zk : foff Tryz.prog 106 2 = some (2,1):=by kernel_rfl
theorem zl : foff Tryz.prog 120 0 = some (0,1):=by kernel_rfl
theorem zm : foff Tryz.prog 120 1 = some (1,2):=by kernel_rfl
theorem zn : foff Tryz.prog 124 0 = some (0,1):=by kernel_rfl
theorem zo : foff Tryz.prog 124 1 = some (1,1):=by kernel_rfl
theorem zp : foff Tryz.prog 124 2 = some (2,1):=by kernel_rfl
theorem Il : tEqK Tryz.prog 62 = some [.int,.int]:=by kernel_rfl
attribute [simp] gcs0 gis0 tsz3 tsz4 tsz5 tsz9 Kq Kr Ks Kt Ku Kv Kw Kx Ky Kz KA KB KD ID IE IF IG IH Ki Kj Kk Kl H7 H8 H9 Ia Ib Ic Ie If Ig Ih Ii Ij Ik Fg Fh Fi Fj Fk II IJ FF FG FH FI FJ FK FL FM Du Dv Dw Dx Dy Aa I1 Dm Fl Dn Fm Do Fo Dp Fp Dq Fq Dr Fs z6 Dc z7 Dd z8 De z9 Df Kp Ix Iy Iz IA IB IC FB FC FD FE Im Io Ip Iq Ir Is It Iu Ft Fu Fv Bn Bo Bp Bq Br Bs Bt Bu Bw Bx By Bz BA BB BC zi zj zk zl zm zn zo zp Il
end
section
open Go.Vs Go.Proofs Go
def sZ (_ : Nat) : Tr:=.nil
def E : Md:=⟨fun f=>[52,53,61,68,75,87,88,89,90,91,114,121,122,123,124,125,144,162,167].contains f,false,false⟩
def EP : Md:=⟨E.e,true,false⟩
def EA : Md:=⟨E.e,false,true⟩
@[simp] theorem E_p : E.p = false:=Eq.trans rfl rfl
@[simp] theorem EP_p : EP.p = true:=Eq.trans rfl rfl
@[simp] theorem EA_p : EA.p = false:=Eq.trans rfl rfl
@[simp] theorem E_a : E.a = false:=Eq.trans rfl rfl
@[simp] theorem EP_a : EP.a = false:=Eq.trans rfl rfl
theorem E52 : E 52 = true:=rfl
theorem E53 : E 53 = true:=rfl
theorem E68 : E 68 = true:=rfl
theorem E75 : E 75 = true:=rfl
theorem E87 : E 87 = true:=rfl
theorem E88 : E 88 = true:=rfl
theorem E89 : E 89 = true:=rfl
theorem EA89 : EA 89 = true:=rfl
theorem E90 : E 90 = true:=rfl
theorem E91 : E 91 = true:=rfl
theorem E114 : E 114 = true:=rfl
theorem Jm : EA 114 = true:=rfl
theorem E121 : E 121 = true:=rfl
theorem E122 : E 122 = true:=rfl
theorem E123 : E 123 = true:=rfl
theorem E124 : E 124 = true:=rfl
theorem E125 : E 125 = true:=rfl
theorem E144 : E 144 = true:=rfl
theorem E162 : E 162 = true:=rfl
def s3 (i : Nat) : Tr:=if i = 16 then .seq [0,1,2,3,4,5] (.both (.seq [6,7,8,9,10,11,12] .nil) (.seq [10,6,7,8,9,11,12] .nil)) else if i = 17 then .seq [0,1,2,3,4,5] (.both (.seq [6,7,8,9,10,11,12] .nil) (.seq [10,6,7,8,9,11,12] .nil)) else if i = 18 then .seq [0,1,2,3,4,5,6,7,8,9,10,11,12,13,14,15,16,17,18,19,20,21,22,23,24,25,26,27,28,29,30,31] .nil else .nil
@[simp] theorem s3_16 : s3 16 = .seq [0,1,2,3,4,5] (.both (.seq [6,7,8,9,10,11,12] .nil) (.seq [10,6,7,8,9,11,12] .nil)):=rfl
@[simp] theorem s3_17 : s3 17 = .seq [0,1,2,3,4,5] (.both (.seq [6,7,8,9,10,11,12] .nil) (.seq [10,6,7,8,9,11,12] .nil)):=rfl
@[simp] theorem s3_18 : s3 18 = .seq [0,1,2,3,4,5,6,7,8,9,10,11,12,13,14,15,16,17,18,19,20,21,22,23,24,25,26,27,28,29,30,31] .nil:=rfl
def s4 (i : Nat) : Tr:=if i = 11 then .seq [0,1,2] (.both (.seq [3,4,5,6,7,8,9] .nil) (.seq [7,3,4,5,6,8,9] .nil)) else if i = 14 then .seq [0,1,2,3,4,5,6,7,8,9,10,11,12,13,14,15,16,17,18,19,20,21,22,23,24,26,27,25,28,29,30,31,32,33,34,35,36,37,38,39] .nil else .nil
@[simp] theorem s4_11 : s4 11 = .seq [0,1,2] (.both (.seq [3,4,5,6,7,8,9] .nil) (.seq [7,3,4,5,6,8,9] .nil)):=rfl
@[simp] theorem s4_14 : s4 14 = .seq [0,1,2,3,4,5,6,7,8,9,10,11,12,13,14,15,16,17,18,19,20,21,22,23,24,26,27,25,28,29,30,31,32,33,34,35,36,37,38,39] .nil:=rfl
def s7 (i : Nat) : Tr:=if i = 12 then .seq [0,1,2,3,4,5,6,7,8,9,10,11,12,13,14,15] .nil else if i = 21 then .seq [0,1,2,3,4,5,6,7] (.both (.seq [8,9,10,11,12,13,14] .nil) (.seq [12,8,9,10,11,13,14] .nil)) else if i = 27 then .seq [0,1,6,7,2,3,4,5,8,9,10,11,12] .nil else .nil
@[simp] theorem s7_12 : s7 12 = .seq [0,1,2,3,4,5,6,7,8,9,10,11,12,13,14,15] .nil:=rfl
@[simp] theorem s7_21 : s7 21 = .seq [0,1,2,3,4,5,6,7] (.both (.seq [8,9,10,11,12,13,14] .nil) (.seq [12,8,9,10,11,13,14] .nil)):=rfl
@[simp] theorem s7_27 : s7 27 = .seq [0,1,6,7,2,3,4,5,8,9,10,11,12] .nil:=rfl
def s10 (i : Nat) : Tr:=if i = 4 then .seq [0,1,2,3,4,5,6] (.both (.seq [7,8,9,10,11,12,13] .nil) (.seq [11,7,8,9,10,12,13] .nil)) else if i = 5 then .seq [0,1,2,3,4,5,6,7,8,9,10,11,12,13] .nil else .nil
theorem lj : s10 4 = .seq [0,1,2,3,4,5,6] (.both (.seq [7,8,9,10,11,12,13] .nil) (.seq [11,7,8,9,10,12,13] .nil)):=rfl
@[simp] theorem s10_5 : s10 5 = .seq [0,1,2,3,4,5,6,7,8,9,10,11,12,13] .nil:=rfl
def s11 (i : Nat) : Tr:=if i = 8 then .seq [0,1,2,3,4,5,6,7,8,9,10,11,12,13,14,15,16,17,18,19,20,21,22,23,24,25,26] .nil else if i = 17 then .seq [0,1,2,3,4,5,6,7,8,9,10,11,12,13,14] .nil else if i = 27 then .seq [0,1,2,3,4,5,6,7,8,9,10,11,12,13,14,15,16,17,18,19,20,21,22,23,24,25,26,27,28,29] .nil else .nil
@[simp] theorem s11_8 : s11 8 = .seq [0,1,2,3,4,5,6,7,8,9,10,11,12,13,14,15,16,17,18,19,20,21,22,23,24,25,26] .nil:=rfl
@[simp] theorem s11_17 : s11 17 = .seq [0,1,2,3,4,5,6,7,8,9,10,11,12,13,14] .nil:=rfl
@[simp] theorem s11_27 : s11 27 = .seq [0,1,2,3,4,5,6,7,8,9,10,11,12,13,14,15,16,17,18,19,20,21,22,23,24,25,26,27,28,29] .nil:=rfl
def s13 (i : Nat) : Tr:=if i = 6 then .seq [0,1,2,3,4] (.both (.seq [5] (.both (.seq [6,7,8,9,10,11,12] .nil) (.seq [10,6,7,8,9,11,12] .nil))) (.seq [10,5,6,7,8,9,11,12] .nil)) else .nil
theorem mG : s13 6 = .seq [0,1,2,3,4] (.both (.seq [5] (.both (.seq [6,7,8,9,10,11,12] .nil) (.seq [10,6,7,8,9,11,12] .nil))) (.seq [10,5,6,7,8,9,11,12] .nil)):=rfl
def s14 (i : Nat) : Tr:=if i = 6 then .seq [0,1,2,3,4,5,6,7,8,9,10,11] .nil else .nil
@[simp] theorem s14_6 : s14 6 = .seq [0,1,2,3,4,5,6,7,8,9,10,11] .nil:=rfl
def s15 (i : Nat) : Tr:=if i = 4 then .seq [0,1,2,3,4,5,6,7,8] .nil else .nil
@[simp] theorem s15_4 : s15 4 = .seq [0,1,2,3,4,5,6,7,8] .nil:=rfl
def s16 (i : Nat) : Tr:=if i = 7 then .seq [0,1,2,3,4,5,6,7,8,9,10,11] .nil else if i = 9 then .seq [0,1,3,4,5,6,7,2] (.app 8 [48] (.seq [9,10,11,12] .nil)) else .nil
@[simp] theorem s16_7 : s16 7 = .seq [0,1,2,3,4,5,6,7,8,9,10,11] .nil:=rfl
@[simp] theorem s16_9 : s16 9 = .seq [0,1,3,4,5,6,7,2] (.app 8 [48] (.seq [9,10,11,12] .nil)):=rfl
def s17 (i : Nat) : Tr:=if i = 6 then .seq [0,1,2,3,4,5,6,7,8] .nil else .nil
@[simp] theorem s17_6 : s17 6 = .seq [0,1,2,3,4,5,6,7,8] .nil:=rfl
def s18 (i : Nat) : Tr:=if i = 9 then .seq [0,2] (.both (.seq [1,3,4,5] .nil) (.seq [3,1,4,5] .nil)) else .nil
@[simp] theorem s18_9 : s18 9 = .seq [0,2] (.both (.seq [1,3,4,5] .nil) (.seq [3,1,4,5] .nil)):=rfl
def s19 (i : Nat) : Tr:=if i = 9 then .seq [0,1,2,4] (.both (.seq [3] (.both (.seq [5] (.both (.seq [6,7,8,9,10,11,12] .nil) (.seq [10,6,7,8,9,11,12] .nil))) (.seq [10,5,6,7,8,9,11,12] .nil))) (.seq [10,3,5,6,7,8,9,11,12] .nil)) else .nil
@[simp] theorem s19_9 : s19 9 = .seq [0,1,2,4] (.both (.seq [3] (.both (.seq [5] (.both (.seq [6,7,8,9,10,11,12] .nil) (.seq [10,6,7,8,9,11,12] .nil))) (.seq [10,5,6,7,8,9,11,12] .nil))) (.seq [10,3,5,6,7,8,9,11,12] .nil)):=rfl
def s20 (i : Nat) : Tr:=if i = 7 then .seq [0,1,2,3,4,5] (.both (.seq [6,7,8] .nil) (.seq [7,6,8] .nil)) else .nil
@[simp] theorem s20_7 : s20 7 = .seq [0,1,2,3,4,5] (.both (.seq [6,7,8] .nil) (.seq [7,6,8] .nil)):=rfl
def s23 (i : Nat) : Tr:=if i = 12 then .seq [0,1,2,3,4,5,6,7,8,9] .nil else .nil
@[simp] theorem s23_12 : s23 12 = .seq [0,1,2,3,4,5,6,7,8,9] .nil:=rfl
def s24 (i : Nat) : Tr:=if i = 3 then .seq [1,2] (.both (.seq [0,3,4,5] .nil) (.seq [3,0,4,5] .nil)) else .nil
@[simp] theorem s24_3 : s24 3 = .seq [1,2] (.both (.seq [0,3,4,5] .nil) (.seq [3,0,4,5] .nil)):=rfl
def s27 (i : Nat) : Tr:=if i = 17 then .seq [0,1,2,4,7,3,5,6,8,9,10,11,12] .nil else .nil
@[simp] theorem s27_17 : s27 17 = .seq [0,1,2,4,7,3,5,6,8,9,10,11,12] .nil:=rfl
def s29 (i : Nat) : Tr:=if i = 2 then .seq [0] (.both (.seq [1] (.both (.seq [2,3,4,5] .nil) (.seq [3] (.both (.seq [2,4,5] .nil) (.seq [4,2,5] .nil))))) (.both (.seq [2] (.both (.seq [1,3,4,5] .nil) (.seq [3,1,4,5] .nil))) (.seq [3,1] (.both (.seq [2,4,5] .nil) (.seq [4,2,5] .nil))))) else .nil
@[simp] theorem s29_2 : s29 2 = .seq [0] (.both (.seq [1] (.both (.seq [2,3,4,5] .nil) (.seq [3] (.both (.seq [2,4,5] .nil) (.seq [4,2,5] .nil))))) (.both (.seq [2] (.both (.seq [1,3,4,5] .nil) (.seq [3,1,4,5] .nil))) (.seq [3,1] (.both (.seq [2,4,5] .nil) (.seq [4,2,5] .nil))))):=rfl
def s30 (i : Nat) : Tr:=if i = 5 then .seq [0,1,2,3,4,5,6,7,8] .nil else if i = 9 then .seq [0,1,2,3,4,5,6,7,8,9,10,11,12,13,14,15] .nil else .nil
@[simp] theorem s30_5 : s30 5 = .seq [0,1,2,3,4,5,6,7,8] .nil:=rfl
@[simp] theorem s30_9 : s30 9 = .seq [0,1,2,3,4,5,6,7,8,9,10,11,12,13,14,15] .nil:=rfl
def s32 (i : Nat) : Tr:=if i = 3 then .seq [0,1,3,4,5,6] (.both (.seq [2,7,8,9] .nil) (.seq [8,2,7,9] .nil)) else if i = 13 then .seq [0,1,2,3,4,5,6,7,8,9] .nil else .nil
@[simp] theorem s32_3 : s32 3 = .seq [0,1,3,4,5,6] (.both (.seq [2,7,8,9] .nil) (.seq [8,2,7,9] .nil)):=rfl
@[simp] theorem s32_13 : s32 13 = .seq [0,1,2,3,4,5,6,7,8,9] .nil:=rfl
def s37 (i : Nat) : Tr:=if i = 11 then .seq [0,1,2,3,4,5,6,7,8,9,10,11,12,13] .nil else if i = 26 then .seq [0,1,2,3,4,5,6,7,8,9,10,11,12,13,14,15,16,17,18,19,20,21,22] .nil else .nil
@[simp] theorem s37_11 : s37 11 = .seq [0,1,2,3,4,5,6,7,8,9,10,11,12,13] .nil:=rfl
@[simp] theorem s37_26 : s37 26 = .seq [0,1,2,3,4,5,6,7,8,9,10,11,12,13,14,15,16,17,18,19,20,21,22] .nil:=rfl
def s38 (i : Nat) : Tr:=if i = 5 then .seq [0,1,2,3,4,5,6,7,8,9,10,11,12,13,14,15,16,17,18,19,20,21,22,23,24,25,26,27,28,29,30,31,32,33,34,35,36,37,38] .nil else .nil
@[simp] theorem s38_5 : s38 5 = .seq [0,1,2,3,4,5,6,7,8,9,10,11,12,13,14,15,16,17,18,19,20,21,22,23,24,25,26,27,28,29,30,31,32,33,34,35,36,37,38] .nil:=rfl
def s41 (i : Nat) : Tr:=if i = 4 then .seq [0,1,2,3,4,5,6,7,8,9,10,11,12,13,14,15,16,17,18,19,20,21,22,23,24] .nil else .nil
@[simp] theorem s41_4 : s41 4 = .seq [0,1,2,3,4,5,6,7,8,9,10,11,12,13,14,15,16,17,18,19,20,21,22,23,24] .nil:=rfl
def s45 (i : Nat) : Tr:=if i = 4 then .seq [0,1,2,3,4,5,6] (.both (.seq [7,8,9,10,11,12,13] .nil) (.seq [11,7,8,9,10,12,13] .nil)) else if i = 14 then .seq [0,1,2,3,4,5,6,7,8,9,10,11,12,13,14,15,16,17,18,19,20] .nil else .nil
theorem jD : s45 4 = .seq [0,1,2,3,4,5,6] (.both (.seq [7,8,9,10,11,12,13] .nil) (.seq [11,7,8,9,10,12,13] .nil)):=rfl
@[simp] theorem s45_14 : s45 14 = .seq [0,1,2,3,4,5,6,7,8,9,10,11,12,13,14,15,16,17,18,19,20] .nil:=rfl
def s46 (i : Nat) : Tr:=if i = 4 then .seq [0,1,2,3,4,5,6,7,8] .nil else if i = 6 then .seq [0,1,2,3,4,5,6,7,8] .nil else .nil
@[simp] theorem s46_4 : s46 4 = .seq [0,1,2,3,4,5,6,7,8] .nil:=rfl
@[simp] theorem s46_6 : s46 6 = .seq [0,1,2,3,4,5,6,7,8] .nil:=rfl
def s48 (i : Nat) : Tr:=if i = 6 then .seq [0,1,2,3,4,5,6,7,8,9,10,11,12,13,14,15,16,17,18,19,20,21,22,23,24,25,26,27,28,29,30,31,32,33,34,35,36] .nil else .nil
@[simp] theorem s48_6 : s48 6 = .seq [0,1,2,3,4,5,6,7,8,9,10,11,12,13,14,15,16,17,18,19,20,21,22,23,24,25,26,27,28,29,30,31,32,33,34,35,36] .nil:=rfl
def s52 (i : Nat) : Tr:=if i = 5 then .seq [0] (.both (.seq [1] (.both (.seq [2,3,4] .nil) (.seq [3,2,4] .nil))) (.seq [2,1,3,4] .nil)) else if i = 7 then .seq [1] (.both (.seq [0,2,3,4] .nil) (.seq [2,0,3,4] .nil)) else if i = 8 then .seq [0] (.both (.seq [1,2,3] .nil) (.seq [2,1,3] .nil)) else .nil
@[simp] theorem s52_5 : s52 5 = .seq [0] (.both (.seq [1] (.both (.seq [2,3,4] .nil) (.seq [3,2,4] .nil))) (.seq [2,1,3,4] .nil)):=rfl
@[simp] theorem s52_7 : s52 7 = .seq [1] (.both (.seq [0,2,3,4] .nil) (.seq [2,0,3,4] .nil)):=rfl
@[simp] theorem s52_8 : s52 8 = .seq [0] (.both (.seq [1,2,3] .nil) (.seq [2,1,3] .nil)):=rfl
def s58 (i : Nat) : Tr:=if i = 1 then .seq [0,2,3,1,4,5,6] .nil else .nil
@[simp] theorem s58_1 : s58 1 = .seq [0,2,3,1,4,5,6] .nil:=rfl
def s59 (i : Nat) : Tr:=if i = 1 then .seq [0,2,3,1,4,5,6] .nil else .nil
@[simp] theorem s59_1 : s59 1 = .seq [0,2,3,1,4,5,6] .nil:=rfl
def s60 (i : Nat) : Tr:=if i = 12 then .seq [0,1,2,3,4,5,6,8,9,10,11,12,13,14,7,15,16,17] .nil else if i = 17 then .seq [0,1,2,3,4,5,6,7] .nil else if i = 20 then .seq [0,1,2,3,4,5,6,7,8,9,10,11,12,13,14,15,16,17,18] .nil else .nil
@[simp] theorem s60_12 : s60 12 = .seq [0,1,2,3,4,5,6,8,9,10,11,12,13,14,7,15,16,17] .nil:=rfl
@[simp] theorem s60_17 : s60 17 = .seq [0,1,2,3,4,5,6,7] .nil:=rfl
@[simp] theorem s60_20 : s60 20 = .seq [0,1,2,3,4,5,6,7,8,9,10,11,12,13,14,15,16,17,18] .nil:=rfl
def s67 (i : Nat) : Tr:=if i = 4 then .seq [0,1,2,3,4,5] .nil else .nil
@[simp] theorem s67_4 : s67 4 = .seq [0,1,2,3,4,5] .nil:=rfl
def s68 (i : Nat) : Tr:=if i = 1 then .seq [1,2,3,4,5] (.both (.seq [0] (.both (.seq [6] (.both (.seq [7,8,9,10,11,12,13] .nil) (.seq [11,7,8,9,10,12,13] .nil))) (.seq [11,6,7,8,9,10,12,13] .nil))) (.both (.seq [6,0] (.both (.seq [7,8,9,10,11,12,13] .nil) (.seq [11,7,8,9,10,12,13] .nil))) (.seq [11] (.both (.seq [0,6,7,8,9,10,12,13] .nil) (.seq [6,0,7,8,9,10,12,13] .nil))))) else if i = 9 then .seq [0,2,3,4,5,6,7] (.both (.seq [1,8,9,10,11] .nil) (.seq [8,1,9,10,11] .nil)) else if i = 11 then .seq [0,1,2,3,4,5,6,7,8,9,10] .nil else if i = 13 then .seq [0,2,3,5,8] (.both (.seq [1] (.both (.seq [4,6] (.both (.seq [7,9,10] (.app 11 [61] (.seq [12,13] .nil))) (.seq [9,7,10] (.app 11 [61] (.seq [12,13] .nil))))) (.seq [9,4,6,7,10] (.app 11 [61] (.seq [12,13] .nil))))) (.both (.seq [4,6] (.both (.seq [1] (.both (.seq [7,9,10] (.app 11 [61] (.seq [12,13] .nil))) (.seq [9,7,10] (.app 11 [61] (.seq [12,13] .nil))))) (.both (.seq [7] (.both (.seq [1,9,10] (.app 11 [61] (.seq [12,13] .nil))) (.seq [9,1,10] (.app 11 [61] (.seq [12,13] .nil))))) (.seq [9,1,7,10] (.app 11 [61] (.seq [12,13] .nil)))))) (.seq [9,1,4,6,7,10] (.app 11 [61] (.seq [12,13] .nil))))) else .nil
theorem fT : s68 1 = .seq [1,2,3,4,5] (.both (.seq [0] (.both (.seq [6] (.both (.seq [7,8,9,10,11,12,13] .nil) (.seq [11,7,8,9,10,12,13] .nil))) (.seq [11,6,7,8,9,10,12,13] .nil))) (.both (.seq [6,0] (.both (.seq [7,8,9,10,11,12,13] .nil) (.seq [11,7,8,9,10,12,13] .nil))) (.seq [11] (.both (.seq [0,6,7,8,9,10,12,13] .nil) (.seq [6,0,7,8,9,10,12,13] .nil))))):=rfl
@[simp] theorem s68_9 : s68 9 = .seq [0,2,3,4,5,6,7] (.both (.seq [1,8,9,10,11] .nil) (.seq [8,1,9,10,11] .nil)):=rfl
@[simp] theorem s68_11 : s68 11 = .seq [0,1,2,3,4,5,6,7,8,9,10] .nil:=rfl
@[simp] theorem s68_13 : s68 13 = .seq [0,2,3,5,8] (.both (.seq [1] (.both (.seq [4,6] (.both (.seq [7,9,10] (.app 11 [61] (.seq [12,13] .nil))) (.seq [9,7,10] (.app 11 [61] (.seq [12,13] .nil))))) (.seq [9,4,6,7,10] (.app 11 [61] (.seq [12,13] .nil))))) (.both (.seq [4,6] (.both (.seq [1] (.both (.seq [7,9,10] (.app 11 [61] (.seq [12,13] .nil))) (.seq [9,7,10] (.app 11 [61] (.seq [12,13] .nil))))) (.both (.seq [7] (.both (.seq [1,9,10] (.app 11 [61] (.seq [12,13] .nil))) (.seq [9,1,10] (.app 11 [61] (.seq [12,13] .nil))))) (.seq [9,1,7,10] (.app 11 [61] (.seq [12,13] .nil)))))) (.seq [9,1,4,6,7,10] (.app 11 [61] (.seq [12,13] .nil))))):=rfl
def s75 (i : Nat) : Tr:=if i = 2 then .seq [1,2,3,4,5] (.both (.seq [0] (.both (.seq [6] (.both (.seq [7,8,9,10,11,12,13] .nil) (.seq [11,7,8,9,10,12,13] .nil))) (.seq [11,6,7,8,9,10,12,13] .nil))) (.both (.seq [6,0] (.both (.seq [7,8,9,10,11,12,13] .nil) (.seq [11,7,8,9,10,12,13] .nil))) (.seq [11] (.both (.seq [0,6,7,8,9,10,12,13] .nil) (.seq [6,0,7,8,9,10,12,13] .nil))))) else if i = 4 then .seq [2,3] (.both (.seq [0] (.both (.seq [1,4,5,6,7] .nil) (.seq [4] (.both (.seq [1,5,6,7] .nil) (.seq [5,1,6,7] .nil))))) (.both (.seq [1] (.both (.seq [0,4,5,6,7] .nil) (.seq [4,0,5,6,7] .nil))) (.seq [4,0] (.both (.seq [1,5,6,7] .nil) (.seq [5,1,6,7] .nil))))) else if i = 5 then .seq [0] (.both (.seq [1] (.both (.seq [2,3,4,5] .nil) (.seq [3] (.both (.seq [2,4,5] .nil) (.seq [4,2,5] .nil))))) (.both (.seq [2] (.both (.seq [1,3,4,5] .nil) (.seq [3,1,4,5] .nil))) (.seq [3,1] (.both (.seq [2,4,5] .nil) (.seq [4,2,5] .nil))))) else .nil
@[simp] theorem j0 : s75 2 = .seq [1,2,3,4,5] (.both (.seq [0] (.both (.seq [6] (.both (.seq [7,8,9,10,11,12,13] .nil) (.seq [11,7,8,9,10,12,13] .nil))) (.seq [11,6,7,8,9,10,12,13] .nil))) (.both (.seq [6,0] (.both (.seq [7,8,9,10,11,12,13] .nil) (.seq [11,7,8,9,10,12,13] .nil))) (.seq [11] (.both (.seq [0,6,7,8,9,10,12,13] .nil) (.seq [6,0,7,8,9,10,12,13] .nil))))):=rfl
@[simp] theorem s75_4 : s75 4 = .seq [2,3] (.both (.seq [0] (.both (.seq [1,4,5,6,7] .nil) (.seq [4] (.both (.seq [1,5,6,7] .nil) (.seq [5,1,6,7] .nil))))) (.both (.seq [1] (.both (.seq [0,4,5,6,7] .nil) (.seq [4,0,5,6,7] .nil))) (.seq [4,0] (.both (.seq [1,5,6,7] .nil) (.seq [5,1,6,7] .nil))))):=rfl
@[simp] theorem s75_5 : s75 5 = .seq [0] (.both (.seq [1] (.both (.seq [2,3,4,5] .nil) (.seq [3] (.both (.seq [2,4,5] .nil) (.seq [4,2,5] .nil))))) (.both (.seq [2] (.both (.seq [1,3,4,5] .nil) (.seq [3,1,4,5] .nil))) (.seq [3,1] (.both (.seq [2,4,5] .nil) (.seq [4,2,5] .nil))))):=rfl
def s77 (i : Nat) : Tr:=if i = 9 then .seq [0,1,2,4,7,8,9] (.both (.seq [3,5,6,10,11] .nil) (.seq [5,3,6,10,11] .nil)) else .nil
@[simp] theorem s77_9 : s77 9 = .seq [0,1,2,4,7,8,9] (.both (.seq [3,5,6,10,11] .nil) (.seq [5,3,6,10,11] .nil)):=rfl
def s78 (i : Nat) : Tr:=if i = 7 then .seq [0,1,2,3,4,5,6,7,8,9,10,11,12,13,14,15,16,17] .nil else .nil
@[simp] theorem s78_7 : s78 7 = .seq [0,1,2,3,4,5,6,7,8,9,10,11,12,13,14,15,16,17] .nil:=rfl
def s79 (i : Nat) : Tr:=if i = 4 then .seq [0,1,2,4,5,6,3,7,8,9] .nil else if i = 11 then .seq [0,1,2,3,4,5,6,7] .nil else .nil
@[simp] theorem s79_4 : s79 4 = .seq [0,1,2,4,5,6,3,7,8,9] .nil:=rfl
@[simp] theorem s79_11 : s79 11 = .seq [0,1,2,3,4,5,6,7] .nil:=rfl
def s83 (i : Nat) : Tr:=if i = 5 then .seq [0,1,3,4,5,6,7,2] (.app 8 [15] (.seq [9,10,11,12] .nil)) else .nil
@[simp] theorem s83_5 : s83 5 = .seq [0,1,3,4,5,6,7,2] (.app 8 [15] (.seq [9,10,11,12] .nil)):=rfl
def s86 (i : Nat) : Tr:=if i = 13 then .seq [0,1,2,3,4,5,6,7] .nil else .nil
@[simp] theorem s86_13 : s86 13 = .seq [0,1,2,3,4,5,6,7] .nil:=rfl
def s87 (i : Nat) : Tr:=if i = 13 then .seq [0,2] (.both (.seq [1,3,4,5,6,7] .nil) (.seq [3,1,4,5,6,7] .nil)) else .nil
@[simp] theorem s87_13 : s87 13 = .seq [0,2] (.both (.seq [1,3,4,5,6,7] .nil) (.seq [3,1,4,5,6,7] .nil)):=rfl
def s88 (i : Nat) : Tr:=if i = 14 then .seq [0,2,3,4] (.both (.seq [1,5,6,7,8,9] .nil) (.seq [5,1,6,7,8,9] .nil)) else .nil
theorem ee : s88 14 = .seq [0,2,3,4] (.both (.seq [1,5,6,7,8,9] .nil) (.seq [5,1,6,7,8,9] .nil)):=rfl
def s90 (i : Nat) : Tr:=if i = 5 then .seq [0,2,3] (.both (.seq [1,4,5,6,7,8] .nil) (.seq [4] (.both (.seq [1,5,6,7,8] .nil) (.seq [5,1,6,7,8] .nil)))) else if i = 7 then .seq [0,2,3] (.both (.seq [1,4,5,6,7] .nil) (.seq [4,1,5,6,7] .nil)) else if i = 9 then .seq [0,1,2,3,4,5,6,7,8,9,10] .nil else .nil
@[simp] theorem s90_5 : s90 5 = .seq [0,2,3] (.both (.seq [1,4,5,6,7,8] .nil) (.seq [4] (.both (.seq [1,5,6,7,8] .nil) (.seq [5,1,6,7,8] .nil)))):=rfl
@[simp] theorem s90_7 : s90 7 = .seq [0,2,3] (.both (.seq [1,4,5,6,7] .nil) (.seq [4,1,5,6,7] .nil)):=rfl
@[simp] theorem s90_9 : s90 9 = .seq [0,1,2,3,4,5,6,7,8,9,10] .nil:=rfl
def s91 (i : Nat) : Tr:=if i = 6 then .seq [0,2] (.both (.seq [1] (.both (.seq [3] (.both (.seq [4,5,6,7,8,9,10] .nil) (.seq [5,4,6,7,8,9,10] .nil))) (.seq [5,3,4,6,7,8,9,10] .nil))) (.both (.seq [3] (.both (.seq [1] (.both (.seq [4,5,6,7,8,9,10] .nil) (.seq [5,4,6,7,8,9,10] .nil))) (.both (.seq [4,1,5,6,7,8,9,10] .nil) (.seq [5] (.both (.seq [1,4,6,7,8,9,10] .nil) (.seq [4,1,6,7,8,9,10] .nil)))))) (.seq [5] (.both (.seq [1,3,4,6,7,8,9,10] .nil) (.seq [3] (.both (.seq [1,4,6,7,8,9,10] .nil) (.seq [4,1,6,7,8,9,10] .nil))))))) else if i = 8 then .seq [0,2] (.both (.seq [1,3,4,5,6,7,8] .nil) (.seq [3,1,4,5,6,7,8] .nil)) else if i = 12 then .seq [0,5] (.both (.seq [1,2,3] (.both (.seq [4,6,7,8,9] .nil) (.seq [6] (.both (.seq [4,7,8,9] .nil) (.seq [7,4,8,9] .nil))))) (.seq [6] (.both (.seq [1,2,3] (.both (.seq [4,7,8,9] .nil) (.seq [7,4,8,9] .nil))) (.seq [7,1,2,3,4,8,9] .nil)))) else .nil
@[simp] theorem s91_6 : s91 6 = .seq [0,2] (.both (.seq [1] (.both (.seq [3] (.both (.seq [4,5,6,7,8,9,10] .nil) (.seq [5,4,6,7,8,9,10] .nil))) (.seq [5,3,4,6,7,8,9,10] .nil))) (.both (.seq [3] (.both (.seq [1] (.both (.seq [4,5,6,7,8,9,10] .nil) (.seq [5,4,6,7,8,9,10] .nil))) (.both (.seq [4,1,5,6,7,8,9,10] .nil) (.seq [5] (.both (.seq [1,4,6,7,8,9,10] .nil) (.seq [4,1,6,7,8,9,10] .nil)))))) (.seq [5] (.both (.seq [1,3,4,6,7,8,9,10] .nil) (.seq [3] (.both (.seq [1,4,6,7,8,9,10] .nil) (.seq [4,1,6,7,8,9,10] .nil))))))):=rfl
@[simp] theorem s91_8 : s91 8 = .seq [0,2] (.both (.seq [1,3,4,5,6,7,8] .nil) (.seq [3,1,4,5,6,7,8] .nil)):=rfl
@[simp] theorem s91_12 : s91 12 = .seq [0,5] (.both (.seq [1,2,3] (.both (.seq [4,6,7,8,9] .nil) (.seq [6] (.both (.seq [4,7,8,9] .nil) (.seq [7,4,8,9] .nil))))) (.seq [6] (.both (.seq [1,2,3] (.both (.seq [4,7,8,9] .nil) (.seq [7,4,8,9] .nil))) (.seq [7,1,2,3,4,8,9] .nil)))):=rfl
def s92 (i : Nat) : Tr:=if i = 6 then .seq [0,1,2,3,4,5,6,7,8,9,10,11,12,13,14,15,16,17,18,19,20,21,22,23,24,25,26,27,28,29,30,31,32,33,34,35,36,37,38] .nil else .nil
@[simp] theorem s92_6 : s92 6 = .seq [0,1,2,3,4,5,6,7,8,9,10,11,12,13,14,15,16,17,18,19,20,21,22,23,24,25,26,27,28,29,30,31,32,33,34,35,36,37,38] .nil:=rfl
def s97 (i : Nat) : Tr:=if i = 16 then .seq [0,1,2,3,4,5,6,7,8,9,10,11,12] .nil else .nil
@[simp] theorem s97_16 : s97 16 = .seq [0,1,2,3,4,5,6,7,8,9,10,11,12] .nil:=rfl
def s99 (i : Nat) : Tr:=if i = 14 then .seq [0,1,2,3,4,5,6,7,8,9,10,11,12,13,14,15,16,17] .nil else if i = 20 then .seq [0,1,2,3,4,5,6,7,8,9,10,11,12,13,14,15,16,17,18,19,20] .nil else .nil
@[simp] theorem s99_14 : s99 14 = .seq [0,1,2,3,4,5,6,7,8,9,10,11,12,13,14,15,16,17] .nil:=rfl
@[simp] theorem s99_20 : s99 20 = .seq [0,1,2,3,4,5,6,7,8,9,10,11,12,13,14,15,16,17,18,19,20] .nil:=rfl
def s100 (i : Nat) : Tr:=if i = 4 then .seq [0,1,2,3,4,5,6,7,8,9,10,11,12,13,14,15,16,17,18,19,20,21,22,23,24] .nil else .nil
@[simp] theorem s100_4 : s100 4 = .seq [0,1,2,3,4,5,6,7,8,9,10,11,12,13,14,15,16,17,18,19,20,21,22,23,24] .nil:=rfl
def s101 (i : Nat) : Tr:=if i = 6 then .seq [0,1,2,3,4,5,6,7,8] .nil else .nil
@[simp] theorem s101_6 : s101 6 = .seq [0,1,2,3,4,5,6,7,8] .nil:=rfl
def s103 (i : Nat) : Tr:=if i = 10 then .seq [0,1,2,3,4,5,6,7,8,9,10,11,12,13,14] .nil else if i = 17 then .seq [0,2,3,4,5,6,7,8,9,1,10] .nil else .nil
theorem cD : s103 10 = .seq [0,1,2,3,4,5,6,7,8,9,10,11,12,13,14] .nil:=rfl
@[simp] theorem Lg : s103 17 = .seq [0,2,3,4,5,6,7,8,9,1,10] .nil:=rfl
def s106 (i : Nat) : Tr:=if i = 4 then .seq [0,1,2,3,4,5,6,7,8,9] .nil else .nil
@[simp] theorem s106_4 : s106 4 = .seq [0,1,2,3,4,5,6,7,8,9] .nil:=rfl
def s108 (i : Nat) : Tr:=if i = 9 then .seq [0,1,2,3,4] .nil else if i = 11 then .seq [0,1,2,3,4,5] .nil else .nil
@[simp] theorem s108_9 : s108 9 = .seq [0,1,2,3,4] .nil:=rfl
@[simp] theorem Lh : s108 11 = .seq [0,1,2,3,4,5] .nil:=rfl
def s112 (i : Nat) : Tr:=if i = 8 then .seq [0,1,2,3,4,5] (.both (.seq [6,7,8,9,10,11,12] .nil) (.seq [10,6,7,8,9,11,12] .nil)) else if i = 13 then .seq [0,1,2,3,4,5] .nil else .nil
@[simp] theorem s112_8 : s112 8 = .seq [0,1,2,3,4,5] (.both (.seq [6,7,8,9,10,11,12] .nil) (.seq [10,6,7,8,9,11,12] .nil)):=rfl
@[simp] theorem Li : s112 13 = .seq [0,1,2,3,4,5] .nil:=rfl
def s113 (i : Nat) : Tr:=if i = 31 then .seq [0,1,2,3,4,5,6,7,8,9,10,11,12,13,14,15,16,17,18,19,20,21,22,23,24,25,26,27,28,29,30,31,32] .nil else .nil
@[simp] theorem Lj : s113 31 = .seq [0,1,2,3,4,5,6,7,8,9,10,11,12,13,14,15,16,17,18,19,20,21,22,23,24,25,26,27,28,29,30,31,32] .nil:=rfl
def s116 (i : Nat) : Tr:=if i = 1 then .seq [0,1,2,3,4,5,6,7,8,9,10,12,13,11,14,15,16,17] .nil else .nil
@[simp] theorem s116_1 : s116 1 = .seq [0,1,2,3,4,5,6,7,8,9,10,12,13,11,14,15,16,17] .nil:=rfl
def s119 (i : Nat) : Tr:=if i = 4 then .seq [0,1,2,3,4,5,6,7,8] .nil else if i = 5 then .seq [0,1,2,3,4,5,6,7,8,9] .nil else .nil
@[simp] theorem s119_4 : s119 4 = .seq [0,1,2,3,4,5,6,7,8] .nil:=rfl
@[simp] theorem s119_5 : s119 5 = .seq [0,1,2,3,4,5,6,7,8,9] .nil:=rfl
def s124 (i : Nat) : Tr:=if i = 2 then .seq [0,1,2,3,4,5,6,7,8,9,10,11,12] .nil else if i = 3 then .seq [0,1,2,3,4,5,6,7,8,9] .nil else if i = 4 then .seq [0,1,2,3,4,5,6,7,8,9,10,11,12,13,14] .nil else .nil
theorem H0 : s124 2 = .seq [0,1,2,3,4,5,6,7,8,9,10,11,12] .nil:=rfl
theorem C3 : s124 3 = .seq [0,1,2,3,4,5,6,7,8,9] .nil:=rfl
theorem H1 : s124 4 = .seq [0,1,2,3,4,5,6,7,8,9,10,11,12,13,14] .nil:=rfl
def s125 (i : Nat) : Tr:=if i = 6 then .seq [0,2,3,4,5] (.both (.seq [1,6,7,8,9,10] .nil) (.seq [6,1,7,8,9,10] .nil)) else if i = 9 then .seq [0,4] (.both (.seq [1,2] (.both (.seq [3,5,6,7,8] .nil) (.seq [5] (.both (.seq [3,6,7,8] .nil) (.seq [6,3,7,8] .nil))))) (.seq [5] (.both (.seq [1,2] (.both (.seq [3,6,7,8] .nil) (.seq [6,3,7,8] .nil))) (.seq [6,1,2,3,7,8] .nil)))) else .nil
@[simp] theorem s125_6 : s125 6 = .seq [0,2,3,4,5] (.both (.seq [1,6,7,8,9,10] .nil) (.seq [6,1,7,8,9,10] .nil)):=rfl
@[simp] theorem s125_9 : s125 9 = .seq [0,4] (.both (.seq [1,2] (.both (.seq [3,5,6,7,8] .nil) (.seq [5] (.both (.seq [3,6,7,8] .nil) (.seq [6,3,7,8] .nil))))) (.seq [5] (.both (.seq [1,2] (.both (.seq [3,6,7,8] .nil) (.seq [6,3,7,8] .nil))) (.seq [6,1,2,3,7,8] .nil)))):=rfl
def s126 (i : Nat) : Tr:=if i = 1 then .seq [0,1,2,3,4,5,6] .nil else .nil
@[simp] theorem s126_1 : s126 1 = .seq [0,1,2,3,4,5,6] .nil:=rfl
def s128 (i : Nat) : Tr:=if i = 8 then .seq [0,2,3,4,5,6,1,7] .nil else .nil
@[simp] theorem s128_8 : s128 8 = .seq [0,2,3,4,5,6,1,7] .nil:=rfl
def s130 (i : Nat) : Tr:=if i = 9 then .seq [0,1,2,3,4,5,6,7,8,9,10,11,12,13,14,15,16] .nil else .nil
@[simp] theorem s130_9 : s130 9 = .seq [0,1,2,3,4,5,6,7,8,9,10,11,12,13,14,15,16] .nil:=rfl
def s134 (i : Nat) : Tr:=if i = 7 then .seq [0,1,2,3,4,5,6,7] (.both (.seq [8,9,10,11,12,13,14] .nil) (.seq [12,8,9,10,11,13,14] .nil)) else .nil
@[simp] theorem s134_7 : s134 7 = .seq [0,1,2,3,4,5,6,7] (.both (.seq [8,9,10,11,12,13,14] .nil) (.seq [12,8,9,10,11,13,14] .nil)):=rfl
def s137 (i : Nat) : Tr:=if i = 7 then .seq [0,1,2,3,4,5,6,7] (.both (.seq [8,9,10,11,12,13,14] .nil) (.seq [12,8,9,10,11,13,14] .nil)) else .nil
@[simp] theorem s137_7 : s137 7 = .seq [0,1,2,3,4,5,6,7] (.both (.seq [8,9,10,11,12,13,14] .nil) (.seq [12,8,9,10,11,13,14] .nil)):=rfl
def s142 (i : Nat) : Tr:=if i = 2 then .seq [0,1,2,3,4,5] .nil else .nil
@[simp] theorem s142_2 : s142 2 = .seq [0,1,2,3,4,5] .nil:=rfl
def s147 (i : Nat) : Tr:=if i = 4 then .seq [0,1,2,3,5] (.both (.seq [4,6] (.app 7 [4] (.seq [8] .nil))) (.seq [6,4] (.app 7 [4] (.seq [8] .nil)))) else .nil
@[simp] theorem s147_4 : s147 4 = .seq [0,1,2,3,5] (.both (.seq [4,6] (.app 7 [4] (.seq [8] .nil))) (.seq [6,4] (.app 7 [4] (.seq [8] .nil)))):=rfl
def s148 (i : Nat) : Tr:=if i = 10 then .seq [0,1,3,4,5,6] (.both (.seq [2,7,8,9,10,11] .nil) (.seq [7,2,8,9,10,11] .nil)) else if i = 20 then .seq [0,1,2,3,4,5,6,7,8,9,10,11,12,13,14,15] .nil else if i = 24 then .seq [0,1,2,3,4,5,6,7,8,9,10,11,12,13,14,15,16,17,18,19,20,21,22,23,24,25,26] .nil else if i = 30 then .seq [0,1,2,3,4,5,6,7,8,9,10,11,12,13] (.both (.seq [14,15,16,17,18,19,20] .nil) (.seq [18,14,15,16,17,19,20] .nil)) else .nil
@[simp] theorem Lk : s148 10 = .seq [0,1,3,4,5,6] (.both (.seq [2,7,8,9,10,11] .nil) (.seq [7,2,8,9,10,11] .nil)):=rfl
@[simp] theorem Ll : s148 20 = .seq [0,1,2,3,4,5,6,7,8,9,10,11,12,13,14,15] .nil:=rfl
@[simp] theorem Lm : s148 24 = .seq [0,1,2,3,4,5,6,7,8,9,10,11,12,13,14,15,16,17,18,19,20,21,22,23,24,25,26] .nil:=rfl
@[simp] theorem Ln : s148 30 = .seq [0,1,2,3,4,5,6,7,8,9,10,11,12,13] (.both (.seq [14,15,16,17,18,19,20] .nil) (.seq [18,14,15,16,17,19,20] .nil)):=rfl
def s149 (i : Nat) : Tr:=if i = 15 then .seq [0,1,2,3,4,5,6,7,8,9] .nil else .nil
@[simp] theorem Lo : s149 15 = .seq [0,1,2,3,4,5,6,7,8,9] .nil:=rfl
def s150 (i : Nat) : Tr:=if i = 6 then .seq [0,1,2,3,4,5,6,7,8] .nil else .nil
@[simp] theorem s150_6 : s150 6 = .seq [0,1,2,3,4,5,6,7,8] .nil:=rfl
def s155 (i : Nat) : Tr:=if i = 10 then .seq [0,2,3,4,5,7,8,9,10] (.both (.seq [1] (.both (.app 6 [50] (.seq [11,12,13,14,15] .nil)) (.seq [11] (.app 6 [50] (.seq [12,13,14,15] .nil))))) (.seq [11,1] (.app 6 [50] (.seq [12,13,14,15] .nil)))) else if i = 28 then .seq [0,1,2,3,4,5,6,7,8,9,10,11,12,13] (.both (.seq [14,15,16,17,18,19,20] .nil) (.seq [18,14,15,16,17,19,20] .nil)) else .nil
@[simp] theorem Lp : s155 10 = .seq [0,2,3,4,5,7,8,9,10] (.both (.seq [1] (.both (.app 6 [50] (.seq [11,12,13,14,15] .nil)) (.seq [11] (.app 6 [50] (.seq [12,13,14,15] .nil))))) (.seq [11,1] (.app 6 [50] (.seq [12,13,14,15] .nil)))):=rfl
@[simp] theorem Lq : s155 28 = .seq [0,1,2,3,4,5,6,7,8,9,10,11,12,13] (.both (.seq [14,15,16,17,18,19,20] .nil) (.seq [18,14,15,16,17,19,20] .nil)):=rfl
def s156 (i : Nat) : Tr:=if i = 12 then .seq [0,1,2,3,4,5,6,7,8,10,9,11,12] .nil else .nil
@[simp] theorem Lr : s156 12 = .seq [0,1,2,3,4,5,6,7,8,10,9,11,12] .nil:=rfl
def s157 (i : Nat) : Tr:=if i = 6 then .seq [0,1,2,3,4,5,6,7,8] .nil else .nil
@[simp] theorem s157_6 : s157 6 = .seq [0,1,2,3,4,5,6,7,8] .nil:=rfl
def s160 (i : Nat) : Tr:=if i = 4 then .seq [0,1,2,3,4,5,6,7,8,9,10,11,12,13,14,15,16,17,18,19] .nil else .nil
@[simp] theorem s160_4 : s160 4 = .seq [0,1,2,3,4,5,6,7,8,9,10,11,12,13,14,15,16,17,18,19] .nil:=rfl
def s162 (i : Nat) : Tr:=if i = 1 then .seq [0,1,2,3,4,5,6,7] (.both (.seq [8,9,10,11,12,13,14] .nil) (.seq [12,8,9,10,11,13,14] .nil)) else if i = 7 then .seq [0,1,2,3,4] (.both (.seq [5,6,7,8,9,10,11] .nil) (.seq [9,5,6,7,8,10,11] .nil)) else if i = 8 then .seq [0,1,2,3,4] (.both (.seq [5,6,7,8,9,10,11] .nil) (.seq [9,5,6,7,8,10,11] .nil)) else .nil
@[simp] theorem s162_1 : s162 1 = .seq [0,1,2,3,4,5,6,7] (.both (.seq [8,9,10,11,12,13,14] .nil) (.seq [12,8,9,10,11,13,14] .nil)):=rfl
@[simp] theorem s162_7 : s162 7 = .seq [0,1,2,3,4] (.both (.seq [5,6,7,8,9,10,11] .nil) (.seq [9,5,6,7,8,10,11] .nil)):=rfl
@[simp] theorem s162_8 : s162 8 = .seq [0,1,2,3,4] (.both (.seq [5,6,7,8,9,10,11] .nil) (.seq [9,5,6,7,8,10,11] .nil)):=rfl
def s165 (i : Nat) : Tr:=if i = 6 then .seq [0,1,2,3,4,5,6,7,8] .nil else .nil
@[simp] theorem s165_6 : s165 6 = .seq [0,1,2,3,4,5,6,7,8] .nil:=rfl
def s167 (i : Nat) : Tr:=if i = 5 then .seq [0,1,2,3,4,5,6,7,8,9,10,11,12,13] (.both (.seq [14,15,16,17,18,19,20] .nil) (.seq [18,14,15,16,17,19,20] .nil)) else if i = 9 then .seq [0,1,2,3,4,5,6,7] (.both (.seq [8,9,10,11,12,13,14] .nil) (.seq [12,8,9,10,11,13,14] .nil)) else if i = 10 then .seq [0,1,2,3,4,5,6,7] (.both (.seq [8,9,10,11,12,13,14] .nil) (.seq [12,8,9,10,11,13,14] .nil)) else if i = 12 then .seq [0,1,2,3,4,5,6,7] .nil else .nil
@[simp] theorem s167_5 : s167 5 = .seq [0,1,2,3,4,5,6,7,8,9,10,11,12,13] (.both (.seq [14,15,16,17,18,19,20] .nil) (.seq [18,14,15,16,17,19,20] .nil)):=rfl
@[simp] theorem s167_9 : s167 9 = .seq [0,1,2,3,4,5,6,7] (.both (.seq [8,9,10,11,12,13,14] .nil) (.seq [12,8,9,10,11,13,14] .nil)):=rfl
@[simp] theorem Ls : s167 10 = .seq [0,1,2,3,4,5,6,7] (.both (.seq [8,9,10,11,12,13,14] .nil) (.seq [12,8,9,10,11,13,14] .nil)):=rfl
@[simp] theorem Lt : s167 12 = .seq [0,1,2,3,4,5,6,7] .nil:=rfl
def s170 (i : Nat) : Tr:=if i = 8 then .seq [0,1,2,3,4,5,6,7,8] .nil else .nil
@[simp] theorem s170_8 : s170 8 = .seq [0,1,2,3,4,5,6,7,8] .nil:=rfl
end
section
open Go.Vs Go.Proofs Go
set_option maxRecDepth 100000
set_option maxHeartbeats 1000000
attribute [simp] aR aC ax ay pS cP cI cStr cU8 cB
theorem aN (n lo hi : Int) : VC Tryz.prog 73 [.d (.int .i64 n),.d (.int .i64 lo),.d (.int .i64 hi)] (fun _ r=>r = .d (.bool (inR n lo hi))):=by
 refine VC.ofL EP sZ Tryz.func73 fun B hl=>?_
 by_cases h : lo <= n
 ·simp [Tryz.f73,inR,h]
 ·simp [Tryz.f73,inR,h]
theorem bB (n lo hi : Int) : VC Tryz.prog 47 [.d (.int .i64 n),.d (.int .i64 lo),.d (.int .i64 hi)] (fun _ r=>r = .d (.bool (inR n lo hi))):=by
 refine VC.ofL EP sZ Tryz.func47 fun B hl=>?_
 by_cases h : lo <= n
 ·simp [Tryz.f47,inR,h]
 ·simp [Tryz.f47,inR,h]
theorem fc (xs : List Int) : VC Tryz.prog 120 [.d (pS cI xs)] (fun _ r=>r = .d (.bool (aZ xs))):=by
 refine VC.ofL EP sZ Tryz.func120 fun B hl=>?_
 simp [pS,maxLen] at hl
 simp [Tryz.f120,pS]
 refine ae (X:=Nat) (fun i=>i <= xs.length /\ (xs.take i).all (fun v=>inR v 0 99) = true) (fun i=>[(5,.d (.pl (xs.map cI))),(6,.d (.int .i64 xs.length)),(7,.d (.int .i64 i))]) (fun _=>[]) (fun i=>xs.length - i) 0 (by simp) (by simp) (by simp) ?_
 intro i hs t m hi hh
 by_cases hlt : i < xs.length
 ·have hwi:=wr1 (i:=i) (by omega)
  have hst:=oK (p:=fun v=>inR v 0 99) hlt
  rw [hi.2,Bool.true_and] at hst
  have hbad : inR xs[i] 0 99 = false -> aZ xs = false:=bn (p:=fun v=>inR v 0 99) hlt
  simp [hlt,cI]
  refine ag (aN xs[i] 0 99) (by simp) rfl fun hs1 hh1=>?_
  cases hc : inR xs[i] 0 99
  ·simp [hbad hc]
  ·simp [hwi]
   simp at hh1
   exact back (i + 1) ⟨by omega,Jk.1 (hst.trans hc)⟩ (by omega) rfl (by simp <;> omega) (by simp) (by simp)
 ·have hd : aZ xs = true:=oJ (by omega) hi.2
  simp [hlt,hd]
end
section
open Go.Vs Go.Proofs Go
set_option maxRecDepth 100000
set_option maxHeartbeats 1000000
theorem dw (xs : List Int) : VC Tryz.prog 85 [.d (pS cI xs)] (fun _ r=>r = .d (.bool (aZ xs))):=by
 refine VC.ofL EP sZ Tryz.func85 fun B hl=>?_
 simp [pS,maxLen] at hl
 simp [Tryz.f85,pS]
 refine ae (X:=Nat) (fun i=>i <= xs.length /\ (xs.take i).all (fun v=>inR v 0 99) = true) (fun i=>[(0,.d (.pl (xs.map cI))),(3,.d (.int .i64 i))]) (fun _=>[]) (fun i=>xs.length - i) 0 (by simp) (by simp) (by simp) ?_
 intro i hs t m hi hh
 by_cases hlt : i < xs.length
 ·have hwi:=wr1 (i:=i) (by omega)
  have hst:=oK (p:=fun v=>inR v 0 99) hlt
  rw [hi.2,Bool.true_and] at hst
  have hbad : inR xs[i] 0 99 = false -> aZ xs = false:=bn (p:=fun v=>inR v 0 99) hlt
  simp [hlt,cI]
  refine ag (bB xs[i] 0 99) (by simp) rfl fun hs1 hh1=>?_
  simp at hh1
  cases hc : inR xs[i] 0 99
  ·simp [hbad hc]
  ·simp [hwi]
   exact back (i + 1) ⟨by omega,Jk.1 (hst.trans hc)⟩ (by omega) rfl (by simp <;> omega) (by simp) (by simp)
 ·have hd : aZ xs = true:=oJ (by omega) hi.2
  simp [hlt,hd]
theorem bj (a b : List Int) : VC Tryz.prog 46 [.d (pS cI a),.d (pS cI b)] (fun _ r=>r = .d (.int .i64 (cmpL a b))):=by
 refine VC.ofL EP s46 Tryz.func46 fun B hl=>?_
 simp [pS,maxLen,cI] at hl
 simp [Tryz.f46,pS]
 refine ae (X:=Nat) (fun i=>i <= a.length /\ i <= b.length /\ cmpL a b = cmpL (a.drop i) (b.drop i)) (fun i=>[(0,.d (.pl (a.map cI))),(1,.d (.pl (b.map cI))),(5,.d (.int .i64 i))]) (fun _=>[]) (fun i=>a.length - i) 0 (by simp) (by simp) (by simp) ?_
 intro i hs t m hi hh
 by_cases hlt : i < a.length
 ·by_cases hlb : i < b.length
  ·have hwi:=wr1 (i:=i) (by omega)
   have hc:=qO hlt hlb
   rw [<- hi.2.2] at hc
   by_cases h1 : a[i] < b[i]
   ·simp [cI,hlt,hlb,h1,hc]
   ·by_cases h2 : b[i] < a[i]
    ·simp [cI,hlt,hlb,h1,h2,hc]
    ·simp only [h1,h2,if_false] at hc
     simp [cI,hlt,hlb,h1,h2,hwi]
     exact back (i + 1) ⟨by omega,by omega,hc⟩ (by omega) rfl (by simp) (by simp) (by simp)
  ·have he:=oX hi.1 hi.2.1 (by omega)
   rw [<- hi.2.2] at he
   by_cases h1 : a.length < b.length
   ·simp [hlt,hlb,h1,he]
   ·by_cases h2 : b.length < a.length <;> simp [hlt,hlb,h1,h2,he]
 ·have he:=oX hi.1 hi.2.1 (by omega)
  rw [<- hi.2.2] at he
  by_cases h1 : a.length < b.length
  ·simp [hlt,h1,he]
  ·by_cases h2 : b.length < a.length <;> simp [hlt,h1,h2,he]
theorem de (x y : Int) : VC Tryz.prog 70 [.d (.int .i64 x),.d (.int .i64 y)] (fun _ r=>r = .d (.int .i64 (if x < y then -1 else if y < x then 1 else 0))):=by
 refine VC.ofL EP sZ Tryz.func70 fun B hl=>?_
 by_cases h1 : x < y
 ·simp [Tryz.f70,h1]
 ·by_cases h2 : y < x <;> simp [Tryz.f70,h1,h2]
theorem gX (a b : List Int) : VC Tryz.prog 119 [.d (pS cI a),.d (pS cI b)] (fun _ r=>r = .d (.int .i64 (cmpL a b))):=by
 refine VC.ofL EP s119 Tryz.func119 fun B hl=>?_
 simp [pS,maxLen,cI] at hl
 simp [Tryz.f119,pS]
 refine ae (X:=Nat) (fun i=>i <= a.length /\ i <= b.length /\ cmpL a b = cmpL (a.drop i) (b.drop i)) (fun i=>[(0,.d (.pl (a.map cI))),(1,.d (.pl (b.map cI))),(5,.d (.int .i64 i))]) (fun _=>[]) (fun i=>a.length - i) 0 (by simp) (by simp) (by simp) ?_
 intro i hs t m hi hh
 by_cases hlt : i < a.length /\ i < b.length
 ·obtain ⟨hlt,hlb⟩:=hlt
  have hwi:=wr1 (i:=i) (by omega)
  have hc:=qO hlt hlb
  rw [<- hi.2.2] at hc
  by_cases he : a[i] = b[i]
  ·rw [if_neg (by omega),if_neg (by omega)] at hc
   simp [cI,hlt,hlb,hwi,he]
   exact back (i + 1) ⟨by omega,by omega,hc⟩ (by omega) rfl (by simp) (by simp) (by simp)
  ·simp [cI,hlt,hlb,hwi,he]
   refine ag (de a[i] b[i]) (by simp) rfl fun hs1 hh1=>?_
   have : (if a[i] < b[i] then (-1 : Int) else if b[i] < a[i] then 1 else 0) = cmpL a b:=by rw [hc]; by_cases h1 : a[i] < b[i] <;> simp [h1]; omega
   simp [this]
 ·have he:=oX hi.1 hi.2.1 hlt
  rw [<- hi.2.2] at he
  have hcm : (if (a.length : Int) < b.length then (-1 : Int) else if (b.length : Int) < a.length then 1 else 0) = cmpL a b:=by rw [he]; simp
  by_cases hl1 : i < a.length
  ·have hl2 : ¬ i < b.length:=fun h=>hlt ⟨hl1,h⟩
   simp [hl1,hl2]
   refine ag (de a.length b.length) (by simp) rfl fun hs1 hh1=>?_
   simp only [hcm]
   simp
  ·simp [hl1]
   refine ag (de a.length b.length) (by simp) rfl fun hs1 hh1=>?_
   simp only [hcm]
   simp
end
section
open Go.Vs Go.Proofs Go
set_option maxRecDepth 100000
set_option maxHeartbeats 1000000
theorem nC (ar : Int) (l : List (List Int)) : VC Tryz.prog 117 [.d (.int .i64 ar),.d (pS (cP cI) l)] (fun _ r=>r = .d (.bool (aL ar l))):=by
 refine VC.ofL EP sZ Tryz.func117 fun B hl=>?_
 simp [pS,cP,cI,maxLen] at hl
 simp [Tryz.f117,pS]
 refine ag (aN ar 0 5) (by simp) rfl fun hs0 hh0=>?_
 simp at hh0
 cases h1 : inR ar 0 5
 ·simp [aL,h1]
 by_cases h2 : (4000 : Int) < l.length
 ·simp [aL,h2,show ¬ l.length <= 4000 by omega]
 have h2' : l.length <= 4000:=by omega
 simp [h2]
 refine ae (X:=Nat) (fun i=>i <= l.length /\ ∀ j,j < i -> dU ar l j = true) (fun i=>[(0,.d (.int .i64 ar)),(1,.d (.pl (l.map (cP cI)))),(15,.d (.pl (l.map (cP cI)))),(16,.d (.int .i64 l.length)),(17,.d (.int .i64 i))]) (fun _=>[]) (fun i=>l.length - i) 0 (by simp) (by simp) (by simp) ?_
 intro i hs t m hi hh
 by_cases hlt : i < l.length
 ·have hwi:=wr1 (i:=i) (by omega)
  have hr : dU ar l i = (decide ((l[i].length : Int) = ar) && aZ l[i] && (i == 0 || decide (cmpL (l.getD (i - 1) []) l[i] < 0))):=by simp [dU,hlt]
  have hbad:=fun h=>uU (ar:=ar) hlt h
  have step : dU ar l i = true -> ∀ j,j < i + 1 -> dU ar l j = true:=fun h j hj=>by
   rcases Nat.lt_succ_iff_lt_or_eq.1 hj with h' | h'
   ·exact hi.2 j h'
   ·rw [h']; exact h
  by_cases c1 : (l[i].length : Int) = ar
  case neg=>simp [hlt,cP,pS,c1,hbad (by rw [hr]; simp [c1])]
  simp [hlt,cP,pS,c1]
  refine ag (fc l[i]) (by simp [pS]) rfl fun hs1 hh1=>?_
  simp at hh1
  cases c2 : aZ l[i]
  ·simp [hbad (by rw [hr]; simp [c2])]
  by_cases c3 : i = 0
  ·subst c3
   simp [hwi,show IntKind.i64.wrap 1 = 1 by decide]
   exact back 1 ⟨by omega,step (by rw [hr]; simp [c1,c2])⟩ (by omega) rfl (by simp <;> omega) (by simp [cP,pS,show IntKind.i64.wrap 1 = 1 by decide]) (by simp)
  ·have hw1 : IntKind.i64.wrap ((i : Int) - 1) = ((i - 1 : Nat) : Int):=by rw [aj (by omega) (by omega)]; omega
   have hip : (0 : Int) < i:=by omega
   have hlt1 : i - 1 < l.length:=by omega
   have hg1 : l.getD (i - 1) [] = l[i - 1]:=by simp [hlt1]
   rw [hg1] at hr
   simp [hip,hw1,hlt1,cP,pS,c3,show 0 < i by omega]
   refine ag (gX l[i - 1] l[i]) (by simp [pS]) rfl fun hs2 hh2=>?_
   simp at hh2
   by_cases c4 : cmpL l[i - 1] l[i] < 0
   ·simp [hwi,show ¬ 0 <= cmpL l[i - 1] l[i] by omega]
    exact back (i + 1) ⟨by omega,step (by rw [hr]; simp [c1,c2,c4])⟩ (by omega) rfl (by simp <;> omega) (by simp [cP,pS]) (by simp)
   ·simp [show 0 <= cmpL l[i - 1] l[i] by omega,hbad (by rw [hr]; simp [c3,c4])]
 ·have hn : i = l.length:=by omega
  have hd:=rD h1 h2' (hn ▸ hi.2)
  simp [hlt,hd]
theorem bO (r : bE) : VC Tryz.prog 74 [.agg ((ao r).map .d)] (fun _ v=>v = .d (.bool (aL r.ar r.rows))):=by
 refine VC.ofL EP sZ Tryz.func74 fun B hl=>?_
 simp [Tryz.f74,ao,cI,cP]
 refine ag (nC r.ar r.rows) (by simp [pS,cP]) rfl fun hs0 hh0=>?_
 simp
theorem bm (r : bE) : VC Tryz.prog 48 [.agg ((ao r).map .d)] (fun _ v=>v = .d (.bool (aL r.ar r.rows))):=by
 obtain ⟨ar,l⟩:=r
 refine VC.ofL EP s48 Tryz.func48 fun B hl=>?_
 simp [ao,pS,cP,cI,maxLen] at hl
 simp [Tryz.f48,ao,cI,cP,pS]
 refine ag (bB ar 0 5) (by simp) rfl fun hs0 hh0=>?_
 simp at hh0
 cases h1 : inR ar 0 5
 ·simp [aL,h1]
 by_cases h2 : (4000 : Int) < l.length
 ·simp [aL,h2,show ¬ l.length <= 4000 by omega]
 have h2' : l.length <= 4000:=by omega
 simp [h2]
 refine ae (X:=Nat) (fun i=>i <= l.length /\ ∀ j,j < i -> dU ar l j = true) (fun i=>[(1,.ptr 1 0 0),(3,.d (.int .i64 i))]) (fun _=>[(1,some (.box [.d (.int .i64 ar),.d (.pl (l.map fun xs=>[.pl (xs.map cI)]))]))]) (fun i=>l.length - i) 0 (by simp) (by simp) (by simp [cI,cP,pS]) ?_
 intro i hs t m hi hh
 by_cases hlt : i < l.length
 ·have hwi:=wr1 (i:=i) (by omega)
  have hr : dU ar l i = (decide ((l[i].length : Int) = ar) && aZ l[i] && (i == 0 || decide (cmpL (l.getD (i - 1) []) l[i] < 0))):=by simp [dU,hlt]
  have hbad:=fun h=>uU (ar:=ar) hlt h
  have step : dU ar l i = true -> ∀ j,j < i + 1 -> dU ar l j = true:=fun h j hj=>by
   rcases Nat.lt_succ_iff_lt_or_eq.1 hj with h' | h'
   ·exact hi.2 j h'
   ·rw [h']; exact h
  by_cases c1 : (l[i].length : Int) = ar
  case neg=>simp [hlt,c1,hbad (by rw [hr]; simp [c1])]
  simp [hlt,c1]
  refine ag (dw l[i]) (by simp [pS]) rfl fun hs1 hh1=>?_
  simp at hh1
  cases c2 : aZ l[i]
  ·simp [hbad (by rw [hr]; simp [c2])]
  by_cases c3 : i = 0
  ·subst c3
   simp [hwi,show IntKind.i64.wrap 1 = 1 by decide]
   exact back 1 ⟨by omega,step (by rw [hr]; simp [c1,c2])⟩ (by omega) rfl (by simp <;> omega) (by simp [show IntKind.i64.wrap 1 = 1 by decide]) (by simp)
  ·have hw1 : IntKind.i64.wrap ((i : Int) - 1) = ((i - 1 : Nat) : Int):=by rw [aj (by omega) (by omega)]; omega
   have hip : (0 : Int) < i:=by omega
   have hlt1 : i - 1 < l.length:=by omega
   have hg1 : l.getD (i - 1) [] = l[i - 1]:=by simp [hlt1]
   rw [hg1] at hr
   simp [hip,hw1,hlt1,hlt,c3,show 0 < i by omega]
   refine ag (bj l[i - 1] l[i]) (by simp [pS]) rfl fun hs2 hh2=>?_
   simp at hh2
   by_cases c4 : cmpL l[i - 1] l[i] < 0
   ·simp [hwi,show ¬ 0 <= cmpL l[i - 1] l[i] by omega]
    exact back (i + 1) ⟨by omega,step (by rw [hr]; simp [c1,c2,c4])⟩ (by omega) rfl (by simp <;> omega) (by simp) (by simp)
   ·simp [show 0 <= cmpL l[i - 1] l[i] by omega,hbad (by rw [hr]; simp [c3,c4])]
 ·have hn : i = l.length:=by omega
  have hd:=rD h1 h2' (hn ▸ hi.2)
  simp [hlt,hd]
end
section
open Go.Vs Go.Proofs Go
set_option maxRecDepth 100000
set_option maxHeartbeats 1000000
theorem qp (r : bE) (row : List Int) (hb : r.rows.length <= 4294967296) : VC Tryz.prog 50 [.agg ((ao r).map .d),.d (pS cI row)] (fun _ v=>v = .tup [.d (.int .i64 (dt r.rows row)),.d (.bool (gO r.rows row))]):=by
 obtain ⟨ar,l⟩:=r
 simp only at hb ⊢
 refine VC.ofL EP sZ Tryz.func50 fun B hl=>?_
 simp [ao,pS,cP,cI,maxLen] at hl
 simp [Tryz.f50,ao,cI,cP,pS]
 refine ae (X:=Nat × Nat) (fun p=>p.1 <= p.2 /\ p.2 <= l.length /\ bs l row p.1 p.2 = dt l row) (fun p=>[(2,.ptr 2 0 0),(1,.d (.pl (row.map cI))),(6,.d (.int .i64 p.1)),(7,.d (.int .i64 p.2))]) (fun _=>[(2,some (.box [.d (.int .i64 ar),.d (.pl (l.map (cP cI)))]))]) (fun p=>p.2 - p.1) (0,l.length) (by simp; rfl) (by simp [cI]) (by simp [cP,pS,cI]) ?_
 rintro ⟨lo,hi⟩ hs t m ⟨h1,h2,h3⟩ hh
 simp only at h1 h2 h3
 by_cases hlt : lo < hi
 ·rw [AI hlt] at h3
  have hm:=JP (a:=lo) (b:=hi) (by omega) (by omega)
  have hml : (lo + hi) / 2 < l.length:=by omega
  have hk1 : lo <= (lo + hi) / 2 /\ (lo + hi) / 2 < hi:=by omega
  generalize (lo + hi) / 2 = k at *
  have hg : l.getD k [] = l[k]:=by simp [hml]
  simp [hlt,hm,hml,cP,pS]
  refine ag (bj l[k] row) (by simp [pS]) rfl fun hs1 hh1=>?_
  simp at hh1
  rw [hg] at h3
  by_cases hc : cmpL l[k] row < 0
  ·rw [if_pos hc] at h3
   have hw:=wr1 (i:=k) (by omega)
   simp [hc,hw]
   exact back (k + 1,hi) ⟨by simp; omega,h2,h3⟩ (by simp; omega) rfl (by simp <;> omega) (by simp [cP,pS]) (by simp [cP,pS])
  ·rw [if_neg hc] at h3
   simp [hc]
   exact back (lo,k) ⟨by simp; omega,by simp; omega,h3⟩ (by simp; omega) rfl (by simp <;> omega) (by simp [cP,pS]) (by simp [cP,pS])
 ·rw [tz hlt] at h3
  subst h3
  by_cases hk : dt l row < l.length
  ·simp [hlt,hk,cP,pS]
   refine ag (bj l[dt l row] row) (by simp [pS]) rfl fun hs1 hh1=>?_
   simp [gO,hk]
  ·simp [hlt,hk,gO]
end
section
open Go.Vs Go.Proofs Go
set_option maxRecDepth 100000
set_option maxHeartbeats 1000000
section
attribute [local simp] aR aC ax ay pS cP cI cStr cU8 cB
theorem cb (l : List Int) (v : Int) : VC Tryz.prog 43 [.d (pS cI l),.d (.int .i64 v)] (fun _ r=>r = .d (.int .i64 (idxL l v))):=by
 refine VC.ofL EP sZ Tryz.func43 fun B hl=>?_
 simp [pS,maxLen] at hl
 simp [Tryz.f43]
 refine ae (X:=Nat) (fun i=>i <= l.length /\ bP (fun x=>!(x == v)) l i) (fun i=>[(0,.d (.pl (l.map cI))),(1,.d (.int .i64 v)),(5,.d (.int .i64 i))]) (fun _=>[]) (fun i=>l.length - i) 0 ⟨by simp,aQ⟩ (by simp) (by simp) ?_
 intro i hs t m hi hh
 by_cases hlt : i < l.length
 ·have hwi:=wr1 (i:=i) (by omega)
  by_cases he : l[i] = v
  ·have hx:=xK hi.2 hlt he
   simp [hlt,he,hx]
  ·simp [hlt,he,hwi]
   exact back (i + 1) ⟨by omega,aM hi.2 hlt (by simp [he])⟩ (by omega) rfl (by simp <;> omega) (by simp) (by simp)
 ·have hx:=(sn (aP hi.2 (by omega))).2
  simp [hlt,hx]
theorem dC (l : List Int) (v : Int) : VC Tryz.prog 96 [.d (pS cI l),.d (.int .i64 v)] (fun _ r=>r = .d (.int .i64 (idxL l v))):=by
 refine VC.ofL EP sZ Tryz.func96 fun B hl=>?_
 simp [pS,maxLen] at hl
 simp [Tryz.f96]
 refine ae (X:=Nat) (fun i=>i <= l.length /\ bP (fun x=>!(x == v)) l i) (fun i=>[(1,.d (.int .i64 v)),(7,.d (.pl (l.map cI))),(8,.d (.int .i64 l.length)),(9,.d (.int .i64 i))]) (fun _=>[]) (fun i=>l.length - i) 0 ⟨by simp,aQ⟩ (by simp) (by simp) ?_
 intro i hs t m hi hh
 by_cases hlt : i < l.length
 ·have hwi:=wr1 (i:=i) (by omega)
  by_cases he : l[i] = v
  ·have hx:=xK hi.2 hlt he
   simp [hlt,he,hx]
  ·simp [hlt,he,hwi]
   exact back (i + 1) ⟨by omega,aM hi.2 hlt (by simp [he])⟩ (by omega) rfl (by simp <;> omega) (by simp) (by simp)
 ·have hx:=(sn (aP hi.2 (by omega))).2
  simp [hlt,hx]
theorem dX (l : List Int) (v : Int) : VC Tryz.prog 94 [.d (pS cI l),.d (.int .i64 v)] (fun _ r=>r = .d (.bool (l.contains v))):=by
 refine VC.ofL EP sZ Tryz.func94 fun B hl=>?_
 rw [<- eH]
 simp [Tryz.f94]
 refine ag (dC l v) (by simp) rfl fun hs1 hh1=>?_
 simp
theorem cZ (a : aH) (v : Int) : VC Tryz.prog 66 [.agg ((aB a).map V.d),.d (.int .i64 v)] (fun _ r=>r = .d (.bool (a.vars.contains v))):=by
 refine VC.ofL EP sZ Tryz.func66 fun B hl=>?_
 obtain ⟨nm,l⟩:=a
 simp [pS,maxLen,aB] at hl
 simp [Tryz.f66,aB]
 refine ae (X:=Nat) (fun i=>i <= l.length /\ bP (fun x=>!(x == v)) l i) (fun i=>[(1,.d (.int .i64 v)),(2,.ptr 2 0 0),(5,.d (.int .i64 i))]) (fun _=>[(2,some (.box [.d (.str nm),.d (.pl (l.map cI))]))]) (fun i=>l.length - i) 0 ⟨by simp,aQ⟩ (by simp) (by simp) ?_
 intro i hs t m hi hh
 by_cases hlt : i < l.length
 ·have hwi:=wr1 (i:=i) (by omega)
  by_cases he : l[i] = v
  ·have hx : v ∈ l:=he ▸ Jy hlt
   simp [hlt,he,hx]
  ·simp [hlt,he,hwi]
   exact back (i + 1) ⟨by omega,aM hi.2 hlt (by simp [he])⟩ (by omega) rfl (by simp <;> omega) (by simp) (by simp)
 ·have hx:=(sn (aP hi.2 (by omega))).1
  simp [hlt,hx]
theorem cX (a : aH) (v : Int) : VC Tryz.prog 95 [.agg ((aB a).map V.d),.d (.int .i64 v)] (fun _ r=>r = .d (.bool (a.vars.contains v))):=by
 refine VC.ofL EP sZ Tryz.func95 fun B hl=>?_
 simp [Tryz.f95,aB]
 refine ag (dX a.vars v) (by simp) rfl fun hs1 hh1=>?_
 simp
theorem ny (s : List UInt8) : VC Tryz.prog 131 [.d (.str s),.d (.int .i64 4)] (fun _ r=>r = .d (.bool (dc s))):=by
 refine VC.ofL EP sZ Tryz.func131 fun B hl=>?_
 by_cases h1 : (s.length : Int) < 1
 ·have : s = []:=List.length_eq_zero_iff.1 (by omega)
  subst this
  simp [Tryz.f131,pH]
 by_cases h4 : (4 : Int) < s.length
 ·have : dc s = false:=pH (by omega)
  simp [Tryz.f131,h1,h4,this]
 have hlen : 1 <= s.length /\ s.length <= 4:=by omega
 simp [Tryz.f131,h1,h4]
 refine ae (X:=Nat) (fun i=>i <= s.length /\ bP lowB s i) (fun i=>[(0,.d (.str s)),(5,.d (.int .i64 i))]) (fun _=>[]) (fun i=>s.length - i) 0 ⟨by simp,aQ⟩ (by simp) (by simp) ?_
 intro i hs t m hi hh
 by_cases hlt : i < s.length
 ·have hwi:=wr1 (i:=i) (by omega)
  by_cases ha : ((s[i]).toNat : Int) < 97
  ·have hbad:=jn (bn (p:=lowB) hlt (xT ha))
   simp [hlt,ha,hbad]
  ·by_cases hz : (122 : Int) < ((s[i]).toNat : Int)
   ·have hbad:=jn (bn (p:=lowB) hlt (xS hz))
    simp [hlt,ha,hz,hbad]
   ·simp [hlt,ha,hz,hwi]
    exact back (i + 1) ⟨by omega,aM hi.2 hlt (xU ha hz)⟩ (by omega) rfl (by simp <;> omega) (by simp) (by simp)
 ·have hd:=aP hi.2 (by omega)
  have hd2 : dc s = true:=by rw [rh hd,decide_eq_true hlen]
  simp [hlt,hd2]
theorem g6 (s : List UInt8) : VC Tryz.prog 105 [.d (.str s)] (fun _ r=>r = .d (.bool (dc s))):=by
 refine VC.ofL EP sZ Tryz.func105 fun B hl=>?_
 simp [Tryz.f105]
 refine ag (ny s) (by simp) rfl fun hs1 hh1=>?_
 simp
theorem ia (s : List UInt8) (hb : s.length <= maxLen) : VC Tryz.prog 84 [.d (.str s)] (fun _ r=>r = .d (.bool (dc s))):=by
 refine VC.ofL EP sZ Tryz.func84 fun B hl=>?_
 simp only [maxLen] at hb
 simp [Tryz.f84]
 refine ae (X:=Nat) (fun i=>i <= s.length /\ bP lowB s i) (fun i=>[(0,.d (.str s)),(3,.d (.int .i64 i))]) (fun _=>[]) (fun i=>s.length - i) 0 ⟨by simp,aQ⟩ (by simp) (by simp) ?_
 intro i hs t m hi hh
 by_cases hlt : i < s.length
 ·have hwi:=wr1 (i:=i) (by omega)
  by_cases ha : ((s[i]).toNat : Int) < 97
  ·have hbad:=jn (bn (p:=lowB) hlt (xT ha))
   simp [hlt,ha,hbad]
  ·by_cases hz : (122 : Int) < ((s[i]).toNat : Int)
   ·have hbad:=jn (bn (p:=lowB) hlt (xS hz))
    simp [hlt,ha,hz,hbad]
   ·simp [hlt,ha,hz,hwi]
    exact back (i + 1) ⟨by omega,aM hi.2 hlt (xU ha hz)⟩ (by omega) rfl (by simp <;> omega) (by simp) (by simp)
 ·have hd:=aP hi.2 (by omega)
  simp [hlt]
  refine ag (bB s.length 1 4) (by simp) rfl fun hs1 hh1=>?_
  have e : inR (s.length : Int) 1 4 = decide (1 <= s.length /\ s.length <= 4):=by
   simp only [inR,<- Bool.decide_and]; congr 1; apply propext; omega
  rw [e,rh hd]
  simp
theorem kb (l : List Int) (n : Int) : VC Tryz.prog 104 [.d (pS cI l),.d (.int .i64 n)] (fun _ r=>r = .d (.bool (cJ l n))):=by
 refine VC.ofL EP sZ Tryz.func104 fun B hl=>?_
 simp [pS,maxLen] at hl
 simp [Tryz.f104]
 refine ae (X:=Nat) (kY l n) (fun i=>[(0,.d (.pl (l.map cI))),(1,.d (.int .i64 n)),(7,.d (.pl (l.map cI))),(8,.d (.int .i64 l.length)),(9,.d (.int .i64 i))]) (fun _=>[]) (fun i=>l.length - i) 0 .zero (by simp) (by simp) ?_
 intro i hs t m hi hh
 have hil:=hi.le
 by_cases hlt : i < l.length
 ·have hwi:=wr1 (i:=i) (by omega)
  simp [hlt]
  refine ag (aN l[i] 0 (IntKind.i64.wrap (n - 1))) (by simp) rfl fun hs1 hh1=>?_
  simp at hh1
  cases h1 : inR l[i] 0 (IntKind.i64.wrap (n - 1))
  ·simp [lR hlt h1]
  simp [hil,<- List.map_take]
  refine ag (dX (l.take i) l[i]) (by simp) rfl fun hs2 hh2=>?_
  simp at hh2
  by_cases h2 : l[i] ∈ l.take i
  ·simp [h2,lS hlt h2]
  simp [h2,hwi]
  exact back (i + 1) (hi.step hlt h1 h2) (by omega) rfl (by simp <;> omega) (by simp) (by simp)
 ·have hd:=hi.done (by omega)
  simp [hlt,hd]
end
end
section
open Go.Vs Go.Proofs Go
set_option maxRecDepth 100000
set_option maxHeartbeats 1000000
section
attribute [local simp] aR aC ax ay pS cP cI cStr cU8 cB aB
theorem bf (q : ab) (hst : ∀ a ∈ q.atoms,a.rel.length <= maxLen) : VC Tryz.prog 37 [.agg ((au q).map V.d)] (fun _ r=>r = .d (.bool (aw q))):=by
 refine VC.ofL EP s37 Tryz.func37 fun B hl=>?_
 obtain ⟨n,ats,out⟩:=q
 simp only at hst
 simp [pS,maxLen,au] at hl
 simp [Tryz.f37,au]
 refine ag (bB n 1 5) (by simp) rfl fun hs1 hh1=>?_
 simp at hh1
 cases h1 : inR n 1 5
 ·simp [nt (q:=⟨n,ats,out⟩) h1]
 have hn : 1 <= n /\ n <= 5:=by simpa [inR] using h1
 simp [au]
 refine ag (bB ats.length 1 4) (by simp) rfl fun hs2 hh2=>?_
 simp at hh2
 cases h2 : inR (ats.length : Int) 1 4
 ·simp [kI (q:=⟨n,ats,out⟩) h2]
 have ha4 : ats.length <= 4:=by simp [inR] at h2; omega
 by_cases h3 : n < out.length
 ·have hso : cJ out n = false:=by
   cases hs : cJ out n
   ·rfl
   ·have:=rG hn hs; omega
  simp [h3,kJ (q:=⟨n,ats,out⟩) hso]
 have hrw : ∀ i (h : i < ats.length),ats[i].rel.length <= maxLen:=fun i h=>hst _ (Jy h)
 have hvl : ∀ i (h : i < ats.length),ats[i].vars.length <= 9223372036854775807:=fun i h=>(hl.1.2 _ (Jy h))
 simp [h3]
 refine ae (X:=Nat) (AtI n ats) (fun i=>[(1,.ptr 1 0 0),(3,.d (.int .i64 i))]) (fun _=>[(1,some (.box [.d (.int .i64 n),.d (.pl (ats.map aB)),.d (.pl (out.map cI))]))]) (fun i=>ats.length - i) 0 .zero (by simp) (by simp) ?_
 intro i hs t m hi hh
 have hil:=hi.le
 by_cases hlt : i < ats.length
 ·have hwi:=wr1 (i:=i) (by omega)
  have hbad : b6 n ats[i] = false -> aw ⟨n,ats,out⟩ = false:=fun h=>pQ (q:=⟨n,ats,out⟩) hlt h
  simp [hlt]
  refine ag (ia ats[i].rel (hrw i hlt)) (by simp) rfl fun hs3 hh3=>?_
  simp at hh3
  cases h4 : dc ats[i].rel
  ·simp [hbad (by simp only [b6,h4,Zh])]
  simp [hlt]
  refine ag (bB ats[i].vars.length 1 5) (by simp) rfl fun hs4 hh4=>?_
  simp at hh4
  cases h5 : inR (ats[i].vars.length : Int) 1 5
  ·simp [hbad (by simp only [b6,h5,Zh,Bool.and_false])]
  simp
  refine ae (X:=Nat) (AtK n ats[i].vars) (fun k=>[(1,.ptr 1 0 0),(3,.d (.int .i64 i)),(4,.d (.int .i64 k))]) (fun _=>[(1,some (.box [.d (.int .i64 n),.d (.pl (ats.map aB)),.d (.pl (out.map cI))]))]) (fun k=>ats[i].vars.length - k) 0 .zero (by simp) (by simp) ?_
  intro k hs t m hk hh
  have hkl:=hk.le
  have hvi:=hvl i hlt
  by_cases hkt : k < ats[i].vars.length
  ·have hwk:=wr1 (i:=k) (by omega)
   cases h6 : inR ats[i].vars[k] 0 (IntKind.i64.wrap (n - 1))
   ·have hq:=hbad (oN hkt h6)
    simp [hlt,hkt]
    refine ag (VC.to (bB ats[i].vars[k] 0 (IntKind.i64.wrap (n - 1))) (show _ = V.d (.bool false) by rw [h6])) (by simp) rfl fun hs5 hh5=>?_
    simp [hq]
   ·refine anyQ fun Q=>?_
    simp [hlt,hkt]
    refine ag (VC.to (bB ats[i].vars[k] 0 (IntKind.i64.wrap (n - 1))) (show _ = V.d (.bool true) by rw [h6])) (by simp) rfl fun hs5 hh5=>?_
    simp at hh5
    simp [hwk]
    exact back (k + 1) (hk.step hkt h6) (by omega) rfl (by simp <;> omega) (by simp) (by simp)
  ·have hao:=nM hk (by omega) h4 h5
   simp [hlt,hkt,hwi]
   exact back (i + 1) (hi.step hlt hao) (by omega) rfl (by simp <;> omega) (by simp) (by simp)
 have hall:=aP hi.ok (by omega)
 simp [hlt]
 refine ae (X:=Nat) (UsTo n ats) (fun v=>[(1,.ptr 1 0 0),(5,.d (.int .i64 v))]) (fun _=>[(1,some (.box [.d (.int .i64 n),.d (.pl (ats.map aB)),.d (.pl (out.map cI))]))]) (fun v=>n.toNat - v) 0 .zero (by simp) (by simp) ?_
 intro v hs t m hv hh
 have hvn:=hv.le
 by_cases hvt : v < n.toNat
 ·have hwv:=wr1 (i:=v) (by omega)
  have hvt' : (v : Int) < n:=by omega
  simp [hvt']
  refine ae (X:=Nat) (fun i=>i <= ats.length) (fun i=>[(1,.ptr 1 0 0),(5,.d (.int .i64 v)),(6,.d (.bool (k9 ats v i))),(7,.d (.int .i64 i))]) (fun _=>[(1,some (.box [.d (.int .i64 n),.d (.pl (ats.map aB)),.d (.pl (out.map cI))]))]) (fun i=>ats.length - i) 0 (by simp) (by simp [we]) (by simp) ?_
  intro i hs t m hi hh
  by_cases hlt : i < ats.length
  ·have hwi:=wr1 (i:=i) (by omega)
   have hst:=wc (v:=(v : Int)) hlt
   refine anyQ fun Q=>?_
   cases h6 : k9 ats v i
   ·rw [h6,Bool.false_or] at hst
    simp [hlt]
    refine ag (cZ ats[i] v) (by simp) rfl fun hs5 hh5=>?_
    simp at hh5
    simp only [List.contains_eq_mem] at hst
    simp [hwi]
    exact back (i + 1) (by omega) (by omega) rfl (by simp <;> omega) (by simp [hst]) (by simp)
   ·rw [h6,Bool.true_or] at hst
    simp [hlt,hwi]
    exact back (i + 1) (by omega) (by omega) rfl (by simp <;> omega) (by simp [hst]) (by simp)
  ·have hha:=zu (l:=ats) (v:=(v : Int)) (i:=i) (by omega)
   cases h7 : (br ats).contains (v : Int)
   ·rw [h7] at hha
    simp [hlt,hha,ru (q:=⟨n,ats,out⟩) (vg hvt h7)]
   ·rw [h7] at hha
    simp [hlt,hha,hwv]
    exact back (v + 1) (hv.step hvt h7) (by omega) rfl (by simp <;> omega) (by simp) (by simp)
 have hus:=hv.done (by omega)
 have hvt' : ¬ (v : Int) < n:=by omega
 simp [hvt']
 refine ae (X:=Nat) (kY out n) (fun i=>[(1,.ptr 1 0 0),(8,.d (.int .i64 i))]) (fun _=>[(1,some (.box [.d (.int .i64 n),.d (.pl (ats.map aB)),.d (.pl (out.map cI))]))]) (fun i=>out.length - i) 0 .zero (by simp) (by simp) ?_
 intro i hs t m hi hh
 have hil:=hi.le
 by_cases hlt : i < out.length
 ·have hwi:=wr1 (i:=i) (by omega)
  simp [hlt]
  refine ag (bB out[i] 0 (IntKind.i64.wrap (n - 1))) (by simp) rfl fun hs5 hh5=>?_
  simp at hh5
  cases h6 : inR out[i] 0 (IntKind.i64.wrap (n - 1))
  ·simp [kJ (q:=⟨n,ats,out⟩) (lR hlt h6)]
  simp [hil,hlt,<- List.map_take]
  refine ag (cb (out.take i) out[i]) (by simp) rfl fun hs6 hh6=>?_
  simp at hh6
  have hge:=eH (out.take i) out[i]
  by_cases h7 : out[i] ∈ out.take i
  ·have h8 : 0 <= idxL (out.take i) out[i]:=by simpa [h7] using hge
   simp [h8,kJ (q:=⟨n,ats,out⟩) (lS hlt h7)]
  ·have h8 : ¬ 0 <= idxL (out.take i) out[i]:=by simpa [h7] using hge
   simp [h8,hwi]
   exact back (i + 1) (hi.step hlt h6 h7) (by omega) rfl (by simp <;> omega) (by simp) (by simp)
 ·have hd:=hi.done (by omega)
  simp [hlt,nV (q:=⟨n,ats,out⟩) h1 h2 hd hall hus]
end
end
section
open Go.Vs Go.Proofs Go
set_option maxRecDepth 100000
set_option maxHeartbeats 1000000
section
attribute [local simp] aR aC ax ay pS cP cI cStr cU8 cB aB
theorem dO (q : ab) : VC Tryz.prog 62 [.agg ((au q).map V.d)] (fun _ r=>r = .d (.bool (aw q))):=by
 refine VC.ofL EP sZ Tryz.func62 fun B hl=>?_
 obtain ⟨n,ats,out⟩:=q
 simp [pS,maxLen,au] at hl
 simp [Tryz.f62,au]
 refine ag (aN n 1 5) (by simp) rfl fun hs1 hh1=>?_
 simp at hh1
 cases h1 : inR n 1 5
 ·simp [nt (q:=⟨n,ats,out⟩) h1]
 have hn : 1 <= n /\ n <= 5:=by simpa [inR] using h1
 obtain ⟨N,rfl⟩ : ∃ N : Nat,n = (N : Int):=⟨n.toNat,by omega⟩
 simp [au]
 refine ag (aN ats.length 1 4) (by simp) rfl fun hs2 hh2=>?_
 simp at hh2
 cases h2 : inR (ats.length : Int) 1 4
 ·simp [kI (q:=⟨N,ats,out⟩) h2]
 have ha4 : ats.length <= 4:=by simp [inR] at h2; omega
 simp [au]
 refine ag (kb out N) (by simp) rfl fun hs3 hh3=>?_
 simp at hh3
 cases h3 : cJ out N
 ·simp [kJ (q:=⟨N,ats,out⟩) h3]
 have hvl : ∀ i (h : i < ats.length),ats[i].vars.length <= 9223372036854775807:=fun i h=>(hl.1.2 _ (Jy h))
 have hL : LenOk 1 N:=⟨by omega,by simp only [maxLen]; omega⟩
 have hwN : IntKind.i64.wrap ((N : Int) - 1) = N - 1:=aj (by omega) (by omega)
 simp [hL]
 refine ae (X:=Nat) (AtI N ats) (fun i=>[(3,.d (.int .i64 N)),(4,.own 31 0 N),(33,.d (.pl (ats.map aB))),(34,.d (.int .i64 ats.length)),(35,.d (.int .i64 i))])
  (fun i=>[(31,some (.row 4 1 ((fK N (br (ats.take i))).map cB)))]) (fun i=>ats.length - i) 0 .zero (by simp) (by simp [Af,br]) ?_
 intro i hs t m hi hh
 have hil:=hi.le
 by_cases hlt : i < ats.length
 ·have hwi:=wr1 (i:=i) (by omega)
  have hbad : b6 N ats[i] = false -> aw ⟨N,ats,out⟩ = false:=fun h=>pQ (q:=⟨N,ats,out⟩) hlt h
  have hvs : br (ats.take (i + 1)) = br (ats.take i) ++ ats[i].vars:=by
   rw [br,Jz hlt,List.flatMap_append]; simp only [br,List.flatMap_cons,List.flatMap_nil,List.append_nil]
  simp [hlt]
  refine ag (g6 ats[i].rel) (by simp) rfl fun hs3 hh3=>?_
  simp at hh3
  cases h4 : dc ats[i].rel
  ·simp [hbad (by simp only [b6,h4,Zh])]
  simp
  refine ag (aN ats[i].vars.length 1 5) (by simp) rfl fun hs4 hh4=>?_
  simp at hh4
  cases h5 : inR (ats[i].vars.length : Int) 1 5
  ·simp [hbad (by simp only [b6,h5,Zh,Bool.and_false])]
  simp
  obtain ⟨us,hus⟩ : ∃ us,us = br (ats.take i):=⟨_,rfl⟩
  rw [<- hus] at hvs ⊢
  obtain ⟨vs,hvse⟩ : ∃ vs,vs = ats[i].vars:=⟨_,rfl⟩
  have hvi:=hvl i hlt
  rw [<- hvse] at hvs hvi h5
  refine ae (X:=Nat) (AtK N vs) (fun k=>[(3,.d (.int .i64 N)),(4,.own 31 0 N),(33,.d (.pl (ats.map aB))),(34,.d (.int .i64 ats.length)),(35,.d (.int .i64 i)),(51,.d (.pl (vs.map cI))),(52,.d (.int .i64 vs.length)),(53,.d (.int .i64 k))])
   (fun k=>[(31,some (.row 4 1 ((fK N (us ++ vs.take k)).map cB)))]) (fun k=>vs.length - k) 0 .zero (by simp [hvse]) (by simp [hus]) ?_
  intro k hs t m hk hh
  have hkl:=hk.le
  by_cases hkt : k < vs.length
  ·have hwk:=wr1 (i:=k) (by omega)
   simp [hkt]
   refine ag (aN vs[k] 0 (IntKind.i64.wrap ((N : Int) - 1))) (by simp) rfl fun hs5 hh5=>?_
   simp at hh5
   cases h6 : inR vs[k] 0 (IntKind.i64.wrap ((N : Int) - 1))
   ·have hq:=hbad (oN (k:=k) (by rw [<- hvse]; exact hkt) (by simpa only [<- hvse] using h6))
    simp [hq]
   ·have hst:=hk.step hkt h6
    rw [hwN] at h6
    simp only [inR,Jq,Xj] at h6
    obtain ⟨p,hp⟩ : ∃ p : Nat,vs[k] = (p : Int):=⟨vs[k].toNat,by omega⟩
    have hpN : p < N:=by omega
    have hset : fK N (us ++ vs.take (k + 1)) = (fK N (us ++ vs.take k)).set p true:=by
     rw [wR hpN,List.append_assoc,Jz hkt,hp]
    simp [hp,hpN,hwk]
    exact back (k + 1) hst (by omega) rfl (by simp <;> omega) (by simp) (by simp [hset])
  ·have hao:=nM (n:=N) (a:=ats[i]) (k:=k) (by rw [<- hvse]; exact hk) (by rw [<- hvse]; omega) h4 (by rw [<- hvse]; exact h5)
   have hd : vs.take k = vs:=Jj (by omega)
   simp [hkt,hwi,hd]
   exact back (i + 1) (hi.step hlt hao) (by omega) rfl (by simp <;> omega) (by simp) (by simp [hvs])
 have hall:=aP hi.ok (by omega)
 have hd : ats.take i = ats:=Jj (by omega)
 rw [hd]
 simp [hlt]
 have hu:=vh (n:=(N : Int)) (l:=ats)
 rw [Int.toNat_natCast] at hu
 refine ae (X:=Nat) (fun j=>j <= N /\ bP id (fK N (br ats)) j) (fun j=>[(67,.own 31 0 N),(68,.d (.int .i64 N)),(69,.d (.int .i64 j))]) (fun _=>[(31,some (.row 4 1 ((fK N (br ats)).map cB)))]) (fun j=>N - j) 0 ⟨by simp,aQ⟩ (by simp) (by simp) ?_
 intro j hs t m hj hh
 by_cases hjt : j < N
 ·have hwj:=wr1 (i:=j) (by omega)
  have hjl : j < (fK N (br ats)).length:=by simpa using hjt
  cases h6 : (fK N (br ats))[j]
  ·have hq : aw ⟨N,ats,out⟩ = false:=ru (q:=⟨N,ats,out⟩) (by rw [hu]; exact bn (p:=id) hjl h6)
   simp [hjt,h6,hq]
  ·simp [hjt,h6,hwj]
   exact back (j + 1) ⟨by omega,aM hj.2 hjl h6⟩ (by omega) rfl (by simp <;> omega) (by simp) (by simp)
 ·have hus : eX N ats = true:=by rw [hu]; exact aP hj.2 (by simp; omega)
  simp [hjt,nV (q:=⟨N,ats,out⟩) h1 h2 h3 hall hus]
end
end
section
open Go.Vs Go.Proofs Go
set_option maxRecDepth 100000
set_option maxHeartbeats 1000000
section
attribute [local simp] aR aC ax ay pS cP cI cStr cU8 cB eTab ao
theorem eZ (d : PDb) : VC Tryz.prog 92 [.agg ((eDb d).map V.d)] (fun _ r=>r = .d (.bool (dbOk d))):=by
 refine VC.ofL EP s92 Tryz.func92 fun B hl=>?_
 obtain ⟨l⟩:=d
 by_cases h6 : (6 : Int) < l.length
 ·have : dbOk ⟨l⟩ = false:=by
   have : ¬ l.length <= 6:=by omega
   simp only [dbOk,this,decide_false,Zh]
  simp [Tryz.f92,eDb,h6,this]
 simp [Tryz.f92,eDb,h6]
 refine ae (X:=Nat) (DbTo l) (fun i=>[(1,.ptr 1 0 0),(10,.d (.pl (l.map eTab))),(11,.d (.int .i64 l.length)),(12,.d (.int .i64 i))]) (fun _=>[(1,some (.box [.d (.pl (l.map eTab))]))]) (fun i=>l.length - i) 0 .zero (by simp) (by simp) ?_
 intro i hs t m hi hh
 have hil:=hi.le
 by_cases hlt : i < l.length
 case neg=>
  have hd:=hi.done (by omega)
  simp [hlt,hd]
  omega
 have hwi:=wr1 (i:=i) (by omega)
 have hat:=xo hlt
 have hbad : dbAt l i = false -> dbOk ⟨l⟩ = false:=tO hlt
 obtain ⟨nm,ar,rows,hT⟩ : ∃ nm ar rows,l[i] = ⟨nm,⟨ar,rows⟩⟩:=⟨_,_,_,rfl⟩
 rw [hT] at hat
 simp only [lp] at hat
 simp [hlt,hT]
 refine ag (g6 nm) (by simp) rfl fun hs1 hh1=>?_
 simp at hh1
 cases h1 : dc nm
 ·have hb:=hbad (by rw [hat,h1]; simp)
  simp [hb]
 by_cases h0 : i = 0
 ·subst h0
  have hwi0 : IntKind.i64.wrap 1 = 1:=by simpa using hwi
  simp [hT]
  refine ag (bO ⟨ar,rows⟩) (by simp [ao]) rfl fun hs2 hh2=>?_
  simp at hh2
  cases h3 : aL ar rows
  ·have hb:=hbad (by rw [hat,h3]; simp)
   simp [hb]
  by_cases h4 : ar < 1
  ·have hb := hbad (by rw [hat]; have : ¬ 1 ≤ ar := by omega
                       simp [this])
   simp [h4,hb,hT]
  by_cases h5 : (16 : Int) < rows.length
  ·have hb := hbad (by rw [hat]; have : ¬ rows.length ≤ 16 := by omega
                       simp [this])
   simp [h4,h5,hb,hT]
  have hok : dbAt l 0 = true:=by
   have a4 : 1 <= ar:=by omega
   have a5 : rows.length <= 16:=by omega
   rw [hat,h1,h3]; simp [a4,a5]
  simp [h4,h5,hT,hwi0]
  exact back 1 (hi.step hlt hok) (by omega) rfl (by simp <;> omega) (by simp) (by simp)
 ·have h0' : 0 < i:=by omega
  have hw : IntKind.i64.wrap ((i : Int) - 1) = ((i - 1 : Nat) : Int):=by rw [aj (by omega) (by omega)]; omega
  have hlt1 : i - 1 < l.length:=by omega
  cases h2 : Op.bytesLess (l[i - 1]'(by omega)).name nm
  ·have hb:=hbad (by rw [hat,h2]; simp [h0])
   simp [h0,h0',hw,hlt1,hT,h2,hb]
  simp [h0,h0',hw,hlt1,hT,h2]
  refine ag (bO ⟨ar,rows⟩) (by simp [ao]) rfl fun hs2 hh2=>?_
  simp at hh2
  cases h3 : aL ar rows
  ·have hb:=hbad (by rw [hat,h3]; simp)
   simp [hb]
  by_cases h4 : ar < 1
  ·have hb := hbad (by rw [hat]; have : ¬ 1 ≤ ar := by omega
                       simp [this])
   simp [h4,hb,hT]
  by_cases h5 : (16 : Int) < rows.length
  ·have hb := hbad (by rw [hat]; have : ¬ rows.length ≤ 16 := by omega
                       simp [this])
   simp [h4,h5,hb,hT]
  have hok : dbAt l i = true:=by
   have a4 : 1 <= ar:=by omega
   have a5 : rows.length <= 16:=by omega
   rw [hat,h1,h3]; simp [a4,a5,h2]
  simp [h4,h5,hT,hwi]
  exact back (i + 1) (hi.step hlt hok) (by omega) rfl (by simp <;> omega) (by simp) (by simp)
theorem e7 (d : PDb) (hst : ∀ t ∈ d.tabs,t.name.length <= maxLen) : VC Tryz.prog 38 [.agg ((eDb d).map V.d)] (fun _ r=>r = .d (.bool (dbOk d))):=by
 refine VC.ofL EP s38 Tryz.func38 fun B hl=>?_
 obtain ⟨l⟩:=d
 simp [pS,maxLen,eDb] at hl
 simp only at hst
 simp [Tryz.f38,eDb]
 refine ae (X:=Nat) (DbTo l) (fun i=>[(1,.ptr 1 0 0),(3,.d (.int .i64 i))]) (fun _=>[(1,some (.box [.d (.pl (l.map eTab))]))]) (fun i=>l.length - i) 0 .zero (by simp) (by simp) ?_
 intro i hs t m hi hh
 have hil:=hi.le
 by_cases hlt : i < l.length
 case neg=>
  have hd:=hi.done (by omega)
  simp [hlt,hd]
  omega
 have hwi:=wr1 (i:=i) (by omega)
 have hat:=xo hlt
 have hbad : dbAt l i = false -> dbOk ⟨l⟩ = false:=tO hlt
 obtain ⟨nm,ar,rows,hT⟩ : ∃ nm ar rows,l[i] = ⟨nm,⟨ar,rows⟩⟩:=⟨_,_,_,rfl⟩
 rw [hT] at hat
 simp only [lp] at hat
 have hnl : nm.length <= maxLen:=by have:=hst l[i] (Jy hlt); rwa [hT] at this
 simp [hlt,hT]
 refine ag (ia nm hnl) (by simp) rfl fun hs1 hh1=>?_
 simp at hh1
 cases h1 : dc nm
 ·have hb:=hbad (by rw [hat,h1]; simp)
  simp [hb]
 by_cases h0 : i = 0
 ·subst h0
  have hwi0 : IntKind.i64.wrap 1 = 1:=by simpa using hwi
  simp [hT]
  refine ag (bm ⟨ar,rows⟩) (by simp [ao]) rfl fun hs2 hh2=>?_
  simp at hh2
  cases h3 : aL ar rows
  ·have hb:=hbad (by rw [hat,h3]; simp)
   simp [hb]
  by_cases h5 : (16 : Int) < rows.length
  ·have hb := hbad (by rw [hat]; have : ¬ rows.length ≤ 16 := by omega
                       simp [this])
   simp [h5,hb,hT]
  by_cases h4 : ar < 1
  ·have hb := hbad (by rw [hat]; have : ¬ 1 ≤ ar := by omega
                       simp [this])
   simp [h4,h5,hb,hT]
  have hok : dbAt l 0 = true:=by
   have a4 : 1 <= ar:=by omega
   have a5 : rows.length <= 16:=by omega
   rw [hat,h1,h3]; simp [a4,a5]
  simp [h4,h5,hT,hwi0]
  exact back 1 (hi.step hlt hok) (by omega) rfl (by simp <;> omega) (by simp) (by simp)
 ·have h0' : 0 < i:=by omega
  have hw : IntKind.i64.wrap ((i : Int) - 1) = ((i - 1 : Nat) : Int):=by rw [aj (by omega) (by omega)]; omega
  have hlt1 : i - 1 < l.length:=by omega
  cases h2 : Op.bytesLess (l[i - 1]'(by omega)).name nm
  ·have hb:=hbad (by rw [hat,h2]; simp [h0])
   simp [h0,h0',hw,hlt1,hT,h2,hb]
  simp [h0,h0',hw,hlt1,hT,h2]
  refine ag (bm ⟨ar,rows⟩) (by simp [ao]) rfl fun hs2 hh2=>?_
  simp at hh2
  cases h3 : aL ar rows
  ·have hb:=hbad (by rw [hat,h3]; simp)
   simp [hb]
  by_cases h5 : (16 : Int) < rows.length
  ·have hb := hbad (by rw [hat]; have : ¬ rows.length ≤ 16 := by omega
                       simp [this])
   simp [h5,hb,hT]
  by_cases h4 : ar < 1
  ·have hb := hbad (by rw [hat]; have : ¬ 1 ≤ ar := by omega
                       simp [this])
   simp [h4,h5,hb,hT]
  have hok : dbAt l i = true:=by
   have a4 : 1 <= ar:=by omega
   have a5 : rows.length <= 16:=by omega
   rw [hat,h1,h3]; simp [a4,a5,h2]
  simp [h4,h5,hT,hwi]
  exact back (i + 1) (hi.step hlt hok) (by omega) rfl (by simp <;> omega) (by simp) (by simp)
end
end
section
open Go.Vs Go.Proofs Go
set_option maxRecDepth 100000
set_option maxHeartbeats 1000000
theorem lu (r : bE) (hb : r.rows.length <= 4294967296) (hb2 : ∀ x ∈ r.rows,x.length <= 4294967296) : VC Tryz.prog 83 [.agg ((ao r).map .d)] (fun _ v=>v = .agg ((ao r).map .d)):=by
 obtain ⟨ar,l⟩:=r
 simp only at hb hb2
 refine VC.ofL EP s83 Tryz.func83 fun B hl=>?_
 simp [Tryz.f83,ao]
 refine aE (X:=Nat) (fun i _=>i <= l.length) (fun i=>[(1,.ptr 1 0 0),(2,.ptr 2 0 0),(3,.ptr 3 0 0),(4,.d (.int .i64 i))])
  (fun i=>[(1,some (.box [.d (.int .i64 ar),.d (.pl (l.map (cP cI)))])),(2,some (.box [.d (.int .i64 0),.d (.sl none none [])])),(3,some (.box [.d (.int .i64 ar),.own 25 0 i])),(25,some (.row 28 1 ((l.take i).map (cP cI))))]) (fun i=>l.length - i) ?_ ?_
 ·refine (cz 3 1 25 28 1 [.d (.int .i64 ar),.d (.sl none none [])] (by omega) (by omega) (by omega) (by simp) rfl).bind ?_
  rintro _ rfl
  exact Lead.of ⟨0,by simp,rfl,rfl,Jv _,by simp,by simp⟩
 ·intro i hs t m hi hh
  by_cases hlt : i < l.length
  ·have hwi:=wr1 (i:=i) (by omega)
   have hL : LenOk 24 (i + 1):=⟨by omega,by simp only [maxLen]; omega⟩
   have hx:=hb2 _ (Jy hlt)
   have hL2 : LenOk 8 l[i].length:=⟨by omega,by simp only [maxLen]; omega⟩
   simp [hlt,hL,hL2,hwi,Jj,show min i l.length = i by omega]
   refine bg (i + 1) (by omega) (by omega) rfl (by simp <;> omega) (by simp) ?_
   simp
   rw [Jz (by simpa using hlt)]; simp
  ·have hn : i = l.length:=by omega
   subst hn
   simp [Jj]
end
section
open Go.Vs Go.Proofs Go
set_option maxRecDepth 100000
set_option maxHeartbeats 1000000
section
attribute [local simp] aR aC ax ay pS cP cI cStr cU8 cB
theorem fO (l : List Int) (hb : l.length <= 4294967296) : VC Tryz.prog 76 [.d (pS cI l)] (fun _ r=>r = .d (pS cI l)):=by
 refine VC.ofL EP sZ Tryz.func76 fun B hl=>?_
 have hL : LenOk 8 l.length:=⟨by omega,by simp only [maxLen]; omega⟩
 simp [Tryz.f76,hL,Jj]
theorem oc (l : List (List Int)) (hb : l.length <= 4294967296) (hb2 : ∀ r ∈ l,r.length <= 4294967296) : VC Tryz.prog 118 [.d (pS (cP cI) l)] (fun _ r=>r = .d (pS (cP cI) l)):=by
 refine VC.ofL EP sZ Tryz.func118 fun B hl=>?_
 simp [Tryz.f118]
 refine aE (X:=Nat) (fun i _=>i <= l.length) (fun i=>[(3,.own 16 0 i),(6,.d (.pl (l.map (cP cI)))),(7,.d (.int .i64 l.length)),(8,.d (.int .i64 i))]) (fun i=>[(16,some (.row 28 1 ((l.take i).map (cP cI))))]) (fun i=>l.length - i) ?_ ?_
 ·refine (bA 3 16 28 1 (by omega) (by omega) (by simp)).bind ?_
  rintro _ rfl
  exact Lead.of ⟨0,by omega,rfl,rfl,Jv _,by simp,by simp⟩
 intro i hs t m hi hh
 by_cases hlt : i < l.length
 ·have hwi:=wr1 (i:=i) (by omega)
  have hL : LenOk 24 (i + 1):=⟨by omega,by simp only [maxLen]; omega⟩
  have hmn : min i l.length = i:=by omega
  have hst2 : List.take (i + 1) (List.map (cP cI) l) = List.take i (List.map (cP cI) l) ++ [cP cI l[i]]:=by
   rw [Jz (by simpa using hlt)]; simp
  simp [hlt]
  refine aF (fO l[i] (hb2 _ (Jy hlt))) (by simp) fun hs1 hh1 hl1=>?_
  simp at hh1
  simp [hwi,hL,hmn]
  exact bg (i + 1) (by omega) (by omega) rfl (by simp <;> omega) (by simp) (by simp [hst2])
 ·have hn : i = l.length:=by omega
  subst hn
  simp [Jj]
theorem kT (r : bE) (hb : r.rows.length <= 4294967296) (hb2 : ∀ x ∈ r.rows,x.length <= 4294967296) : VC Tryz.prog 126 [.agg ((ao r).map V.d)] (fun _ v=>v = .agg ((ao r).map V.d)):=by
 refine VC.ofL EP s126 Tryz.func126 fun B hl=>?_
 simp [Tryz.f126,ao]
 refine aF (oc r.rows hb hb2) (by simp) fun hs1 hh1 hl1=>?_
 simp at hh1
 simp
theorem fe (d : PDb) (nm : List UInt8) : VC Tryz.prog 93 [.agg ((eDb d).map V.d),.d (.str nm)] (fun _ v=>v = .tup [.agg ((ao (lkR d nm)).map V.d),.d (.bool (lkB d nm))]):=by
 refine VC.ofL EP sZ Tryz.func93 fun B hl=>?_
 obtain ⟨l⟩:=d
 simp [Tryz.f93,eDb]
 refine ag (eZ ⟨l⟩) (by simp [eDb]) rfl fun hs1 hh1=>?_
 simp at hh1
 cases h1 : dbOk ⟨l⟩
 ·obtain ⟨e1,e2⟩:=xQ (nm:=nm) h1
  simp [e1,e2,ao]
 have hl6:=AX h1
 simp only at hl6
 simp
 refine ae (X:=Nat) (LkTo l nm) (fun i=>[(1,.d (.str nm)),(2,.ptr 2 0 0),(4,.ptr 4 0 0),(11,.d (.pl (l.map eTab))),(12,.d (.int .i64 l.length)),(13,.d (.int .i64 i))]) (fun _=>[(2,some (.box [.d (.pl (l.map eTab))])),(4,some (.box [.d (.int .i64 0),.d (.sl none none [])]))]) (fun i=>l.length - i) 0 .zero (by simp) (by simp) ?_
 intro i hs t m hi hh
 by_cases hlt : i < l.length
 ·have hwi:=wr1 (i:=i) (by omega)
  have hr:=rH (l5 h1 (Jy hlt))
  by_cases he : l[i].name = nm
  ·obtain ⟨e1,e2⟩:=hi.found h1 hlt he
   simp [hlt,he,eTab,ao]
   refine aF (kT l[i].rel hr.1 hr.2) (by simp [ao]) fun hs2 hh2 hl2=>?_
   simp [e1,e2,ao]
  ·simp [hlt,he,hwi,eTab,ao]
   exact back (i + 1) (hi.step hlt he) (by omega) rfl (by simp <;> omega) (by simp [eTab,ao]) (by simp [eTab,ao])
 ·obtain ⟨e1,e2⟩:=hi.done (by omega)
  simp [hlt,e1,e2,ao]
theorem fg (d : PDb) (nm : List UInt8) (hst : ∀ t ∈ d.tabs,t.name.length <= maxLen) : VC Tryz.prog 36 [.agg ((eDb d).map V.d),.d (.str nm)] (fun _ v=>v = .tup [.agg ((ao (lkR d nm)).map V.d),.d (.bool (lkB d nm))]):=by
 refine VC.ofL EP sZ Tryz.func36 fun B hl=>?_
 obtain ⟨l⟩:=d
 simp [pS,maxLen,eDb] at hl
 simp [Tryz.f36,eDb]
 refine ae (X:=Nat) (LkTo l nm) (fun i=>[(1,.d (.str nm)),(2,.ptr 2 0 0),(4,.ptr 4 0 0),(6,.d (.int .i64 i))]) (fun _=>[(2,some (.box [.d (.pl (l.map eTab))])),(4,some (.box [.d (.int .i64 0),.d (.sl none none [])]))]) (fun i=>l.length - i) 0 .zero (by simp) (by simp) ?_
 intro i hs t m hi hh
 by_cases hlt : i < l.length
 ·have hwi:=wr1 (i:=i) (by omega)
  simp [hlt]
  refine ag (e7 ⟨l⟩ hst) (by simp [eDb]) rfl fun hs1 hh1=>?_
  simp at hh1
  cases h1 : dbOk ⟨l⟩
  ·obtain ⟨e1,e2⟩:=xQ (nm:=nm) h1
   simp [e1,e2,ao]
  have hr:=rH (l5 h1 (Jy hlt))
  by_cases he : l[i].name = nm
  ·obtain ⟨e1,e2⟩:=hi.found h1 hlt he
   simp [hlt,he,eTab,ao]
   refine aF (lu l[i].rel hr.1 hr.2) (by simp [ao]) fun hs2 hh2 hl2=>?_
   simp [e1,e2,ao]
  ·simp [hlt,he,hwi,eTab,ao]
   exact back (i + 1) (hi.step hlt he) (by omega) rfl (by simp <;> omega) (by simp [eTab,ao]) (by simp [eTab,ao])
 ·obtain ⟨e1,e2⟩:=hi.done (by omega)
  simp [hlt,e1,e2,ao]
end
end
section
open Go.Vs Go.Proofs Go
set_option maxRecDepth 100000
set_option maxHeartbeats 1000000
section
attribute [local simp] aR aC ax ay
theorem ob (l : List Int) (hb : l.length <= 4294967296) :
  VC Tryz.prog 76 [.d (pS cI l)] (fun n r=>∃ y : Ints,r = .d (dSl cI y) /\ plS plI y = l /\ okS okI y /\ Good (cS cI y) (whS whI y) n):=by
 refine VC.of E sZ Tryz.func76 fun B=>?_
 have hL : LenOk 8 l.length:=⟨by omega,by simp only [maxLen]; omega⟩
 simp [Tryz.f76,pS,hL,cI]
 intro γ hs' h1 hg
 obtain ⟨q1,q2⟩:=bz hg (k:=3) (T:=3) (sz:=1) (es:=l.map cI) (by simp [cI])
 have q3:=ea hg (k:=3) (T:=3) (sz:=1) (es:=l.map cI) (by simp [cI])
 clear hg
 have hp : hpLL (l.map cI) = false:=cL l
 refine ⟨⟨γ 3,some (3,1),l⟩,by simp [dSl,Jj,cI],by simp [plS],⟨by simp only [maxLen]; omega,fun _ _=>trivial⟩,df (fun g hg=>(q1 g hg).1) (by simpa using q2) q3 ⟨by simp,by simp⟩ (by simp [whI])⟩
theorem m9 (l : List (List Int)) (hb : l.length <= 4294967296) (hb2 : ∀ r ∈ l,r.length <= 4294967296) :
  VC Tryz.prog 118 [.d (pS (cP cI) l)] (fun n r=>∃ y : Sl Ints,r = .d (dSl (cS cI) y) /\ plS (plS plI) y = l /\ okS (okS okI) y /\ Good (cS (cS cI) y) (whS (whS whI) y) n /\ y.T = some (28,1)):=by
 refine VC.of E sZ Tryz.func118 fun B=>?_
 simp [Tryz.f118,pS]
 refine aE (X:=Nat × List Ints) (CopI (cS cI) (whS whI) (okS okI) (plS plI) l B) (fun p=>[(3,.own 16 0 p.2.length),(6,.d (.pl (l.map (cP cI)))),(7,.d (.int .i64 l.length)),(8,.d (.int .i64 p.1))]) (fun p=>[(16,some (.row 28 1 (p.2.map (cS cI))))]) (fun p=>l.length - p.1) ?_ ?_
 ·refine (bA 3 16 28 1 (by omega) (by omega) (by simp)).bind ?_
  rintro _ rfl
  exact Lead.of ⟨(0,[]),.zero,rfl,rfl,Jv _,by simp,by simp⟩
 rintro ⟨i,ys⟩ hs t m hI hh
 have hle:=hI.le
 have hyl:=hI.len
 simp only at hle
 by_cases hlt : i < l.length
 ·have hwi:=wr1 (i:=i) (by omega)
  have hL : LenOk 24 (ys.length + 1):=⟨by omega,by simp only [maxLen]; omega⟩
  simp [hlt,cP,pS]
  refine bb (ob l[i] (hb2 _ (Jy hlt))) (by simp [pS]) (by simp) fun n hs' r hn hn' hp hr=>?_
  obtain ⟨y,rfl,hy1,hy2,hy3⟩:=hp
  simp at hn
  have hr' : ∀ g ∈ idsL (cS cI y),g < hs':=fun g hg=>hr g (by rw [bc] at hg; exact hg)
  simp [cS,dSl,hL,hwi]
  exact bg (i + 1,ys ++ [y]) (hI.snoc hlt hy1 hy2 (by omega) hn' hy3 hr') (by simp only; omega) rfl (by simp <;> omega) (by simp [cP,pS]) (by simp [cS,dSl])
 ·have hall:=hI.all (by omega)
  simp [hlt]
  intro γ hs' h1 hg
  obtain ⟨q1,q2⟩:=bz hg (k:=16) (T:=28) (sz:=1) (es:=ys.map (cS cI)) (by simp)
  have q3:=ea hg (k:=16) (T:=28) (sz:=1) (es:=ys.map (cS cI)) (by simp)
  clear hg
  have hp : hpLL (ys.map (cS cI)) = false:=kG ys
  refine ⟨⟨γ 16,some (28,1),ys⟩,by simp [dSl,Jj],by simpa [plS] using hall,⟨by simp only [maxLen]; show ys.length <= _; omega,hI.ok⟩,df (fun g hg=>(q1 g hg).1) (by simpa using q2) q3 ⟨hI.good.nd,hI.good.lo⟩ hI.good.wh,rfl⟩
theorem jA (l : List (List Int)) (hb : l.length <= 4294967296) (hb2 : ∀ r ∈ l,r.length <= 4294967296) :
  VC Tryz.prog 118 [.d (pS (cP cI) l)] (fun n r=>∃ y : Sl Ints,r = .d (dSl (cS cI) y) /\ plS (plS plI) y = l /\ okS (okS okI) y /\ Good (cS (cS cI) y) (whS (whS whI) y) n):=
 (m9 l hb hb2).weak fun _ _ ⟨y,h1,h2,h3,h4,_⟩=>⟨y,h1,h2,h3,h4⟩
end
end
section
open Go.Vs Go.Proofs Go
set_option maxRecDepth 100000
set_option maxHeartbeats 1000000
theorem lx : ∀ (n : Nat) (l : List (List Int)),l.length <= n -> l.length <= 4294967296 -> VC Tryz.prog 86 [.d (pS (cP cI) l)] (fun _ r=>r = .d (pS (cP cI) (srtU l))):=by
 intro n
 induction n with
 | zero =>
   intro l hn hb
   have : l = []:=List.length_eq_zero_iff.1 (by omega)
   subst this
   refine VC.ofL EP s86 Tryz.func86 fun B hl=>?_
   simp [Tryz.f86,srtU]
 | succ n ih=>
 intro l hn hb
 refine VC.ofL EP s86 Tryz.func86 fun B hl=>?_
 by_cases h2 : l.length < 2
 ·have e : srtU l = l:=yw (by
   match l,h2 with
   | [],_=>exact .nil
   | [_],_=>simp
   | _ :: _ :: _,h=>simp only [Qv] at h; omega)
  simp [Tryz.f86,show ((l.length : Int) < 2) by omega,e]
 obtain ⟨k,hk⟩ : ∃ k,k = l.length / 2:=⟨_,rfl⟩
 have hm : IntKind.i64.wrap ((l.length : Int) / 2) = (k : Int):=by rw [aj (by omega) (by omega)]; omega
 simp [Tryz.f86,show ¬ ((l.length : Int) < 2) by omega,hm,show k <= l.length by omega]
 refine aF (ih (l.take k) (by simp; omega) (by simp; omega)) (by simp [List.map_take]) fun hs1 hh1 _=>?_
 simp at hh1
 simp [hm,show k <= l.length by omega,Jj]
 refine aF (ih (l.drop k) (by simp; omega) (by simp; omega)) (by simp [List.map_drop]) fun hs2 hh2 _=>?_
 simp at hh2
 simp
 have hst:=MI.start l k
 generalize srtU (l.take k) = a0 at hst
 generalize srtU (l.drop k) = b0 at hst
 refine ae (X:=List (List Int) × List (List Int) × List (List Int)) (fun p=>MI l p.1 p.2.1 p.2.2)
  (fun p=>[(4,.d (.pl (p.1.map (cP cI)))),(5,.d (.pl (p.2.1.map (cP cI)))),(6,.own 24 0 p.2.2.length)]) (fun p=>[(24,some (.row 28 1 (p.2.2.map (cP cI))))]) (fun p=>p.1.length + p.2.1.length) (a0,b0,[]) hst (by simp) (by simp) ?_
 rintro ⟨a,b,out⟩ hs t m hI hh
 simp only at hI
 have hlen:=hI.len
 have hL24 : LenOk 24 1:=⟨by omega,by simp only [maxLen]; omega⟩
 have hpa : ∀ a : List (List Int),(0 : Int) < (a.length : Int) + 1:=fun a=>by omega
 have hpb : ∀ a : List (List Int),¬ (a.length : Int) + 1 = 0:=fun a=>by omega
 have hqa : (0 : Int) < 1:=by omega
 have hqb : ¬ (0 : Int) < -1:=by omega
 rcases a with _ | ⟨x,a⟩
 ·rcases b with _ | ⟨y,b⟩
  ·have hd:=hI.done
   subst hd
   simp [Jj]
  ·refine anyQ fun Q=>?_
   have hc0 : True:=trivial
   have hI':=hI.swap
   have hL:=hI'.left (by simp)
   rcases iu out with rfl | ⟨o,z,rfl⟩
   ·simp [hc0,hpa,hpb,hqa,hqb,Jj,cP,hL24]
    exact back ([],b,[y]) (MI.swap (hL.2 (by simp))) (by simp <;> omega) rfl (by simp <;> omega) (by simp) (by simp)
   ·simp only [Qw,Qv,List.length_nil] at hlen
    have hw : IntKind.i64.wrap (o.length : Int) = o.length:=aj (by omega) (by omega)
    have hix : (o.map (cP cI) ++ [[D.pl (z.map cI)]])[o.length]? = some [D.pl (z.map cI)]:=by rw [List.getElem?_append_right (by simp)]; simp
    simp [hc0,hpa,hpb,hqa,hqb,Jj,hw,hix,cP]
    refine ag (bj z y) (by simp) rfl fun hs3 hh3=>?_
    simp at hh3
    by_cases e : z = y
    ·subst e
     simp [cK]
     exact back ([],b,o ++ [z]) (MI.swap (hL.1 (hI'.last.2 rfl))) (by simp <;> omega) rfl (by simp <;> omega) (by simp) (by simp)
    ·have e' : ¬ cmpL z y = 0:=fun h=>e ((dj _ _).1 h)
     simp [e',show LenOk 24 (o.length + 1 + 1) from ⟨by omega,by simp only [maxLen]; omega⟩,cP]
     exact back ([],b,o ++ [z] ++ [y]) (MI.swap (hL.2 fun h=>e (hI'.last.1 h))) (by simp <;> omega) rfl (by simp <;> omega) (by simp) (by simp)
 ·rcases b with _ | ⟨y,b⟩
  ·refine anyQ fun Q=>?_
   have hc0 : True:=trivial
   have hL:=hI.left (by simp)
   rcases iu out with rfl | ⟨o,z,rfl⟩
   ·simp [hc0,hpa,hpb,hqa,hqb,Jj,cP,hL24]
    exact back (a,[],[x]) ((hL.2 (by simp))) (by simp <;> omega) rfl (by simp <;> omega) (by simp) (by simp)
   ·simp only [Qw,Qv,List.length_nil] at hlen
    have hw : IntKind.i64.wrap (o.length : Int) = o.length:=aj (by omega) (by omega)
    have hix : (o.map (cP cI) ++ [[D.pl (z.map cI)]])[o.length]? = some [D.pl (z.map cI)]:=by rw [List.getElem?_append_right (by simp)]; simp
    simp [hc0,hpa,hpb,hqa,hqb,Jj,hw,hix,cP]
    refine ag (bj z x) (by simp) rfl fun hs3 hh3=>?_
    simp at hh3
    by_cases e : z = x
    ·subst e
     simp [cK]
     exact back (a,[],o ++ [z]) ((hL.1 (hI.last.2 rfl))) (by simp <;> omega) rfl (by simp <;> omega) (by simp) (by simp)
    ·have e' : ¬ cmpL z x = 0:=fun h=>e ((dj _ _).1 h)
     simp [e',show LenOk 24 (o.length + 1 + 1) from ⟨by omega,by simp only [maxLen]; omega⟩,cP]
     exact back (a,[],o ++ [z] ++ [x]) ((hL.2 fun h=>e (hI.last.1 h))) (by simp <;> omega) rfl (by simp <;> omega) (by simp) (by simp)
  ·refine anyQ fun Q=>?_
   simp [cP,hpa,hpb]
   refine ag (bj x y) (by simp) rfl fun hs0 hh0=>?_
   simp at hh0
   by_cases hc0 : 0 < cmpL x y
   ·have hI':=hI.swap
    have hL:=hI'.left (hI.hr hc0)
    rcases iu out with rfl | ⟨o,z,rfl⟩
    ·simp [hc0,hpa,hpb,hqa,hqb,Jj,cP,hL24]
     exact back ((x :: a),b,[y]) (MI.swap (hL.2 (by simp))) (by simp <;> omega) rfl (by simp <;> omega) (by simp) (by simp)
    ·simp only [Qw,Qv,List.length_nil] at hlen
     have hw : IntKind.i64.wrap (o.length : Int) = o.length:=aj (by omega) (by omega)
     have hix : (o.map (cP cI) ++ [[D.pl (z.map cI)]])[o.length]? = some [D.pl (z.map cI)]:=by rw [List.getElem?_append_right (by simp)]; simp
     simp [hc0,hpa,hpb,hqa,hqb,Jj,hw,hix,cP]
     refine ag (bj z y) (by simp) rfl fun hs3 hh3=>?_
     simp at hh3
     by_cases e : z = y
     ·subst e
      simp [cK]
      exact back ((x :: a),b,o ++ [z]) (MI.swap (hL.1 (hI'.last.2 rfl))) (by simp <;> omega) rfl (by simp <;> omega) (by simp) (by simp)
     ·have e' : ¬ cmpL z y = 0:=fun h=>e ((dj _ _).1 h)
      simp [e',show LenOk 24 (o.length + 1 + 1) from ⟨by omega,by simp only [maxLen]; omega⟩,cP]
      exact back ((x :: a),b,o ++ [z] ++ [y]) (MI.swap (hL.2 fun h=>e (hI'.last.1 h))) (by simp <;> omega) rfl (by simp <;> omega) (by simp) (by simp)
   ·
    have hL:=hI.left (hI.hl hc0)
    rcases iu out with rfl | ⟨o,z,rfl⟩
    ·simp [hc0,hpa,hpb,hqa,hqb,Jj,cP,hL24]
     exact back (a,(y :: b),[x]) ((hL.2 (by simp))) (by simp <;> omega) rfl (by simp <;> omega) (by simp) (by simp)
    ·simp only [Qw,Qv,List.length_nil] at hlen
     have hw : IntKind.i64.wrap (o.length : Int) = o.length:=aj (by omega) (by omega)
     have hix : (o.map (cP cI) ++ [[D.pl (z.map cI)]])[o.length]? = some [D.pl (z.map cI)]:=by rw [List.getElem?_append_right (by simp)]; simp
     simp [hc0,hpa,hpb,hqa,hqb,Jj,hw,hix,cP]
     refine ag (bj z x) (by simp) rfl fun hs3 hh3=>?_
     simp at hh3
     by_cases e : z = x
     ·subst e
      simp [cK]
      exact back (a,(y :: b),o ++ [z]) ((hL.1 (hI.last.2 rfl))) (by simp <;> omega) rfl (by simp <;> omega) (by simp) (by simp)
     ·have e' : ¬ cmpL z x = 0:=fun h=>e ((dj _ _).1 h)
      simp [e',show LenOk 24 (o.length + 1 + 1) from ⟨by omega,by simp only [maxLen]; omega⟩,cP]
      exact back (a,(y :: b),o ++ [z] ++ [x]) ((hL.2 fun h=>e (hI.last.1 h))) (by simp <;> omega) rfl (by simp <;> omega) (by simp) (by simp)
end
section
open Go.Vs Go.Proofs Go
set_option maxRecDepth 100000
set_option maxHeartbeats 1000000
theorem ib (ar : Int) (l : List (List Int)) (hb : l.length <= 4294967296) (hn : ∀ x ∈ l,x.length <= 4294967296) : VC Tryz.prog 44 [.d (.int .i64 ar),.d (pS (cP cI) l)] (fun _ v=>v = .tup [.agg ((ao (newR ar l)).map .d),.d (.bool (newB ar l))]):=by
 refine VC.ofL EP sZ Tryz.func44 fun B hl=>?_
 simp [Tryz.f44,ao]
 refine ae (X:=Nat) (fun i=>i <= l.length /\ bP (fun r : List Int=>decide ((r.length : Int) = ar) && aZ r) l i) (fun i=>[(0,.d (.int .i64 ar)),(1,.d (.pl (l.map (cP cI)))),(4,.ptr 4 0 0),(6,.d (.int .i64 i))])
  (fun i=>[(4,some (.box [.d (.int .i64 0),.d (.sl none none [])]))]) (fun i=>l.length - i) 0 ⟨by simp,aQ⟩ (by simp) (by simp) ?_
 intro i hs t m hi hh
 by_cases hlt : i < l.length
 ·have hwi:=wr1 (i:=i) (by omega)
  by_cases hln : (l[i].length : Int) = ar
  ·simp [hlt,hln,cP]
   refine ag (dw l[i]) (by simp) rfl fun hs1 hh1=>?_
   simp at hh1
   cases hv : aZ l[i]
   ·have hbad:=bn (p:=fun r : List Int=>decide ((r.length : Int) = ar) && aZ r) hlt (by simp [hv])
    simp [newR,newB,hbad,ao]
   ·simp [hwi]
    exact back (i + 1) ⟨by omega,aM hi.2 hlt (by simp [hv,hln])⟩ (by omega) rfl (by simp <;> omega) (by simp) (by simp)
  ·have hbad:=bn (p:=fun r : List Int=>decide ((r.length : Int) = ar) && aZ r) hlt (by simp [hln])
   simp [hlt,hln,newR,newB,hbad,ao]
 ·have hd:=aP hi.2 (by omega)
  have hsl:=dB l
  simp [hlt]
  refine aF (lx _ l (Jv _) hb) (by simp) fun hs1 hh1 _=>?_
  simp at hh1
  simp
  refine aF (lu ⟨ar,srtU l⟩ (by simp; omega) (fun x hx=>hn x ((bZ l x).1 hx))) (by simp [ao]) fun hs2 hh2 _=>?_
  simp at hh2
  simp [ao]
  refine ag (bm ⟨ar,srtU l⟩) (by simp [ao]) rfl fun hs3 hh3=>?_
  simp at hh3
  cases h1 : aL ar (srtU l)
  ·simp [newR,newB,h1,ao]
  ·simp [newR,newB,h1,hd,ao]
end
section
open Go.Vs Go.Proofs Go
set_option maxRecDepth 100000
set_option maxHeartbeats 1000000
section
attribute [local simp] aR aC ax ay pS cP cI cStr cU8 cB
end
end
section
open Go.Vs Go.Proofs Go
set_option maxRecDepth 100000
set_option maxHeartbeats 1000000
theorem iB : ∀ (n : Nat) (l : List (List Int)),l.length <= n -> l.length <= 4294967296 -> (∀ r ∈ l,r.length <= 4294967296) ->
  VC Tryz.prog 79 [.d (pS (cP cI) l)] (fun m r=>∃ y : Sl Ints,r = .d (dSl (cS cI) y) /\ plS (plS plI) y = srtU l /\ okS (okS okI) y /\ Good (cS (cS cI) y) (whS (whS whI) y) m):=by
 intro n
 induction n with
 | zero =>
   intro l hn hb hb2
   have : l = []:=List.length_eq_zero_iff.1 (by omega)
   subst this
   refine VC.of E s79 Tryz.func79 fun B=>?_
   simp [Tryz.f79,pS]
   refine bb (jA [] (by simp) (by simp)) (by simp [pS]) (by simp) fun n1 hs1 r1 hn1 hm1 hp1 hr1=>?_
   obtain ⟨y,rfl,p1,k1,G1⟩:=hp1
   simp at hn1
   simp
   exact ⟨y,rfl,by rw [p1]; rfl,k1,G1.le (by omega)⟩
 | succ n ih=>
 intro l hn hb hb2
 refine VC.of E s79 Tryz.func79 fun B=>?_
 by_cases h2 : l.length < 2
 ·have e : srtU l = l:=yw (by
   match l,h2 with
   | [],_=>exact .nil
   | [_],_=>simp
   | _ :: _ :: _,h=>simp only [Qv] at h; omega)
  simp [Tryz.f79,pS,show ((l.length : Int) < 2) by omega]
  refine bb (jA l hb hb2) (by simp [pS]) (by simp) fun n1 hs1 r1 hn1 hm1 hp1 hr1=>?_
  obtain ⟨y,rfl,p1,k1,G1⟩:=hp1
  simp at hn1
  simp
  exact ⟨y,rfl,by rw [p1,e],k1,G1.le (by omega)⟩
 obtain ⟨k,hk⟩ : ∃ k,k = l.length / 2:=⟨_,rfl⟩
 have hm : IntKind.i64.wrap ((l.length : Int) / 2) = (k : Int):=by rw [aj (by omega) (by omega)]; omega
 have hkl : k <= l.length:=by omega
 simp [Tryz.f79,pS,show ¬ ((l.length : Int) < 2) by omega,hm,hkl]
 have hA:=ih (l.take k) (by simp; omega) (by simp; omega) (fun r hr=>hb2 r (List.mem_of_mem_take hr))
 have hB':=ih (l.drop k) (by simp; omega) (by simp; omega) (fun r hr=>hb2 r (List.mem_of_mem_drop hr))
 simp only [pS,List.map_take] at hA
 simp only [pS,List.map_drop] at hB'
 refine bb hA (by simp) (by simp) fun n1 hs1 r1 hn1 hm1 hp1 hr1=>?_
 obtain ⟨ya,rfl,p1,k1,G1⟩:=hp1
 simp at hn1
 simp [hm,hkl,Jj]
 refine bb hB' (by simp) (by simp) fun n2 hs2 r2 hn2 hm2 hp2 hr2=>?_
 obtain ⟨yb,rfl,p2,k2,G2⟩:=hp2
 simp at hn2
 have hst:=MJ.start l k
 rw [<- p1,<- p2] at hst
 obtain ⟨aid,aT,as_⟩:=ya
 obtain ⟨bid,bT,bs_⟩:=yb
 have u1 : ∀ g ∈ idsLL (as_.map (cS cI)),g < hs1:=fun g hg=>hr1 g (by rw [V.ids]; exact aK.2 (.inr hg))
 have own0 : OwnR B ([] ++ (as_ ++ bs_)):=by
  have g1:=G1.nd
  have g2:=G2.nd
  rw [bc] at g1 g2
  have h1:=(GN g1).1
  have h2:=(GN g2).1
  have e : idsLL ((as_ ++ bs_).map (cS cI)) = idsLL (as_.map (cS cI)) ++ idsLL (bs_.map (cS cI)):=by rw [Zj,cm]
  have l1 : ∀ g ∈ idsLL (as_.map (cS cI)),B <= g:=fun g hg=>by have:=G1.lo g (by rw [bc]; exact aK.2 (.inr hg)); omega
  have l2 : ∀ g ∈ idsLL (bs_.map (cS cI)),n2 <= g:=fun g hg=>G2.lo g (by rw [bc]; exact aK.2 (.inr hg))
  refine ⟨?_,?_,fun r hr=>?_,fun r hr=>?_⟩
  ·rw [List.nil_append,e]
   exact List.nodup_append.2 ⟨h1,h2,fun x hx y hy hxy=>by subst hxy; have:=u1 x hx; have:=l2 x hy; omega⟩
  ·intro g hg
   rw [List.nil_append,e] at hg
   rcases Qq.1 hg with h | h
   ·exact l1 g h
   ·have:=l2 g h; omega
  ·rcases (by simpa using hr : r ∈ as_ \/ r ∈ bs_) with h | h
   ·exact G1.wh.2 r h
   ·exact G2.wh.2 r h
  ·rcases (by simpa using hr : r ∈ as_ \/ r ∈ bs_) with h | h
   ·exact k1.2 r h
   ·exact k2.2 r h
 clear hr1 hr2 u1
 simp [dSl]
 refine aE (X:=List Ints × List Ints × List Ints × Option (TypeId × Nat) × Option (TypeId × Nat)) (fun p _=>SrtI l B p) (fun p=>[(4,.d (.sl aid p.2.2.2.1 (p.1.map (cS cI)))),(5,.d (.sl bid p.2.2.2.2 (p.2.1.map (cS cI)))),(6,.own 52 0 p.2.2.1.length)])
  (fun p=>[(52,some (.row 28 1 (p.2.2.1.map (cS cI))))]) (fun p=>p.1.length + p.2.1.length) ?_ ?_
 ·refine (bA 6 52 28 1 (by omega) (by omega) (by simp)).bind ?_
  rintro _ rfl
  exact Lead.of ⟨(as_,bs_,[],aT,bT),⟨hst,own0⟩,rfl,rfl,Jv _,by simp,by simp⟩
 rintro ⟨a,b,o,Ta,Tb⟩ hs t m hI hh
 have hlen:=hI.mj.len
 simp only [List.length_map] at hlen
 have hpa : ∀ a : List Ints,(0 : Int) < (a.length : Int) + 1:=fun a=>by omega
 have hpb : ∀ a : List Ints,¬ (a.length : Int) + 1 = 0:=fun a=>by omega
 rcases a with _ | ⟨x,a⟩
 ·rcases b with _ | ⟨y,b⟩
  ·have hd:=hI.mj.done
   simp only at hd
   simp
   intro γ hs' h1 hg
   obtain ⟨q1,q2⟩:=bz hg (k:=52) (T:=28) (sz:=1) (es:=o.map (cS cI)) (by simp)
   have q3:=ea hg (k:=52) (T:=28) (sz:=1) (es:=o.map (cS cI)) (by simp)
   clear hg
   have hown : OwnR B o:=by have:=hI.own; simpa using this
   have hp : hpLL (o.map (cS cI)) = false:=kG o
   simp only [List.length_nil] at hlen
   exact ⟨⟨γ 52,some (28,1),o⟩,by simp [dSl,Jj],by simpa [plS] using hd,⟨by simp only [maxLen]; show o.length <= _; omega,hown.ok⟩,df (fun g hg=>(q1 g hg).1) (by simpa using q2) q3 ⟨hown.nd,hown.lo⟩ hown.wh⟩
  ·simp only [Qv,List.length_nil] at hlen
   have hL : LenOk 24 (o.length + 1):=⟨by omega,by simp only [maxLen]; omega⟩
   refine dx fun Q=>?_
   simp [hpa,hpb,hL,cS,dSl]
   exact bg ([],b,o ++ [y],Ta,(if bid.isSome = true then none else Tb)) (hI.right (by simp)) (by simp <;> omega) rfl (by simp <;> omega) (by simp [cS,dSl,Jj]) (by simp [cS,dSl])
 ·rcases b with _ | ⟨y,b⟩
  ·simp only [Qv,List.length_nil] at hlen
   have hL : LenOk 24 (o.length + 1):=⟨by omega,by simp only [maxLen]; omega⟩
   refine dx fun Q=>?_
   simp [hpa,hpb,hL,cS,dSl]
   exact bg (a,[],o ++ [x],(if aid.isSome = true then none else Ta),Tb) (hI.left (by simp)) (by simp <;> omega) rfl (by simp <;> omega) (by simp [cS,dSl,Jj]) (by simp [cS,dSl])
  ·simp only [Qv] at hlen
   have hL : LenOk 24 (o.length + 1):=⟨by omega,by simp only [maxLen]; omega⟩
   have hM:=hI.mj
   simp only [Qz] at hM
   refine dx fun Q=>?_
   simp [hpa,hpb,cS,dSl]
   refine ag (gX (plS plI x) (plS plI y)) (by simp [plS,pS,bW eE,ax]) rfl fun hs3 hh3=>?_
   simp at hh3
   by_cases c1 : cmpL (plS plI x) (plS plI y) < 0
   ·have c2 : cmpL (plS plI x) (plS plI y) <= 0:=by omega
    have c3 : ¬ 0 <= cmpL (plS plI x) (plS plI y):=by omega
    simp [c2,c3,hL,cS,dSl]
    exact bg (a,y :: b,o ++ [x],(if aid.isSome = true then none else Ta),Tb) (hI.left (hM.less c1)) (by simp <;> omega) rfl (by simp <;> omega) (by simp [cS,dSl,Jj]) (by simp [cS,dSl])
   by_cases c4 : cmpL (plS plI x) (plS plI y) = 0
   ·have e:=(dj _ _).1 c4
    simp [c4,hL,cS,dSl]
    exact bg (a,b,o ++ [x],(if aid.isSome = true then none else Ta),(if bid.isSome = true then none else Tb)) (hI.both e) (by simp <;> omega) rfl (by simp <;> omega) (by simp [cS,dSl,Jj]) (by simp [cS,dSl])
   ·have c2 : ¬ cmpL (plS plI x) (plS plI y) <= 0:=by omega
    have c3 : 0 <= cmpL (plS plI x) (plS plI y):=by omega
    have c5 : 0 < cmpL (plS plI x) (plS plI y):=by omega
    have c6 : cmpL (plS plI y) (plS plI x) < 0:=by have:=gn (plS plI x) (plS plI y); omega
    simp [c2,c3,c5,hL,cS,dSl]
    exact bg (x :: a,b,o ++ [y],Ta,(if bid.isSome = true then none else Tb)) (hI.right (hM.swap.less c6)) (by simp <;> omega) rfl (by simp <;> omega) (by simp [cS,dSl,Jj]) (by simp [cS,dSl])
end
section
open Go.Vs Go.Proofs Go
set_option maxRecDepth 100000
set_option maxHeartbeats 1000000
theorem lG (ar : Int) (l : List (List Int)) (hb : l.length <= 4294967296) (hb2 : ∀ r ∈ l,r.length <= 4294967296) :
  VC Tryz.prog 82 [.d (.int .i64 ar),.d (pS (cP cI) l)] (fun m r=>∃ y : Reln,r = .tup [.agg ((aA y).map V.d),.d (.bool (newB ar l))] /\ aV y = newR ar l /\ eL y /\ Good (aA y) (fq y) m):=by
 refine VC.of E sZ Tryz.func82 fun B=>?_
 have hno : newB ar l = false -> ∃ y : Reln,V.tup [.agg ((aA ⟨0,nilS⟩).map V.d),.d (.bool false)] = .tup [.agg ((aA y).map V.d),.d (.bool (newB ar l))] /\ aV y = newR ar l /\ eL y /\ Good (aA y) (fq y) B:=fun h=>
  ⟨⟨0,nilS⟩,by rw [h],by simp [newR,h,aV,plI,nilS,plS],⟨trivial,ch⟩,fl B⟩
 simp only [aA,cS,cI,nilS,dSl] at hno
 simp at hno
 simp [Tryz.f82,pS]
 refine ae (X:=Nat) (ToN ar l) (fun i=>[(0,.d (.int .i64 ar)),(1,.d (.pl (l.map (cP cI)))),(4,.ptr 4 0 0),(9,.d (.pl (l.map (cP cI)))),(10,.d (.int .i64 l.length)),(11,.d (.int .i64 i))])
  (fun i=>[(4,some (.box [.d (.int .i64 0),.d (.sl none none [])]))]) (fun i=>l.length - i) 0 .zero (by simp [cP,cI,pS]) (by simp) ?_
 intro i hs t m hi hh
 have hle:=hi.le
 by_cases hlt : i < l.length
 ·have hwi:=wr1 (i:=i) (by omega)
  by_cases hln : (l[i].length : Int) = ar
  ·simp [hlt,hln,cP,pS]
   refine ag (fc l[i]) (by simp [pS]) rfl fun hs1 hh1=>?_
   simp at hh1
   cases hv : aZ l[i]
   ·have hB0 : newB ar l = false:=hi.bad hlt (by simp [hv])
    simp
    simpa [hB0,aA,cS,cI,dSl] using hno hB0
   ·simp [hwi]
    exact back (i + 1) (hi.step hlt (by simp [hv,hln])) (by omega) rfl (by simp <;> omega) (by simp [cP,cI,pS]) (by simp)
  ·have hB0 : newB ar l = false:=hi.bad hlt (by simp [hln])
   simp [hlt,hln,cP,pS]
   simpa [hB0,aA,cS,cI,dSl] using hno hB0
 ·have hd:=hi.done (by omega)
  have hsl:=dB l
  simp [hlt]
  refine bb (iB _ l (Jv _) hb hb2) (by simp [pS]) (by simp) fun n1 hs1 r1 hn1 hm1 hp1 hr1=>?_
  obtain ⟨y,rfl,p1,k1,G1⟩:=hp1
  simp at hn1
  clear hr1
  simp
  refine ag (bO ⟨ar,srtU l⟩) (by simp [<- p1,ao,JD,cI]) rfl fun hs3 hh3=>?_
  simp at hh3
  cases h1 : aL ar (srtU l)
  ·have hB0 : newB ar l = false:=by rw [newB,h1,Bool.and_false]
   simp
   simpa [hB0,aA,cS,cI,dSl] using hno hB0
  ·have hB1 : newB ar l = true:=by rw [newB,h1,hd]; rfl
   simp [hB1]
   exact ⟨⟨ar,y⟩,by simp [aA,cS,cI],by simp only [newR,hB1,if_true,aV,plI]; rw [p1],⟨trivial,k1⟩,kF G1 (by omega)⟩
end
section
open Go.Vs Go.Proofs Go
set_option maxRecDepth 100000
set_option maxHeartbeats 1000000
theorem iy (ar : Int) (cols : List Int) : VC Tryz.prog 80 [.d (.int .i64 ar),.d (pS cI cols)] (fun _ v=>v = .d (.bool (eA ar cols))):=by
 refine VC.ofL EP sZ Tryz.func80 fun B hl=>?_
 by_cases h5 : cols.length <= 5
 case neg=>simp [Tryz.f80,eA,h5,show (5 : Int) < cols.length by omega]
 simp [Tryz.f80,show ¬ (5 : Int) < cols.length by omega]
 refine ae (X:=Nat) (fun i=>i <= cols.length /\ bP (fun c=>inR c 0 (IntKind.i64.wrap (ar - 1))) cols i) (fun i=>[(0,.d (.int .i64 ar)),(10,.d (.pl (cols.map cI))),(11,.d (.int .i64 cols.length)),(12,.d (.int .i64 i))])
  (fun _=>[]) (fun i=>cols.length - i) 0 ⟨by simp,aQ⟩ (by simp) (by simp) ?_
 intro i hs t m hi hh
 by_cases hlt : i < cols.length
 ·have hwi:=wr1 (i:=i) (by omega)
  simp [hlt,cI]
  refine ag (aN cols[i] 0 (IntKind.i64.wrap (ar - 1))) (by simp) rfl fun hs1 hh1=>?_
  simp at hh1
  cases hv : inR cols[i] 0 (IntKind.i64.wrap (ar - 1))
  ·have hbad:=bn (p:=fun c=>inR c 0 (IntKind.i64.wrap (ar - 1))) hlt hv
   simp [eA,hbad]
  ·simp [hwi]
   exact back (i + 1) ⟨by omega,aM hi.2 hlt hv⟩ (by omega) rfl (by simp <;> omega) (by simp) (by simp)
 have hd:=aP hi.2 (by omega)
 simp [hlt,eA,hd,h5]
end
section
open Go.Vs Go.Proofs Go
set_option maxRecDepth 100000
set_option maxHeartbeats 1000000
theorem qC (row cols : List Int) (hb : cols.length <= 4294967296) (hc : ∀ c ∈ cols,0 <= c /\ c < row.length) : VC Tryz.prog 49 [.d (pS cI row),.d (pS cI cols)] (fun _ v=>v = .d (pS cI (bp cols row))):=by
 refine VC.ofL EP sZ Tryz.func49 fun B hl=>?_
 simp [Tryz.f49]
 refine ae (X:=Nat) (fun i=>i <= cols.length) (fun i=>[(0,.d (.pl (row.map cI))),(1,.d (.pl (cols.map cI))),(5,.own 7 0 i),(6,.d (.int .i64 i))])
  (fun i=>[(7,some (.row 3 1 ((bp (cols.take i) row).map cI)))]) (fun i=>cols.length - i) 0 (by simp) (by simp) (by simp [bp]) ?_
 intro i hs t m hi hh
 by_cases hlt : i < cols.length
 ·have hwi:=wr1 (i:=i) (by omega)
  have h1:=hc _ (Jy hlt)
  have hst:=pM hlt hc
  obtain ⟨k,hk⟩ : ∃ k : Nat,cols[i] = (k : Int):=⟨cols[i].toNat,by omega⟩
  have hkl : k < row.length:=by omega
  have hL : LenOk 8 (i + 1):=⟨by omega,by simp only [maxLen]; omega⟩
  have hpl : (bp (cols.take i) row).length = i:=by rw [dp,Zq]; omega
  simp only [hk,Int.toNat_natCast] at hst
  simp [hlt,hk,hkl,hL,hwi,hpl,cI]
  exact back (i + 1) (by omega) (by omega) rfl (by simp <;> omega) (by simp) (by simp [hst,cI])
 ·have hn : i = cols.length:=by omega
  subst hn
  simp [Jj,dp]
end
section
open Go.Vs Go.Proofs Go
set_option maxRecDepth 100000
set_option maxHeartbeats 1000000
section
attribute [local simp] aR aC ax ay pS cP cI cStr cU8 cB
theorem gZ (b : List Int) : VC Tryz.prog 106 [.d (pS cI b)] (fun _ r=>r = .d (.bool (ascB b))):=by
 refine VC.ofL EP s106 Tryz.func106 fun B hl=>?_
 simp [pS,maxLen] at hl
 simp [Tryz.f106]
 refine ae (X:=Nat) (AscI b) (fun i=>[(0,.d (.pl (b.map cI))),(3,.d (.int .i64 i))]) (fun _=>[]) (fun i=>b.length + 1 - i) 1 .one (by simp) (by simp) ?_
 intro i hs t m hi hh
 have hle:=hi.le
 by_cases hlt : i < b.length
 ·have hwi:=wr1 (i:=i) (by omega)
  have hw : IntKind.i64.wrap ((i : Int) - 1) = ((i - 1 : Nat) : Int):=by rw [aj (by omega) (by omega)]; omega
  have hl1 : i - 1 < b.length:=by omega
  by_cases he : b[i - 1] < b[i]
  ·simp [hlt,hw,hl1,he,show ¬ b[i] <= b[i - 1] by omega,hwi]
   exact back (i + 1) (hi.step hlt he) (by omega) rfl (by simp <;> omega) (by simp) (by simp)
  ·simp [hlt,hw,hl1,show b[i] <= b[i - 1] by omega,D3 hle.1 hlt he]
 ·simp [hlt,hi.done (by omega)]
theorem mR (q : ab) (b : List Int) : VC Tryz.prog 63 [.agg ((au q).map V.d),.d (pS cI b)] (fun _ r=>r = .d (.bool (bagI q.n b))):=by
 refine VC.ofL EP sZ Tryz.func63 fun B hl=>?_
 by_cases h0 : b.length = 0
 ·have : b = []:=List.length_eq_zero_iff.1 h0
  subst this
  simp [Tryz.f63,au,bagI]
 have h1 : 0 < b.length:=by omega
 simp [Tryz.f63,au,h1]
 refine ag (gZ b) (by simp) rfl fun hs1 hh1=>?_
 simp at hh1
 cases h2 : ascB b
 ·simp [bagI,h2]
 simp
 refine ag (kb b q.n) (by simp) rfl fun hs2 hh2=>?_
 simp [bagI,h1,h2]
theorem iG (l b : List Int) (hb : l.length <= 4294967296) : VC Tryz.prog 55 [.d (pS cI l),.d (pS cI b)] (fun _ r=>r = .d (pS cI (fA l b))):=by
 refine VC.ofL EP sZ Tryz.func55 fun B hl=>?_
 simp [Tryz.f55]
 refine aE (X:=Nat) (fun i _=>i <= l.length) (fun i=>[(1,.d (.pl (b.map cI))),(5,.own 20 0 (fA (l.take i) b).length),(8,.d (.pl (l.map cI))),(9,.d (.int .i64 l.length)),(10,.d (.int .i64 i))]) (fun i=>[(20,some (.row 3 1 ((fA (l.take i) b).map cI)))]) (fun i=>l.length - i) ?_ ?_
 ·refine (bA 5 20 3 1 (by omega) (by omega) (by simp)).bind ?_
  rintro _ rfl
  exact Lead.of ⟨0,by omega,rfl,rfl,Jv _,by simp [fA],by simp [fA]⟩
 intro i hs t m hi hh
 by_cases hlt : i < l.length
 ·have hwi:=wr1 (i:=i) (by omega)
  have hst:=y4 (b:=b) hlt
  have hcl:=Xy (fun v=>b.contains v) (l.take i)
  rw [Zq] at hcl
  have hL : LenOk 8 ((fA (l.take i) b).length + 1):=⟨by simp only [fA]; omega,by simp only [maxLen,fA]; omega⟩
  simp [hlt]
  refine ag (dX b l[i]) (by simp) rfl fun hs1 hh1=>?_
  simp at hh1
  by_cases h1 : l[i] ∈ b
  ·have e : b.contains l[i] = true:=by simpa using h1
   rw [e] at hst
   simp only [if_true] at hst
   simp [h1,hwi,hL]
   exact bg (i + 1) (by omega) (by omega) rfl (by simp <;> omega) (by simp [hst]) (by simp [hst])
  ·have e : b.contains l[i] = false:=by simpa using h1
   rw [e] at hst
   simp only [Zv,if_false,List.append_nil] at hst
   simp [h1,hwi]
   exact bg (i + 1) (by omega) (by omega) rfl (by simp <;> omega) (by simp [hst]) (by simp [hst])
 ·have hn : i = l.length:=by omega
  subst hn
  simp [Jj]
theorem fM (a : aH) : VC Tryz.prog 56 [.agg ((aB a).map V.d)] (fun _ r=>r = .d (pS cI (nN a))):=by
 refine VC.ofL EP sZ Tryz.func56 fun B hl=>?_
 simp [Tryz.f56,aB]
 refine aE (X:=Nat) (fun i _=>i <= 5) (fun i=>[(1,.ptr 1 0 0),(3,.own 15 0 (avTo a i).length),(4,.d (.int .i64 i))]) (fun i=>[(1,some (.box [.d (.str a.rel),.d (.pl (a.vars.map cI))])),(15,some (.row 3 1 ((avTo a i).map cI)))]) (fun i=>5 - i) ?_ ?_
 ·refine (bA 3 15 3 1 (by omega) (by omega) (by simp)).bind ?_
  rintro _ rfl
  exact Lead.of ⟨0,by omega,rfl,rfl,Jv _,by simp [avTo,bD],by simp [avTo,bD]⟩
 intro i hs t m hi hh
 by_cases hlt : i < 5
 ·have hwi:=wr1 (i:=i) (by omega)
  have hst:=yO a i
  have hal:=tp a i
  have hL : LenOk 8 ((avTo a i).length + 1):=⟨by omega,by simp only [maxLen]; omega⟩
  have hlt' : (i : Int) < 5:=by omega
  simp [hlt']
  refine ag (cX a i) (by simp [aB]) rfl fun hs1 hh1=>?_
  simp at hh1
  by_cases h1 : (i : Int) ∈ a.vars
  ·have e : a.vars.contains (i : Int) = true:=by simpa using h1
   rw [e] at hst
   simp only [if_true] at hst
   simp [h1,hwi,hL]
   exact bg (i + 1) (by omega) (by omega) rfl (by simp <;> omega) (by simp [hst]) (by simp [hst])
  ·have e : a.vars.contains (i : Int) = false:=by simpa using h1
   rw [e] at hst
   simp only [Zv,if_false,List.append_nil] at hst
   simp [h1,hwi]
   exact bg (i + 1) (by omega) (by omega) rfl (by simp <;> omega) (by simp [hst]) (by simp [hst])
 ·have hn : i = 5:=by omega
  subst hn
  have : avTo a 5 = nN a:=rfl
  simp [this,Jj]
theorem nF (a : aH) (b : List Int) : VC Tryz.prog 42 [.agg ((aB a).map V.d),.d (pS cI b)] (fun _ r=>r = .d (.bool (insD a b))):=by
 refine VC.ofL EP sZ Tryz.func42 fun B hl=>?_
 obtain ⟨nm,l⟩:=a
 simp [pS,maxLen,aB] at hl
 simp [Tryz.f42,aB]
 refine ae (X:=Nat) (InTo b ⟨nm,l⟩) (fun i=>[(1,.d (.pl (b.map cI))),(2,.ptr 2 0 0),(5,.d (.int .i64 i))]) (fun _=>[(2,some (.box [.d (.str nm),.d (.pl (l.map cI))]))]) (fun i=>l.length - i) 0 .zero (by simp) (by simp) ?_
 intro i hs t m hi hh
 have hle : i <= l.length:=hi.le
 by_cases hlt : i < l.length
 ·have hwi:=wr1 (i:=i) (by omega)
  have hge:=eH b l[i]
  simp [hlt]
  refine ag (cb b l[i]) (by simp) rfl fun hs1 hh1=>?_
  simp at hh1
  by_cases h1 : l[i] ∈ b
  ·have h8 : ¬ idxL b l[i] < 0 := by have : 0 ≤ idxL b l[i] := by simpa [h1] using hge
                                     omega
   simp [h8,hwi]
   exact back (i + 1) (hi.step hlt h1) (by omega) rfl (by simp <;> omega) (by simp) (by simp)
  ·have h8 : idxL b l[i] < 0 := by have : ¬ 0 ≤ idxL b l[i] := by simpa [h1] using hge
                                   omega
   have hb : insD ⟨nm,l⟩ b = false:=Ez (a:=⟨nm,l⟩) hlt h1
   simp [h8,hb]
 ·have hd : insD ⟨nm,l⟩ b = true:=hi.done (by show l.length <= i; omega)
  simp [hlt,hd]
theorem qB (q : ab) (b : List Int) : VC Tryz.prog 41 [.agg ((au q).map V.d),.d (pS cI b)] (fun _ r=>r = .d (.bool (bagS q.n b))):=by
 refine VC.ofL EP s41 Tryz.func41 fun B hl=>?_
 simp [pS,maxLen] at hl
 simp [Tryz.f41,au]
 refine ae (X:=Nat) (BagI q.n b) (fun i=>[(1,.d (.pl (b.map cI))),(2,.ptr 2 0 0),(5,.d (.int .i64 i))]) (fun _=>[(2,some (.box [.d (.int .i64 q.n),.d (.pl (q.atoms.map aB)),.d (.pl (q.out.map cI))]))]) (fun i=>b.length - i) 0 .zero (by simp) (by simp) ?_
 intro i hs t m hi hh
 have hle:=hi.le
 by_cases hlt : i < b.length
 ·have hwi:=wr1 (i:=i) (by omega)
  simp [hlt]
  refine ag (bB b[i] 0 (IntKind.i64.wrap (q.n - 1))) (by simp) rfl fun hs1 hh1=>?_
  simp at hh1
  cases h1 : inR b[i] 0 (IntKind.i64.wrap (q.n - 1))
  ·have hb : bagS q.n b = false:=tq hlt (by rw [cp,ak _ hlt,h1,Zh])
   simp [hb]
  by_cases h0 : i = 0
  ·subst h0
   have hwi0 : IntKind.i64.wrap 1 = 1:=by simpa using hwi
   have hok : cp q.n b 0 = true:=by rw [cp,ak _ hlt,h1,Bool.true_and]; simp [iL]
   simp [hwi0]
   exact back 1 (hi.step hlt hok) (by omega) rfl (by simp <;> omega) (by simp) (by simp)
  ·have h0' : 0 < i:=by omega
   have hw : IntKind.i64.wrap ((i : Int) - 1) = ((i - 1 : Nat) : Int):=by rw [aj (by omega) (by omega)]; omega
   have hl1 : i - 1 < b.length:=by omega
   have hat:=lZ (b:=b) (by omega) hlt
   by_cases he : b[i - 1] < b[i]
   ·have hok : cp q.n b i = true:=by rw [cp,ak _ hlt,h1,Bool.true_and,hat]; simpa using he
    simp [h0',hlt,hw,hl1,show ¬ b[i] <= b[i - 1] by omega,hwi]
    exact back (i + 1) (hi.step hlt hok) (by omega) rfl (by simp <;> omega) (by simp) (by simp)
   ·have hb : bagS q.n b = false:=tq hlt (by rw [cp,ak _ hlt,h1,Bool.true_and,hat]; simpa using he)
    simp [h0',hlt,hw,hl1,show b[i] <= b[i - 1] by omega,hb]
 ·have hd:=hi.done (by omega)
  simp [hlt,hd]
end
end
section
open Go.Vs Go.Proofs Go
set_option maxRecDepth 100000
set_option maxHeartbeats 1000000
section
attribute [local simp] aR aC ax ay pS cP cI cStr cU8 cB
theorem qx (ps : List Int) (hb : ps.length <= 4294967296) : VC Tryz.prog 71 [.d (pS cI ps)] (fun _ r=>r = .d (.bool (eW ps))):=by
 refine VC.ofL EP sZ Tryz.func71 fun B hl=>?_
 simp [pS,maxLen] at hl
 simp [Tryz.f71]
 refine ae (X:=Nat) (TreI ps) (fun i=>[(0,.d (.pl (ps.map cI))),(3,.d (.int .i64 (dH ps i))),(8,.d (.pl (ps.map cI))),(9,.d (.int .i64 ps.length)),(10,.d (.int .i64 i))]) (fun _=>[]) (fun i=>ps.length - i) 0 .zero (by simp [dH]) (by simp) ?_
 intro i hs t m hi hh
 have hle:=hi.le
 by_cases hlt : i < ps.length
 case neg=>
  have hd:=hi.done (by omega)
  simp [hlt,hd]
  omega
 have hwi:=wr1 (i:=i) (by omega)
 have hw1 : IntKind.i64.wrap ((ps.length : Int) - 1) = ps.length - 1:=aj (by omega) (by omega)
 have hbad : cU ps i = false -> eW ps = false:=z5 hlt
 have hri:=wG ps i
 have hst:=sK hlt
 have hwr : IntKind.i64.wrap ((dH ps i : Int) + 1) = dH ps i + 1:=aj (by omega) (by omega)
 simp [hlt,hw1]
 refine ag (aN ps[i] (-1) (ps.length - 1)) (by simp) rfl fun hs1 hh1=>?_
 simp at hh1
 cases h1 : inR ps[i] (-1) (ps.length - 1)
 ·have hb:=hbad (by rw [cU,eJ hlt,h1,Zh])
  simp [hb]
 have hend : cU ps i = jj (upI ps (ps.length + 1) i):=by rw [cU,eJ hlt,h1,Bool.true_and]
 obtain ⟨R,hR⟩ : ∃ R : Nat,R = dH ps (i + 1):=⟨_,rfl⟩
 by_cases h2 : ps[i] < 0
 ·rw [if_pos h2] at hst
  simp [h2,hwr]
  refine ae (X:=Nat × Int) (UpT ps i) (fun p=>[(0,.d (.pl (ps.map cI))),(3,.d (.int .i64 R)),(6,.d (.int .i64 p.2)),(7,.d (.int .i64 p.1)),(8,.d (.pl (ps.map cI))),(9,.d (.int .i64 ps.length)),(10,.d (.int .i64 i))]) (fun _=>[]) (fun p=>ps.length + 1 - p.1) (0,(i : Int)) ⟨by simp,by simp only; omega,rfl⟩ (by simp [hR,hst]) (by simp) ?_
  rintro ⟨k,a⟩ hs t m hk hh
  have hkl:=hk.le
  have hka:=hk.at_
  simp only at hkl hka
  by_cases hc : k <= ps.length /\ 0 <= a
  ·obtain ⟨hc1,hc2⟩:=hc
   obtain ⟨A,rfl⟩ : ∃ A : Nat,a = (A : Int):=⟨a.toNat,by omega⟩
   have hA : A < ps.length:=by omega
   have hwk:=wr1 (i:=k) (by omega)
   cases h3 : inR ps[A] (-1) (ps.length - 1)
   ·have hb:=hbad (hk.bad hc1 hc2 (eJ hA) h3)
    simp [hc1,hA,hw1]
    refine ag (VC.to (aN ps[A] (-1) (ps.length - 1)) (show _ = V.d (.bool false) by rw [h3])) (by simp) rfl fun hs3 hh3=>?_
    simp [hb]
   ·refine anyQ fun Q=>?_
    simp [hc1,hA,hw1]
    refine ag (VC.to (aN ps[A] (-1) (ps.length - 1)) (show _ = V.d (.bool true) by rw [h3])) (by simp) rfl fun hs3 hh3=>?_
    simp at hh3
    simp [hwk]
    exact back (k + 1,ps[A]) (hk.step hc1 hc2 (eJ hA) h3) (by simp only; omega) rfl (by simp <;> omega) (by simp) (by simp)
  have hfin:=hk.fin hc
  by_cases ha : a < 0
  ·have hok : cU ps i = true:=by rw [hend,hfin]; simpa using ha
   have ha' : ¬ 0 <= a:=by omega
   by_cases hk2 : k <= ps.length
   ·simp [hk2,ha,ha',hwi]
    exact back (i + 1) (hi.step hlt hok) (by omega) rfl (by simp <;> omega) (by simp [hR]) (by simp)
   ·simp [hk2,ha,ha',hwi]
    exact back (i + 1) (hi.step hlt hok) (by omega) rfl (by simp <;> omega) (by simp [hR]) (by simp)
  ·have hb:=hbad (by rw [hend,hfin]; simpa using ha)
   have hk2 : ¬ k <= ps.length:=fun h=>hc ⟨h,by omega⟩
   simp [hk2,show 0 <= a by omega,hb]
 ·rw [if_neg h2] at hst
  simp [h2]
  refine ae (X:=Nat × Int) (UpT ps i) (fun p=>[(0,.d (.pl (ps.map cI))),(3,.d (.int .i64 R)),(6,.d (.int .i64 p.2)),(7,.d (.int .i64 p.1)),(8,.d (.pl (ps.map cI))),(9,.d (.int .i64 ps.length)),(10,.d (.int .i64 i))]) (fun _=>[]) (fun p=>ps.length + 1 - p.1) (0,(i : Int)) ⟨by simp,by simp only; omega,rfl⟩ (by simp [hR,hst]) (by simp) ?_
  rintro ⟨k,a⟩ hs t m hk hh
  have hkl:=hk.le
  have hka:=hk.at_
  simp only at hkl hka
  by_cases hc : k <= ps.length /\ 0 <= a
  ·obtain ⟨hc1,hc2⟩:=hc
   obtain ⟨A,rfl⟩ : ∃ A : Nat,a = (A : Int):=⟨a.toNat,by omega⟩
   have hA : A < ps.length:=by omega
   have hwk:=wr1 (i:=k) (by omega)
   cases h3 : inR ps[A] (-1) (ps.length - 1)
   ·have hb:=hbad (hk.bad hc1 hc2 (eJ hA) h3)
    simp [hc1,hA,hw1]
    refine ag (VC.to (aN ps[A] (-1) (ps.length - 1)) (show _ = V.d (.bool false) by rw [h3])) (by simp) rfl fun hs3 hh3=>?_
    simp [hb]
   ·refine anyQ fun Q=>?_
    simp [hc1,hA,hw1]
    refine ag (VC.to (aN ps[A] (-1) (ps.length - 1)) (show _ = V.d (.bool true) by rw [h3])) (by simp) rfl fun hs3 hh3=>?_
    simp at hh3
    simp [hwk]
    exact back (k + 1,ps[A]) (hk.step hc1 hc2 (eJ hA) h3) (by simp only; omega) rfl (by simp <;> omega) (by simp) (by simp)
  have hfin:=hk.fin hc
  by_cases ha : a < 0
  ·have hok : cU ps i = true:=by rw [hend,hfin]; simpa using ha
   have ha' : ¬ 0 <= a:=by omega
   by_cases hk2 : k <= ps.length
   ·simp [hk2,ha,ha',hwi]
    exact back (i + 1) (hi.step hlt hok) (by omega) rfl (by simp <;> omega) (by simp [hR]) (by simp)
   ·simp [hk2,ha,ha',hwi]
    exact back (i + 1) (hi.step hlt hok) (by omega) rfl (by simp <;> omega) (by simp [hR]) (by simp)
  ·have hb:=hbad (by rw [hend,hfin]; simpa using ha)
   have hk2 : ¬ k <= ps.length:=fun h=>hc ⟨h,by omega⟩
   simp [hk2,show 0 <= a by omega,hb]
theorem fV (ps : List Int) : VC Tryz.prog 39 [.agg [.d (pS cI ps)]] (fun _ r=>r = .d (.int .i64 (dM ps))):=by
 refine VC.ofL EP sZ Tryz.func39 fun B hl=>?_
 simp [pS,maxLen] at hl
 simp [Tryz.f39]
 refine ae (X:=Nat × Int) (ie ps) (fun p=>[(1,.ptr 1 0 0),(3,.d (.int .i64 p.2)),(4,.d (.int .i64 p.1))]) (fun _=>[(1,some (.box [.d (.pl (ps.map cI))]))]) (fun p=>ps.length - p.1) (0,-1) .zero (by simp) (by simp) ?_
 rintro ⟨i,o⟩ hs t m hI hh
 have hle:=hI.le
 simp only at hle
 by_cases hlt : i < ps.length
 ·have hwi:=wr1 (i:=i) (by omega)
  by_cases h1 : ps[i] = -1
  ·by_cases h2 : 0 <= o
   ·simp [hlt,h1,h2,hI.two h2 hlt h1]
   ·simp [hlt,h1,h2,hwi]
    exact back (i + 1,(i : Int)) (hI.put (by omega) hlt h1) (by simp only; omega) rfl (by simp <;> omega) (by simp) (by simp)
  ·simp [hlt,h1,hwi]
   exact back (i + 1,o) (hI.skip hlt h1) (by simp only; omega) rfl (by simp <;> omega) (by simp) (by simp)
 ·simp [hlt,hI.done (by omega)]
theorem ql (ps : List Int) (k0 : Int) (hb : ps.length <= 4294967296) : VC Tryz.prog 40 [.agg [.d (pS cI ps)],.d (.int .i64 k0)] (fun _ r=>r = .d (pS cI (bo ps (ps.length + 1) k0))):=by
 refine VC.ofL EP sZ Tryz.func40 fun B hl=>?_
 have hw1 : IntKind.i64.wrap ((ps.length : Int) - 1) = ps.length - 1:=aj (by omega) (by omega)
 simp [Tryz.f40]
 refine ae (X:=Int × List Int) (nK ps k0) (fun p=>[(1,.d (.int .i64 p.1)),(2,.ptr 2 0 0),(5,.own 6 0 p.2.length)]) (fun p=>[(2,some (.box [.d (.pl (ps.map cI))])),(6,some (.row 3 1 (p.2.map cI)))]) (fun p=>ps.length + 1 - p.2.length) (k0,[]) .zero (by simp) (by simp) ?_
 rintro ⟨k,o⟩ hs t m hI hh
 have hle:=hI.le
 simp only at hle
 simp [hw1]
 refine ag (bB k 0 (ps.length - 1)) (by simp) rfl fun hs3 hh3=>?_
 simp at hh3
 cases h1 : inR k 0 (ps.length - 1)
 ·have hd:=hI.done (by simp [h1])
  simp [hd,Jj]
 by_cases h2 : o.length <= ps.length
 ·have h1':=h1
  simp only [inR,Jq,Xj] at h1'
  have hst:=hI.step h1 h2
  obtain ⟨K,rfl⟩ : ∃ K : Nat,k = (K : Int):=⟨k.toNat,by omega⟩
  have hK : K < ps.length:=by omega
  rw [eJ hK] at hst
  have hL : LenOk 8 (o.length + 1):=⟨by omega,by simp only [maxLen]; omega⟩
  simp [h2,hK,hL]
  exact back (ps[K],o ++ [(K : Int)]) hst (by simp; omega) rfl (by simp <;> omega) (by simp) (by simp)
 ·have hd:=hI.done (by simp [h2])
  simp [h2,hd,Jj]
theorem qA (bags : List (List Int)) (ps : List Int) (v : Int) (hl2 : bags.length = ps.length) (hp : ∀ i (h : i < ps.length),-1 <= ps[i] /\ ps[i] < ps.length) : VC Tryz.prog 72 [.d (pS (cP cI) bags),.d (pS cI ps),.d (.int .i64 v)] (fun _ r=>r = .d (.int .i64 (topN bags ps v bags.length))):=by
 refine VC.ofL EP sZ Tryz.func72 fun B hl=>?_
 simp [pS,maxLen] at hl
 simp [Tryz.f72]
 refine ae (X:=Nat) (fun i=>i <= bags.length) (fun i=>[(0,.d (.pl (bags.map (cP cI)))),(1,.d (.pl (ps.map cI))),(2,.d (.int .i64 v)),(7,.d (.int .i64 (topN bags ps v i))),(10,.d (.pl (bags.map (cP cI)))),(11,.d (.int .i64 bags.length)),(12,.d (.int .i64 i))]) (fun _=>[]) (fun i=>bags.length - i) 0 (by simp) (by simp [topN]) (by simp) ?_
 intro i hs t m hi hh
 by_cases hlt : i < bags.length
 ·have hwi:=wr1 (i:=i) (by omega)
  have hlp : i < ps.length:=by omega
  have hst:=rJ bags ps v i
  have htl:=yF bags ps v i
  have hwt : IntKind.i64.wrap ((topN bags ps v i : Int) + 1) = topN bags ps v i + 1:=aj (by omega) (by omega)
  have hpi:=hp i hlp
  simp [hlt]
  refine ag (dX bags[i] v) (by simp) rfl fun hs3 hh3=>?_
  simp at hh3
  by_cases h1 : v ∈ bags[i]
  case neg=>
   have e : bR bags ps v i = false:=by rw [bR,ak _ hlt]; simp [h1]
   rw [e] at hst
   simp only [Zv,if_false,Nat.add_zero] at hst
   simp [h1,hwi]
   exact back (i + 1) (by omega) (by omega) rfl (by simp <;> omega) (by simp [hst]) (by simp)
  by_cases h2 : ps[i] < 0
  ·have e : bR bags ps v i = true:=by rw [bR,ak _ hlt,ak _ hlp]; simp [h1,h2]
   rw [e] at hst
   simp only [if_true] at hst
   simp [h1,h2,hlp,hwi,hwt]
   exact back (i + 1) (by omega) (by omega) rfl (by simp <;> omega) (by simp [hst]) (by simp)
  obtain ⟨A,hA⟩ : ∃ A : Nat,ps[i] = (A : Int):=⟨ps[i].toNat,by omega⟩
  have hAl : A < bags.length:=by omega
  have h2' : ¬ (A : Int) < 0:=by omega
  simp [h1,hA,hAl,hlp]
  refine ag (dX bags[A] v) (by simp) rfl fun hs4 hh4=>?_
  simp at hh4
  by_cases h3 : v ∈ bags[A]
  ·have e : bR bags ps v i = false:=by rw [bR,ak _ hlt,ak _ hlp,hA,Int.toNat_natCast,ak _ hAl]; simp [h1,h3]
   rw [e] at hst
   simp only [Zv,if_false,Nat.add_zero] at hst
   simp [h3,h2',hwi]
   exact back (i + 1) (by omega) (by omega) rfl (by simp <;> omega) (by simp [hst]) (by simp)
  ·have e : bR bags ps v i = true:=by rw [bR,ak _ hlt,ak _ hlp,hA,Int.toNat_natCast,ak _ hAl]; simp [h1,h3]
   rw [e] at hst
   simp only [if_true] at hst
   simp [h3,h2',hwi,hwt]
   exact back (i + 1) (by omega) (by omega) rfl (by simp <;> omega) (by simp [hst]) (by simp)
 ·have hn : i = bags.length:=by omega
  subst hn
  simp
end
end
section
open Go.Vs Go.Proofs Go
set_option maxRecDepth 100000
set_option maxHeartbeats 1000000
section
attribute [local simp] aR aC ax ay pS cP cI cStr cU8 cB
theorem gh (q : ab) (d : PDec) (hb : d.par.length <= 4294967296) : VC Tryz.prog 27 [.agg ((au q).map V.d),.agg ((eDec d).map V.d)] (fun _ r=>r = .d (.bool (bH q d))):=by
 refine VC.ofL EP s27 Tryz.func27 fun B hl=>?_
 obtain ⟨bags,ps⟩:=d
 simp only at hb
 simp [Tryz.f27,au,eDec]
 refine ag (dO q) (by simp [au]) rfl fun hs1 hh1=>?_
 simp at hh1
 cases h1 : aw q
 ·simp [xw (d:=⟨bags,ps⟩) h1]
 have hn:=bq h1
 by_cases h2 : bags.length = ps.length
 case neg=>simp [h2,xv (q:=q) (d:=⟨bags,ps⟩) h2]
 simp [h2]
 refine ag (qx ps hb) (by simp) rfl fun hs2 hh2=>?_
 simp at hh2
 cases h3 : eW ps
 ·simp [sh (q:=q) (d:=⟨bags,ps⟩) h3]
 have hpar:=u4 h3
 simp [h2]
 refine ae (X:=Nat) (ToI (bagI q.n) bags) (fun i=>[(2,.ptr 2 0 0),(5,.ptr 5 0 0),(34,.d (.pl (bags.map (cP cI)))),(35,.d (.int .i64 ps.length)),(36,.d (.int .i64 i))])
  (fun _=>[(2,some (.box [.d (.int .i64 q.n),.d (.pl (q.atoms.map aB)),.d (.pl (q.out.map cI))])),(5,some (.box [.d (.pl (bags.map (cP cI))),.d (.pl (ps.map cI))]))]) (fun i=>bags.length - i) 0 .zero (by simp [aB]) (by simp) ?_
 intro i hs t m hi hh
 have hle:=hi.le
 by_cases hlt : i < bags.length
 ·have hltp : i < ps.length:=by omega
  have hwi:=wr1 (i:=i) (by omega)
  simp [hlt,hltp]
  refine ag (mR q bags[i]) (by simp [au]) rfl fun hs3 hh3=>?_
  simp at hh3
  cases h4 : bagI q.n bags[i]
  ·simp [xu (q:=q) (d:=⟨bags,ps⟩) hlt h4]
  simp [hwi]
  exact back (i + 1) (hi.step hlt h4) (by omega) rfl (by simp <;> omega) (by simp) (by simp)
 have hbags:=hi.done (by omega)
 have hlp : ¬ i < ps.length:=by omega
 simp [hlt,hlp]
 refine ae (X:=Nat) (ToI (gE bags) q.atoms) (fun i=>[(2,.ptr 2 0 0),(5,.ptr 5 0 0),(46,.d (.pl (q.atoms.map aB))),(47,.d (.int .i64 q.atoms.length)),(48,.d (.int .i64 i))])
  (fun _=>[(2,some (.box [.d (.int .i64 q.n),.d (.pl (q.atoms.map aB)),.d (.pl (q.out.map cI))])),(5,some (.box [.d (.pl (bags.map (cP cI))),.d (.pl (ps.map cI))]))]) (fun i=>q.atoms.length - i) 0 .zero (by simp) (by simp) ?_
 intro i hs t m hi hh
 have hle:=hi.le
 have hat4 : q.atoms.length <= 4:=by
  cases h2 : inR (q.atoms.length : Int) 1 4
  ·rw [kI h2] at h1; cases h1
  ·simp only [inR,Jq,Xj] at h2; omega
 by_cases hlt : i < q.atoms.length
 ·have hwi:=wr1 (i:=i) (by omega)
  obtain ⟨nm,vs,hT⟩ : ∃ nm vs,q.atoms[i] = ⟨nm,vs⟩:=⟨_,_,rfl⟩
  have hav : (nN ⟨nm,vs⟩).length <= 5:=tp ⟨nm,vs⟩ 5
  have hall : ig (inAB ⟨nm,vs⟩) bags bags.length = gE bags q.atoms[i]:=by rw [qH (Jv _),hT]; rfl
  simp [hlt,hT,aB]
  refine ae (X:=Nat) (fun j=>j <= bags.length) (fun j=>[(2,.ptr 2 0 0),(5,.ptr 5 0 0),(9,.ptr 9 0 0),(10,.d (.bool (ig (inAB ⟨nm,vs⟩) bags j))),(46,.d (.pl (q.atoms.map aB))),(47,.d (.int .i64 q.atoms.length)),(48,.d (.int .i64 i)),(53,.d (.pl (bags.map (cP cI)))),(54,.d (.int .i64 bags.length)),(55,.d (.int .i64 j))])
   (fun _=>[(2,some (.box [.d (.int .i64 q.n),.d (.pl (q.atoms.map aB)),.d (.pl (q.out.map cI))])),(5,some (.box [.d (.pl (bags.map (cP cI))),.d (.pl (ps.map cI))])),(9,some (.box [.d (.str nm),.d (.pl (vs.map cI))]))]) (fun j=>bags.length - j) 0 (by simp) (by simp [oM]) (by simp) ?_
  intro j hs t m hj hh
  by_cases hjt : j < bags.length
  ·have hwj:=wr1 (i:=j) (by omega)
   have hst:=oL (f:=inAB ⟨nm,vs⟩) hjt
   refine anyQ fun Q=>?_
   cases h6 : ig (inAB ⟨nm,vs⟩) bags j
   ·rw [h6,Bool.false_or] at hst
    simp [hjt]
    refine aF (fM ⟨nm,vs⟩) (by simp [aB]) fun hs5 hh5 hl5=>?_
    simp at hh5
    simp
    refine aF (iG (nN ⟨nm,vs⟩) bags[j] (by omega)) (by simp) fun hs6 hh6 hl6=>?_
    simp at hh6
    simp
    refine aF (fM ⟨nm,vs⟩) (by simp [aB]) fun hs7 hh7 hl7=>?_
    simp at hh7
    by_cases h7 : (fA (nN ⟨nm,vs⟩) bags[j]).length = (nN ⟨nm,vs⟩).length
    ·have e : inAB ⟨nm,vs⟩ bags[j] = true:=by rw [inAB,decide_eq_true h7]
     rw [e] at hst
     simp [h7,hwj]
     exact back (j + 1) (by omega) (by omega) rfl (by simp <;> omega) (by simp [hst]) (by simp)
    ·have e : inAB ⟨nm,vs⟩ bags[j] = false:=by rw [inAB,decide_eq_false h7]
     rw [e] at hst
     simp [h7,hwj]
     exact back (j + 1) (by omega) (by omega) rfl (by simp <;> omega) (by simp [hst]) (by simp)
   ·rw [h6,Bool.true_or] at hst
    simp [hjt,hwj]
    exact back (j + 1) (by omega) (by omega) rfl (by simp <;> omega) (by simp [hst]) (by simp)
  ·have hjn : j = bags.length:=by omega
   subst hjn
   cases h7 : gE bags q.atoms[i]
   ·rw [h7] at hall
    simp [hall,xt (q:=q) (d:=⟨bags,ps⟩) hlt h7]
   ·rw [h7] at hall
    simp [hall,hwi]
    exact back (i + 1) (hi.step hlt h7) (by omega) rfl (by simp <;> omega) (by simp) (by simp)
 have hats:=hi.done (by omega)
 simp [hlt]
 refine ae (X:=Nat) (VarI ⟨bags,ps⟩ q.n.toNat) (fun v=>[(2,.ptr 2 0 0),(5,.ptr 5 0 0),(13,.d (.int .i64 v))]) (fun _=>[(2,some (.box [.d (.int .i64 q.n),.d (.pl (q.atoms.map aB)),.d (.pl (q.out.map cI))])),(5,some (.box [.d (.pl (bags.map (cP cI))),.d (.pl (ps.map cI))]))]) (fun v=>q.n.toNat - v) 0 .zero (by simp) (by simp) ?_
 intro v hs t m hv hh
 have hvn:=hv.le
 by_cases hvt : v < q.n.toNat
 ·have hwv:=wr1 (i:=v) (by omega)
  have hvt' : (v : Int) < q.n:=by omega
  simp [hvt']
  refine ag (qA bags ps v h2 hpar) (by simp) rfl fun hs5 hh5=>?_
  simp at hh5
  by_cases h7 : topN bags ps (v : Int) bags.length = 1
  ·simp [h7,hwv]
   exact back (v + 1) (hv.step hvt h7) (by omega) rfl (by simp <;> omega) (by simp) (by simp)
  ·have h7' : ¬ (topN bags ps (v : Int) bags.length : Int) = 1:=by omega
   simp [h7',h7,xx (q:=q) (d:=⟨bags,ps⟩) hvt h7]
 ·have hvs:=hv.done (by omega)
  have hvt' : ¬ (v : Int) < q.n:=by omega
  simp [hvt',qQ (q:=q) (d:=⟨bags,ps⟩) h1 h2 h3 hbags hats hvs]
theorem gi (q : ab) (d : PDec) (hst : ∀ a ∈ q.atoms,a.rel.length <= maxLen) (hb : d.par.length <= 4294967296) : VC Tryz.prog 11 [.agg ((au q).map V.d),.agg ((eDec d).map V.d)] (fun _ r=>r = .d (.bool (bH q d))):=by
 refine VC.ofL EP s11 Tryz.func11 fun B hl=>?_
 obtain ⟨bags,ps⟩:=d
 simp only at hb
 simp [Tryz.f11,au,eDec]
 refine ag (bf q hst) (by simp [au]) rfl fun hs1 hh1=>?_
 simp at hh1
 cases h1 : aw q
 ·simp [xw (d:=⟨bags,ps⟩) h1]
 have hn:=bq h1
 by_cases h2 : bags.length = ps.length
 case neg=>simp [show ¬ ps.length = bags.length from fun h=>h2 h.symm,xv (q:=q) (d:=⟨bags,ps⟩) h2]
 have h2' : ps.length = bags.length:=h2.symm
 simp [h2']
 refine ag (fV ps) (by simp) rfl fun hs2 hh2=>?_
 simp at hh2
 by_cases h3 : dM ps < 0
 ·simp [h3,Ef (q:=q) (d:=⟨bags,ps⟩) h3]
 simp [h3]
 refine ae (X:=Nat) (PlI q ⟨bags,ps⟩) (fun i=>[(2,.ptr 2 0 0),(3,.ptr 3 0 0),(5,.ptr 5 0 0),(6,.d (.int .i64 i))]) (fun _=>[(2,some (.box [.d (.int .i64 q.n),.d (.pl (q.atoms.map aB)),.d (.pl (q.out.map cI))])),(3,some (.box [.d (.pl (bags.map (cP cI))),.d (.pl (ps.map cI))])),(5,some (.box [.d (.pl (ps.map cI))]))]) (fun i=>bags.length - i) 0 .zero (by simp) (by simp) ?_
 intro i hs t m hi hh
 have hle : i <= bags.length:=hi.le
 by_cases hlt : i < bags.length
 ·have hltp : i < ps.length:=by omega
  have hwi:=wr1 (i:=i) (by omega)
  have hbad : eM q ⟨bags,ps⟩ i = false -> bH q ⟨bags,ps⟩ = false:=Ee (d:=⟨bags,ps⟩) h2 hlt
  have hpo : eM q ⟨bags,ps⟩ i = (bagS q.n bags[i] && jo ps i):=by rw [eM]; simp only; rw [ak _ hlt]
  obtain ⟨P,hP⟩ : ∃ P,P = bo ps (ps.length + 1) i:=⟨_,rfl⟩
  have hPl : 0 < P.length:=by rw [hP]; exact ER hltp
  have hPo : jo ps i = (decide (P.length <= ps.length) && decide (gM P = dM ps)):=by rw [jo,<- hP]
  have hPle : P.length <= ps.length + 1:=by
   have hx : ∀ (m : Nat) (k : Int),(bo ps m k).length <= m:=fun m=>by
    induction m with
    | zero=>intro k; simp [bo]
    | succ m ih =>
      intro k
      by_cases hc : inR k 0 (ps.length - 1) = true
      ·rw [cA hc]; have:=ih (nxP ps k); simp; omega
      ·rw [cQ hc]; simp
   rw [hP]; exact hx _ _
  simp [hlt]
  refine aF (ql ps i hb) (by simp) fun hs3 hh3 hl3=>?_
  simp at hh3
  rw [<- hP]
  simp [hlt]
  refine ag (qB q bags[i]) (by simp [au]) rfl fun hs4 hh4=>?_
  simp at hh4
  cases h4 : bagS q.n bags[i]
  ·simp [hbad (by rw [hpo,h4,Zh])]
  by_cases h5 : ps.length < P.length
  ·have h5' : ¬ P.length <= ps.length:=by omega
   simp [h5,<- h2',hbad (by rw [hpo,hPo,decide_eq_false h5']; simp)]
  have h5' : P.length <= ps.length:=by omega
  have hwl : IntKind.i64.wrap ((P.length : Int) - 1) = ((P.length - 1 : Nat) : Int):=by rw [aj (by omega) (by omega)]; omega
  have hll : P.length - 1 < P.length:=by omega
  have hla : gM P = P[P.length - 1]:=by rw [gM,ak _ hll]
  simp [h5,<- h2',hwl,hll]
  refine ag (fV ps) (by simp) rfl fun hs5 hh5=>?_
  simp at hh5
  by_cases h6 : P[P.length - 1] = dM ps
  ·have hok : eM q ⟨bags,ps⟩ i = true:=by rw [hpo,hPo,h4,decide_eq_true h5',hla,decide_eq_true h6]; rfl
   simp [h6,hwi]
   exact back (i + 1) (hi.step hlt hok) (by omega) rfl (by simp <;> omega) (by simp) (by simp)
  ·simp [h6,hbad (by rw [hpo,hPo,hla,decide_eq_false h6]; simp)]
 obtain ⟨h3t,hbags⟩:=places (q:=q) (d:=⟨bags,ps⟩) h2 (by show 0 <= dM ps; omega) (hi.done (by show bags.length <= i; omega))
 simp only at h3t hbags
 have hpar:=u4 h3t
 simp [hlt]
 refine ae (X:=Nat) (ToI (gE bags) q.atoms) (fun i=>[(2,.ptr 2 0 0),(3,.ptr 3 0 0),(5,.ptr 5 0 0),(8,.d (.int .i64 i))]) (fun _=>[(2,some (.box [.d (.int .i64 q.n),.d (.pl (q.atoms.map aB)),.d (.pl (q.out.map cI))])),(3,some (.box [.d (.pl (bags.map (cP cI))),.d (.pl (ps.map cI))])),(5,some (.box [.d (.pl (ps.map cI))]))]) (fun i=>q.atoms.length - i) 0 .zero (by simp) (by simp) ?_
 intro i hs t m hi hh
 have hle:=hi.le
 have hat4 : q.atoms.length <= 4:=by
  cases h2 : inR (q.atoms.length : Int) 1 4
  ·rw [kI h2] at h1; cases h1
  ·simp only [inR,Jq,Xj] at h2; omega
 by_cases hlt : i < q.atoms.length
 ·have hwi:=wr1 (i:=i) (by omega)
  obtain ⟨nm,vs,hT⟩ : ∃ nm vs,q.atoms[i] = ⟨nm,vs⟩:=⟨_,_,rfl⟩
  have hall : ig (insD ⟨nm,vs⟩) bags bags.length = gE bags q.atoms[i]:=by
   rw [qH (Jv _),<- DZ h1 (Jy hlt),hT]
  simp [hlt]
  refine ae (X:=Nat) (fun j=>j <= bags.length) (fun j=>[(2,.ptr 2 0 0),(3,.ptr 3 0 0),(5,.ptr 5 0 0),(8,.d (.int .i64 i)),(9,.d (.bool (ig (insD ⟨nm,vs⟩) bags j))),(10,.d (.int .i64 j))]) (fun _=>[(2,some (.box [.d (.int .i64 q.n),.d (.pl (q.atoms.map aB)),.d (.pl (q.out.map cI))])),(3,some (.box [.d (.pl (bags.map (cP cI))),.d (.pl (ps.map cI))])),(5,some (.box [.d (.pl (ps.map cI))]))]) (fun j=>bags.length - j) 0 (by simp) (by simp [oM]) (by simp) ?_
  intro j hs t m hj hh
  by_cases hjt : j < bags.length
  ·have hwj:=wr1 (i:=j) (by omega)
   have hst:=oL (f:=insD ⟨nm,vs⟩) hjt
   refine anyQ fun Q=>?_
   cases h6 : ig (insD ⟨nm,vs⟩) bags j
   ·rw [h6,Bool.false_or] at hst
    simp [hjt,hlt,hT,aB]
    refine ag (nF ⟨nm,vs⟩ bags[j]) (by simp [aB]) rfl fun hs5 hh5=>?_
    simp at hh5
    simp [hwj]
    exact back (j + 1) (by omega) (by omega) rfl (by simp <;> omega) (by simp [hst]) (by simp)
   ·rw [h6,Bool.true_or] at hst
    simp [hjt,hwj]
    exact back (j + 1) (by omega) (by omega) rfl (by simp <;> omega) (by simp [hst]) (by simp)
  ·have hjn : j = bags.length:=by omega
   subst hjn
   cases h7 : gE bags q.atoms[i]
   ·rw [h7] at hall
    simp [hall,xt (q:=q) (d:=⟨bags,ps⟩) hlt h7]
   ·rw [h7] at hall
    simp [hall,hwi]
    exact back (i + 1) (hi.step hlt h7) (by omega) rfl (by simp <;> omega) (by simp) (by simp)
 have hats:=hi.done (by omega)
 simp [hlt]
 refine ae (X:=Nat) (VarI ⟨bags,ps⟩ q.n.toNat) (fun v=>[(2,.ptr 2 0 0),(3,.ptr 3 0 0),(5,.ptr 5 0 0),(11,.d (.int .i64 v))]) (fun _=>[(2,some (.box [.d (.int .i64 q.n),.d (.pl (q.atoms.map aB)),.d (.pl (q.out.map cI))])),(3,some (.box [.d (.pl (bags.map (cP cI))),.d (.pl (ps.map cI))])),(5,some (.box [.d (.pl (ps.map cI))]))]) (fun v=>q.n.toNat - v) 0 .zero (by simp) (by simp) ?_
 intro v hs t m hv hh
 have hvn:=hv.le
 by_cases hvt : v < q.n.toNat
 case neg=>
  have hvs:=hv.done (by omega)
  have hvt' : ¬ (v : Int) < q.n:=by omega
  simp [hvt',qQ (q:=q) (d:=⟨bags,ps⟩) h1 h2 h3t hbags hats hvs]
 have hwv:=wr1 (i:=v) (by omega)
 have hvt' : (v : Int) < q.n:=by omega
 simp [hvt']
 refine ae (X:=Nat) (fun j=>j <= bags.length) (fun j=>[(2,.ptr 2 0 0),(3,.ptr 3 0 0),(5,.ptr 5 0 0),(11,.d (.int .i64 v)),(12,.d (.int .i64 (topN bags ps v j))),(13,.d (.int .i64 j))]) (fun _=>[(2,some (.box [.d (.int .i64 q.n),.d (.pl (q.atoms.map aB)),.d (.pl (q.out.map cI))])),(3,some (.box [.d (.pl (bags.map (cP cI))),.d (.pl (ps.map cI))])),(5,some (.box [.d (.pl (ps.map cI))]))]) (fun j=>bags.length - j) 0 (by simp) (by simp [topN]) (by simp) ?_
 intro j hs t m hj hh
 by_cases hjt : j < bags.length
 ·have hwj:=wr1 (i:=j) (by omega)
  have hlp : j < ps.length:=by omega
  have hst:=rJ bags ps v j
  have htl:=yF bags ps v j
  have hwt : IntKind.i64.wrap ((topN bags ps v j : Int) + 1) = topN bags ps v j + 1:=aj (by omega) (by omega)
  have hpi:=hpar j hlp
  have hg1:=eH bags[j] (v : Int)
  refine anyQ fun Q=>?_
  simp [hjt]
  refine ag (cb bags[j] v) (by simp) rfl fun hs3 hh3=>?_
  simp at hh3
  by_cases g1 : (v : Int) ∈ bags[j]
  case neg=>
   have e : bR bags ps v j = false:=by rw [bR,ak _ hjt]; simp [g1]
   rw [e] at hst
   simp only [Zv,if_false,Nat.add_zero] at hst
   have g2 : ¬ 0 <= idxL bags[j] (v : Int):=by simpa [g1] using hg1
   simp [g2,hwj]
   exact back (j + 1) (by omega) (by omega) rfl (by simp <;> omega) (by simp [hst]) (by simp)
  have g2 : 0 <= idxL bags[j] (v : Int):=by simpa [g1] using hg1
  by_cases g3 : ps[j] = -1
  ·have e : bR bags ps v j = true:=by rw [bR,ak _ hjt,ak _ hlp]; simp [g1,g3]
   rw [e] at hst
   simp only [if_true] at hst
   simp [g2,g3,hlp,hwj,hwt]
   exact back (j + 1) (by omega) (by omega) rfl (by simp <;> omega) (by simp [hst]) (by simp)
  obtain ⟨A,hA⟩ : ∃ A : Nat,ps[j] = (A : Int):=⟨ps[j].toNat,by omega⟩
  have hAl : A < bags.length:=by omega
  have hA1 : ¬ (A : Int) = -1:=by omega
  have hA2 : ¬ (A : Int) < 0:=by omega
  have hg4:=eH bags[A] (v : Int)
  simp [g2,hA,hA1,hAl,hlp,hjt]
  refine ag (cb bags[A] v) (by simp) rfl fun hs4 hh4=>?_
  simp at hh4
  by_cases g4 : (v : Int) ∈ bags[A]
  ·have e : bR bags ps v j = false:=by rw [bR,ak _ hjt,ak _ hlp,hA,Int.toNat_natCast,ak _ hAl]; simp [g1,g4]
   rw [e] at hst
   simp only [Zv,if_false,Nat.add_zero] at hst
   have g5 : ¬ idxL bags[A] (v : Int) < 0 := by have : 0 ≤ idxL bags[A] (v : Int) := by simpa [g4] using hg4
                                                omega
   simp [g5,hA1,hwj]
   exact back (j + 1) (by omega) (by omega) rfl (by simp <;> omega) (by simp [hst]) (by simp)
  ·have e : bR bags ps v j = true:=by rw [bR,ak _ hjt,ak _ hlp,hA,Int.toNat_natCast,ak _ hAl]; simp [g1,g4]
   rw [e] at hst
   simp only [if_true] at hst
   have g5 : idxL bags[A] (v : Int) < 0 := by have : ¬ 0 ≤ idxL bags[A] (v : Int) := by simpa [g4] using hg4
                                              omega
   simp [g5,hA1,hwj,hwt]
   exact back (j + 1) (by omega) (by omega) rfl (by simp <;> omega) (by simp [hst]) (by simp)
 ·have hjn : j = bags.length:=by omega
  subst hjn
  by_cases h7 : topN bags ps (v : Int) bags.length = 1
  ·simp [h7,hwv]
   exact back (v + 1) (hv.step hvt h7) (by omega) rfl (by simp <;> omega) (by simp) (by simp)
  ·have h7' : ¬ (topN bags ps (v : Int) bags.length : Int) = 1:=by omega
   simp [h7',h7,xx (q:=q) (d:=⟨bags,ps⟩) hvt h7]
end
end
section
open Go.Vs Go.Proofs Go
set_option maxRecDepth 100000
set_option maxHeartbeats 1000000
def cW (n : Int) : List D:=[.int .u8 n]
def curD (b : Sl Int) (c : Nat × Int) : List D:=[dSl cW b,.int .i64 c.1,.int .i64 c.2]
def curO (b : Sl Int) (c : Nat × Int) : Prop:=c.1 <= b.xs.length
def andZ (k : IntKind) (a b : Int) : Int:=k.wrap (BitVec.ofInt k.bits a &&& BitVec.ofInt k.bits b).toNat
def xorZ (k : IntKind) (a b : Int) : Int:=k.wrap (BitVec.ofInt k.bits a ^^^ BitVec.ofInt k.bits b).toNat
def shrZ (k : IntKind) (a b : Int) : Int:=a.fdiv (2 ^ (min b.toNat k.bits))
theorem G8 (k k' : IntKind) (a b : Int) : binD .add (.d (.int k a)) (.d (.int k' b)) = .int k (k.wrap (a + b)):=id rfl
theorem Hh (k k' : IntKind) (a b : Int) : binD .sub (.d (.int k a)) (.d (.int k' b)) = .int k (k.wrap (a - b)):=id rfl
theorem He (k k' : IntKind) (a b : Int) : binD .mul (.d (.int k a)) (.d (.int k' b)) = .int k (k.wrap (a * b)):=id rfl
theorem Hf (k k' : IntKind) (a b : Int) : binD .rem (.d (.int k a)) (.d (.int k' b)) = .int k (a.tmod b):=id rfl
theorem G9 (k k' : IntKind) (a b : Int) : binD .and (.d (.int k a)) (.d (.int k' b)) = .int k (andZ k a b):=id rfl
theorem Hi (k k' : IntKind) (a b : Int) : binD .xor (.d (.int k a)) (.d (.int k' b)) = .int k (xorZ k a b):=id rfl
theorem Hg (k k' : IntKind) (a b : Int) : binD .shr (.d (.int k a)) (.d (.int k' b)) = .int k (shrZ k a b):=id rfl
theorem Hd (k k' : IntKind) (a b : Int) : binD .lss (.d (.int k a)) (.d (.int k' b)) = .bool (decide (a < b)):=id rfl
theorem Hc (k k' : IntKind) (a b : Int) : binD .leq (.d (.int k a)) (.d (.int k' b)) = .bool (decide (a <= b)):=id rfl
theorem Hb (k k' : IntKind) (a b : Int) : binD .gtr (.d (.int k a)) (.d (.int k' b)) = .bool (decide (b < a)):=id rfl
theorem Ha (k k' : IntKind) (a b : Int) : binD .eql (.d (.int k a)) (.d (.int k' b)) = .bool (a == b):=id rfl
theorem Av (a : Int) : 0 <= andZ .i64 a 255 /\ andZ .i64 a 255 < 256:=by
 have h : (BitVec.ofInt 64 a &&& BitVec.ofInt 64 255).toNat <= 255:=by
  rw [BitVec.toNat_and]
  exact Nat.and_le_right
 have e : andZ .i64 a 255 = ((BitVec.ofInt 64 a &&& BitVec.ofInt 64 255).toNat : Int):=by
  show IntKind.i64.wrap ((BitVec.ofInt 64 a &&& BitVec.ofInt 64 255).toNat : Int) = _
  exact aj (by omega) (by omega)
 rw [e]; omega
theorem Es {P : Program} {E : Md} {ops : Array Oper} {tr : Tr} {K : St -> Prop} {B hs : Nat} {W : List Nat} {t0 : Nat -> V} {m0 : Nat -> Option Blk} (S : List (Nat × V)) (M : List (Nat × Option Blk))
  (hS : ∀ p ∈ S,t0 p.1 = p.2) (hM : ∀ p ∈ M,m0 p.1 = p.2) (h : ∀ t m,vtr P E ops K tr ⟨B,hs,W,updL t S,updL m M⟩) : vtr P E ops K tr ⟨B,hs,W,t0,m0⟩:=by
 have:=h t0 m0
 rwa [bL hS,bL hM] at this
theorem kD {G : St -> Prop} {B hs : Nat} {W : List Nat} {t0 : Nat -> V} {m0 : Nat -> Option Blk} (S : List (Nat × V)) (M : List (Nat × Option Blk))
  (hS : ∀ p ∈ S,t0 p.1 = p.2) (hM : ∀ p ∈ M,m0 p.1 = p.2) (h : ∀ t m,G ⟨B,hs,W,updL t S,updL m M⟩) : G ⟨B,hs,W,t0,m0⟩:=by
 have:=h t0 m0
 rwa [bL hS,bL hM] at this
structure CurP (b : Sl Int) (q : V -> Prop) (r : V) (cs : List V) : Prop where
 ex : ∃ c',q r /\ cs = (curD b c').map V.d /\ curO b c'
def AJ (v : V) : Prop:=∃ x,v = .d (.int .i64 x) /\ 0 <= x /\ x < 256
def belQ (n : Int) (v : V) : Prop:=∃ x,v = .d (.int .i64 x) /\ 0 <= x /\ (0 < n -> x < n) /\ (n <= 0 -> x = 0)
def Ju (v : V) : Prop:=∃ x,v = .d (.bool x)
def inQ (l : List Int) (v : V) : Prop:=∃ x,v = .d (.int .i64 x) /\ x ∈ l
def strQ (l : List (List UInt8)) (v : V) : Prop:=∃ x,v = .d (.str x) /\ x ∈ l
theorem aW {P : Program} {E : Md} {args : List Operand} {f : FuncId} {rest As : List V} {k : Nat} {dst : Option Tmp} {K : St -> Prop} {σ : St} {b : Sl Int} {q : V -> Prop} (c : Nat × Int) (hE : E f = true)
  (hc : VX P f [] (.ptr 1000 0 0 :: As) (some ((curD b c).map V.d)) (fun _ r cs _=>CurP b q r cs)) (hvs : args.map σ.ev = .ptr k 0 0 :: rest) (hm : σ.m k = some (.box ((curD b c).map V.d)))
  (hr : rpL σ.m rest = some As) (hk : keysVL rest = [])
  (hK : ∀ r c' hs',σ.hs <= hs' -> q r -> r.ln -> curO b c' -> K ({ σ with hs:=hs',m:=upd σ.m k (some (.box ((curD b c').map V.d))) }.put dst r)) : b9 P E f args (.ptr k 0 0 :: rest) dst K σ:=by
 refine l4 hE hvs hm hr (by simp [curD,dSl]) hc fun r cs' ws n hs' h1 h2 h3 h4 h5=>?_
 obtain ⟨c',hq,rfl,ho⟩:=h3.ex
 have : keysVL rest ++ keysVL ((curD b c).map V.d) = []:=by rw [hk]; simp [curD]
 rw [this]
 exact hK r c' hs' (Zy h1 h2) hq h4 ho
theorem AK {b : Sl Int} {i : Nat} {H x : Int} (h : i + 1 <= b.xs.length) (hx : 0 <= x /\ x < 256) : CurP b AJ (.d (.int .i64 x)) [.d (.sl b.id b.T (b.xs.map cW)),.d (.int .i64 ((i : Int) + 1)),.d (.int .i64 H)]:=
 ⟨⟨(i + 1,H),⟨_,rfl,hx.1,hx.2⟩,by simp [curD,dSl],h⟩⟩
theorem yS {b : Sl Int} {i : Nat} {H x : Int} (h : i <= b.xs.length) (hx : 0 <= x /\ x < 256) : CurP b AJ (.d (.int .i64 x)) [.d (.sl b.id b.T (b.xs.map cW)),.d (.int .i64 (i : Int)),.d (.int .i64 H)]:=
 ⟨⟨(i,H),⟨_,rfl,hx.1,hx.2⟩,by simp [curD,dSl],h⟩⟩
section
attribute [local simp] pS dSl cP cI cW G8 Hh He Hf G9 Hi Hg Hd Hc Hb Ha bt vo
attribute [-simp] binD
theorem s8 (b : Sl Int) (hb : b.xs.length <= 1048576) : VN Tryz.prog 51 [.d (dSl cW b)] (fun _ ds=>∃ c,ds = curD b c /\ curO b c):=by
 refine VN.of EP sZ Tryz.func51 fun B=>?_
 simp [Tryz.f51]
 refine ae (X:=Nat × Int) (fun p=>p.1 <= b.xs.length) (fun p=>[(0,.d (.sl b.id b.T (b.xs.map cW))),(3,.d (.int .i64 p.2)),(4,.d (.int .i64 p.1))]) (fun _=>[]) (fun p=>b.xs.length - p.1) (0,IntKind.i64.wrap (10101 + b.xs.length)) (by simp) (by simp) (by simp) ?_
 rintro ⟨i,h⟩ hs t m hi hh
 simp only at hi
 by_cases hlt : i < b.xs.length
 ·have hwi:=wr1 (i:=i) (by omega)
  by_cases h4 : (i : Int) < 4000
  ·simp [hlt,h4,hwi]
   exact back (i + 1,_) (by simp only; omega) (by simp only; omega) rfl (by simp <;> omega) (by simp; rfl) (by simp)
  ·simp [hlt,h4]
   exact ⟨curD b (0,h),.inr (by simp [curD]),0,h,rfl,by simp [curO]⟩
 ·simp [hlt]
  exact ⟨curD b (0,h),.inr (by simp [curD]),0,h,rfl,by simp [curO]⟩
theorem dY (b : Sl Int) (c : Nat × Int) (hb : b.xs.length <= 1048576) (hc : curO b c) : VX Tryz.prog 124 [] [.ptr 1000 0 0] (some ((curD b c).map V.d)) (fun _ r cs _=>CurP b AJ r cs):=by
 refine VX.of EP s124 Tryz.func124 ?_ ?_ fun B hB=>?_
 ·simp
 ·rintro cs h
  cases h
  simp [curD]
 obtain ⟨i,h⟩:=c
 simp only [curO] at hc
 simp [Tryz.f124,curD]
 generalize IntKind.i64.wrap (IntKind.i64.wrap (h * 6364136223846793005) + 1442695040888963407) = h'
 simp [H0]
 generalize xorZ IntKind.i64 (shrZ IntKind.i64 h' 33) (shrZ IntKind.i64 h' 45) = x'
 have hy:=Av x'
 generalize andZ IntKind.i64 x' 255 = y at hy ⊢
 refine Es [(0,.ptr 1000 0 0),(3,.d (.int .i64 y))] [(1000,some (.box [.d (.sl b.id b.T (b.xs.map cW)),.d (.int .i64 i),.d (.int .i64 h')]))] (by simp) (by simp) fun t m=>?_
 by_cases hlt : i < b.xs.length
 ·have hwi:=wr1 (i:=i) (by omega)
  simp [C3,hlt]
  simp [-vw,H1,hlt,hwi]
  have hz:=Av (IntKind.i64.wrap (y + IntKind.i64.wrap b.xs[i]))
  generalize andZ IntKind.i64 (IntKind.i64.wrap (y + IntKind.i64.wrap b.xs[i])) 255 = z at hz ⊢
  refine kD [(0,.ptr 1000 0 0),(3,.d (.int .i64 z))] [(1000,some (.box [.d (.sl b.id b.T (b.xs.map cW)),.d (.int .i64 i),.d (.int .i64 h')]))] (by simp) (by simp) fun t m=>?_
  simp [hwi]
  exact .inr <| AK (b:=b) (by omega) hz
 ·simp [C3,hlt]
  exact .inr <| yS hc hy
theorem aD (b : Sl Int) (c : Nat × Int) (n : Int) (hb : b.xs.length <= 1048576) (hc : curO b c) (hn : n <= 1000000000) : VX Tryz.prog 89 [] [.ptr 1000 0 0,.d (.int .i64 n)] (some ((curD b c).map V.d)) (fun _ r cs _=>CurP b (belQ n) r cs):=by
 refine VX.of EP sZ Tryz.func89 ?_ ?_ fun B hB=>?_
 ·simp
 ·rintro cs h
  cases h
  simp [curD]
 by_cases h0 : n <= 0
 ·simp [Tryz.f89,curD,h0]
  exact .inr ⟨⟨c,⟨0,rfl,by omega,fun h=>absurd h (by omega),fun _=>rfl⟩,by simp [curD],hc⟩⟩
 have tm : ∀ x : Int,0 <= x -> 0 <= x.tmod n /\ x.tmod n < n:=fun x hx=>by
  rw [Int.tmod_eq_emod_of_nonneg hx]
  exact ⟨Int.emod_nonneg _ (by omega),Int.emod_lt_of_pos _ (by omega)⟩
 have hn0 : ¬ n = 0:=by omega
 by_cases h1 : n <= 256
 ·simp [Tryz.f89,curD,h0,h1]
  refine aW c E124 (dY b c hb hc) (by simp) (by simp [curD]) (by simp) (by simp) fun r1 c1 hs1 hh1 hq1 hl1 o1=>?_
  obtain ⟨x1,rfl,a1,b1⟩:=hq1
  simp [curD,hn0]
  exact .inr ⟨⟨c1,⟨_,rfl,(tm x1 a1).1,fun _=>(tm x1 a1).2,fun h=>absurd h h0⟩,by simp [curD],o1⟩⟩
 simp [Tryz.f89,curD,h0,h1]
 refine aW c E124 (dY b c hb hc) (by simp) (by simp [curD]) (by simp) (by simp) fun r1 c1 hs1 hh1 hq1 hl1 o1=>?_
 obtain ⟨x1,rfl,a1,b1⟩:=hq1
 simp [curD]
 refine aW c1 E124 (dY b c1 hb o1) (by simp) (by simp [curD]) (by simp) (by simp) fun r2 c2 hs2 hh2 hq2 hl2 o2=>?_
 obtain ⟨x2,rfl,a2,b2⟩:=hq2
 simp [curD]
 refine aW c2 E124 (dY b c2 hb o2) (by simp) (by simp [curD]) (by simp) (by simp) fun r3 c3 hs3 hh3 hq3 hl3 o3=>?_
 obtain ⟨x3,rfl,a3,b3⟩:=hq3
 simp [curD]
 refine aW c3 E124 (dY b c3 hb o3) (by simp) (by simp [curD]) (by simp) (by simp) fun r4 c4 hs4 hh4 hq4 hl4 o4=>?_
 obtain ⟨x4,rfl,a4,b4⟩:=hq4
 have w1 : IntKind.i64.wrap (x1 * 16777216) = x1 * 16777216:=aj (by omega) (by omega)
 have w2 : IntKind.i64.wrap (x2 * 65536) = x2 * 65536:=aj (by omega) (by omega)
 have w3 : IntKind.i64.wrap (x3 * 256) = x3 * 256:=aj (by omega) (by omega)
 have w4 : IntKind.i64.wrap (x1 * 16777216 + x2 * 65536) = x1 * 16777216 + x2 * 65536:=aj (by omega) (by omega)
 have w5 : IntKind.i64.wrap (x1 * 16777216 + x2 * 65536 + x3 * 256) = x1 * 16777216 + x2 * 65536 + x3 * 256:=aj (by omega) (by omega)
 have w6 : IntKind.i64.wrap (x1 * 16777216 + x2 * 65536 + x3 * 256 + x4) = x1 * 16777216 + x2 * 65536 + x3 * 256 + x4:=aj (by omega) (by omega)
 simp [curD,hn0,w1,w2,w3,w4,w5,w6]
 exact .inr ⟨⟨c4,⟨_,rfl,(tm _ (by omega)).1,fun _=>(tm _ (by omega)).2,fun h=>absurd h h0⟩,by simp [curD],o4⟩⟩
theorem fx (b : Sl Int) (c : Nat × Int) (n : Int) (hb : b.xs.length <= 1048576) (hc : curO b c) (hn : n <= 1000000000) : VX Tryz.prog 53 [] [.ptr 1000 0 0,.d (.int .i64 n)] (some ((curD b c).map V.d)) (fun _ r cs _=>CurP b Ju r cs):=by
 refine VX.of EP sZ Tryz.func53 ?_ ?_ fun B hB=>?_
 ·simp
 ·rintro cs h
  cases h
  simp [curD]
 simp [Tryz.f53,curD]
 refine aW c E89 (aD b c n hb hc hn) (by simp) (by simp [curD]) (by simp) (by simp) fun r1 c1 hs1 hh1 hq1 hl1 o1=>?_
 obtain ⟨x1,rfl,a1,b1,d1⟩:=hq1
 simp [curD]
 exact .inr ⟨⟨c1,⟨_,rfl⟩,by simp [curD],o1⟩⟩
theorem ca (b : Sl Int) (c : Nat × Int) (l : List Int) (hb : b.xs.length <= 1048576) (hc : curO b c) (hl0 : l ≠ []) (hll : l.length <= 1000) : VX Tryz.prog 121 [] [.ptr 1000 0 0,.d (pS cI l)] (some ((curD b c).map V.d)) (fun _ r cs _=>CurP b (inQ l) r cs):=by
 refine VX.of EP sZ Tryz.func121 ?_ ?_ fun B hB=>?_
 ·simp
 ·rintro cs h
  cases h
  simp [curD]
 have hp:=List.length_pos_iff.2 hl0
 simp [Tryz.f121,curD]
 refine aW c E89 (aD b c l.length hb hc (by omega)) (by simp) (by simp [curD]) (by simp) (by simp) fun r1 c1 hs1 hh1 hq1 hl1 o1=>?_
 obtain ⟨x1,rfl,a1,b1,d1⟩:=hq1
 have b1':=b1 (by omega)
 obtain ⟨k,rfl⟩ : ∃ k : Nat,x1 = k:=⟨x1.toNat,by omega⟩
 have hk : k < l.length:=by omega
 simp [curD,hk]
 exact .inr ⟨⟨c1,⟨_,rfl,Jy hk⟩,by simp [curD],o1⟩⟩
theorem iH (b : Sl Int) (c : Nat × Int) (l : List (List UInt8)) (hb : b.xs.length <= 1048576) (hc : curO b c) (hl0 : l ≠ []) (hll : l.length <= 1000) : VX Tryz.prog 123 [] [.ptr 1000 0 0,.d (pS cStr l)] (some ((curD b c).map V.d)) (fun _ r cs _=>CurP b (strQ l) r cs):=by
 refine VX.of EP sZ Tryz.func123 ?_ ?_ fun B hB=>?_
 ·simp
 ·rintro cs h
  cases h
  simp [curD]
 have hp:=List.length_pos_iff.2 hl0
 simp [Tryz.f123,curD]
 refine aW c E89 (aD b c l.length hb hc (by omega)) (by simp) (by simp [curD]) (by simp) (by simp) fun r1 c1 hs1 hh1 hq1 hl1 o1=>?_
 obtain ⟨x1,rfl,a1,b1,d1⟩:=hq1
 have b1':=b1 (by omega)
 obtain ⟨k,rfl⟩ : ∃ k : Nat,x1 = k:=⟨x1.toNat,by omega⟩
 have hk : k < l.length:=by omega
 simp [curD,hk,cStr]
 exact .inr ⟨⟨c1,⟨_,rfl,Jy hk⟩,by simp [curD],o1⟩⟩
end
end
section
open Go.Vs Go.Proofs Go
set_option maxRecDepth 100000
set_option maxHeartbeats 1000000
def inV (most x : Int) : Prop:=0 <= x /\ (0 < most -> x < most)
def Ka (n most : Int) (v : V) : Prop:=∃ l : List Int,v = .d (.pl (l.map cI)) /\ (l.length : Int) <= max n 0 /\ ∀ x ∈ l,inV most x
section
attribute [local simp] pS dSl cP cI cW
theorem s9 (b : Sl Int) (c : Nat × Int) (n most : Int) (hb : b.xs.length <= 1048576) (hc : curO b c) (hn : n <= 1000) (hm : most <= 1000000000) : VX Tryz.prog 144 [] [.ptr 1000 0 0,.d (.int .i64 n),.d (.int .i64 most)] (some ((curD b c).map V.d)) (fun _ r cs _=>CurP b (Ka n most) r cs):=by
 refine VX.of EP sZ Tryz.func144 ?_ ?_ fun B hB=>?_
 ·simp
 ·rintro cs h
  cases h
  simp [curD]
 simp [Tryz.f144,curD]
 refine ae (X:=(Nat × Int) × List Int) (fun p=>curO b p.1 /\ (p.2.length : Int) <= max n 0 /\ ∀ x ∈ p.2,inV most x) (fun p=>[(0,.ptr 1000 0 0),(1,.d (.int .i64 n)),(2,.d (.int .i64 most)),(7,.own 8 0 p.2.length)]) (fun p=>[(1000,some (.box ((curD b p.1).map V.d))),(8,some (.row 3 1 (p.2.map cI)))]) (fun p=>1000 - p.2.length) (c,[]) ⟨hc,by simp; omega,by simp⟩ (by simp) (by simp [curD]) ?_
 rintro ⟨c1,l⟩ hs t m ⟨ho,hl,hlv⟩ hh
 simp only at ho hl hlv
 by_cases hlt : (l.length : Int) < n
 ·have hL : LenOk 8 (l.length + 1):=⟨by omega,by simp only [maxLen]; omega⟩
  simp [hlt,curD]
  refine aW c1 E89 (aD b c1 most hb ho hm) (by simp) (by simp [curD]) (by simp) (by simp) fun r1 c2 hs1 hh1 hq1 hl1 o1=>?_
  obtain ⟨x,rfl,x0,x1,_⟩:=hq1
  simp [hlt,hL,curD]
  exact back (c2,l ++ [x]) ⟨o1,by simp; omega,fun y hy=>(Qq.1 hy).elim (hlv y) fun h=>by rw [Qg.1 h]; exact ⟨x0,x1⟩⟩ (by simp; omega) rfl (by simp <;> omega) (by simp) (by simp [curD])
 ·simp [hlt,curD,bt]
  exact .inr ⟨⟨c1,⟨l,by simp [Jj],hl,hlv⟩,by simp [curD],ho⟩⟩
end
end
section
open Go.Vs Go.Proofs Go
set_option maxRecDepth 100000
set_option maxHeartbeats 1000000
section
attribute [local simp] aR aC ax ay
theorem qw (r : bE) (hb : r.rows.length <= 4294967296) (hb2 : ∀ x ∈ r.rows,x.length <= 4294967296) :
  VC Tryz.prog 83 [.agg ((ao r).map V.d)] (fun n v=>∃ y : Reln,v = .agg ((aA y).map V.d) /\ aV y = r /\ eL y /\ (∀ g,y.rows.id = some g -> y.rows.T = some (28,1)) /\ Good (aA y) (fq y) n):=by
 obtain ⟨ar,l⟩:=r
 simp only at hb hb2
 refine VC.of E s83 Tryz.func83 fun B=>?_
 simp [Tryz.f83,ao,pS,cI]
 refine aE (X:=Nat × List Ints) (CopI (cS cI) (whS whI) (okS okI) (plS plI) l B) (fun p=>[(1,.ptr 1 0 0),(2,.ptr 2 0 0),(3,.ptr 3 0 0),(4,.d (.int .i64 p.1))])
  (fun p=>[(1,some (.box [.d (.int .i64 ar),.d (.pl (l.map (cP cI)))])),(2,some (.box [.d (.int .i64 0),.d (.sl none none [])])),(3,some (.box [.d (.int .i64 ar),.own 25 0 p.2.length])),(25,some (.row 28 1 (p.2.map (cS cI))))]) (fun p=>l.length - p.1) ?_ ?_
 ·refine (cz 3 1 25 28 1 [.d (.int .i64 ar),.d (.sl none none [])] (by omega) (by omega) (by omega) (by simp) rfl).bind ?_
  rintro _ rfl
  exact Lead.of ⟨(0,[]),.zero,rfl,rfl,Jv _,by simp,by simp⟩
 rintro ⟨i,ys⟩ hs t m hI hh
 have hle:=hI.le
 have hyl:=hI.len
 simp only at hle
 by_cases hlt : i < l.length
 ·have hwi:=wr1 (i:=i) (by omega)
  have hL : LenOk 24 (i + 1):=⟨by omega,by simp only [maxLen]; omega⟩
  have hx:=hb2 _ (Jy hlt)
  obtain ⟨row,hrow⟩ : ∃ row,row = l[i]:=⟨_,rfl⟩
  rw [<- hrow] at hx
  have hL2 : LenOk 8 row.length:=⟨by omega,by simp only [maxLen]; omega⟩
  refine dx fun Q=>?_
  simp [hlt,<- hrow,cP,pS,hL2,hyl,Jj]
  rw [vp (k':=17) (ks:=[]) _ _ _ (by simp) (by simp)]
  intro γ hs' h1 hg
  simp only at h1
  obtain ⟨q1,q2⟩:=bz hg (k:=17) (T:=3) (sz:=1) (es:=row.map cI) (by simp)
  have q3:=iR hg (k:=17) (T:=3) (sz:=1) (es:=row.map cI) (k2:=25) (T2:=28) (sz2:=1) (es2:=ys.map (cS cI)) (by simp) (by simp)
  clear hg
  have hp : hpLL (row.map cI) = false:=cL _
  simp [vpre,vnext,veff,vval,aJ,St.frzs,St.frz,Vs.frz,hp,hL,hwi,hyl,Jj]
  have hid : ∀ L : List Int,idsLL (L.map cI) = []:=fun L=>by simp
  have hy : ∀ g,g ∈ idsL (cS cI (⟨γ 17,some (3,1),row⟩ : Ints)) -> γ 17 = some g:=fun g hg=>by
   rw [bc] at hg
   rcases aK.1 hg with h | h
   ·exact h
   ·simp only at h; rw [hid] at h; simp at h
  have hG : Good (cS cI (⟨γ 17,some (3,1),row⟩ : Ints)) (whS whI ⟨γ 17,some (3,1),row⟩) B:=
   df (fun g hg=>(q1 g hg).1) (by simpa using q2) (fun g _=>by rw [hid]; simp) ⟨by rw [hid]; simp,by rw [hid]; simp⟩ (by simp [whI])
  refine bg (i + 1,ys ++ [⟨γ 17,some (3,1),row⟩]) ⟨by simp only; omega,?_,?_,e8.snoc2 hI.good h1 hG (fun g hg=>q3 g (hy g hg)) (fun g hg=>(q1 g (hy g hg)).2)⟩ (by simp only; omega) rfl (by simp <;> omega) (by simp) (by simp [hyl,cS,dSl])
  ·have:=hI.pl
   simp only at this
   simp only [Zj,Qz,List.map_nil]
   rw [this,Jz hlt,<- hrow]
   simp [plS]
  ·intro z hz
   rcases Qq.1 hz with hz | hz
   ·exact hI.ok z hz
   ·rw [Qg.1 hz]
    exact ⟨by simp only [maxLen]; omega,fun _ _=>trivial⟩
 ·have hall:=hI.all (by omega)
  simp [hlt,hyl]
  intro γ hs' h1 hg
  obtain ⟨q1,q2⟩:=bz hg (k:=25) (T:=28) (sz:=1) (es:=ys.map (cS cI)) (by simp)
  have q3:=ea hg (k:=25) (T:=28) (sz:=1) (es:=ys.map (cS cI)) (by simp)
  clear hg
  have hp : hpLL (ys.map (cS cI)) = false:=kG ys
  simp [hp,hyl,Jj]
  refine ⟨⟨ar,⟨γ 25,some (28,1),ys⟩⟩,by simp [aA,cI,cS,dSl,hyl,Jj],by simp [aV,plS,hall],⟨trivial,⟨by simp only [maxLen]; show ys.length <= _; omega,hI.ok⟩⟩,fun _ _=>rfl,kF (df (fun g hg=>(q1 g hg).1) (by simpa using q2) q3 ⟨hI.good.nd,hI.good.lo⟩ hI.good.wh) (Jv _)⟩
end
end
section
open Go.Vs Go.Proofs Go
set_option maxRecDepth 100000
set_option maxHeartbeats 1000000
theorem lH (ar : Int) (l : List (List Int)) (hb : l.length <= 4294967296) (hn : ∀ x ∈ l,x.length <= 4294967296) : VC Tryz.prog 44 [.d (.int .i64 ar),.d (pS (cP cI) l)]
  (fun n v=>∃ y : Reln,v = .tup [.agg ((aA y).map V.d),.d (.bool (newB ar l))] /\ aV y = newR ar l /\ eL y /\ (∀ g,y.rows.id = some g -> y.rows.T = some (28,1)) /\ Good (aA y) (fq y) n):=by
 refine VC.of E sZ Tryz.func44 fun B=>?_
 have fail : newB ar l = false -> ∃ y : Reln,V.tup [V.agg [V.d (D.int IntKind.i64 0),V.d (D.sl none none [])],V.d (D.bool false)] = .tup [.agg ((aA y).map V.d),.d (.bool (newB ar l))] /\ aV y = newR ar l /\ eL y /\ (∀ g,y.rows.id = some g -> y.rows.T = some (28,1)) /\ Good (aA y) (fq y) B:=fun h=>
  ⟨⟨0,nilS⟩,by rw [h]; simp [aA,cI,cS,dSl,nilS],by simp [newR,h,aV,plI,nilS,plS],⟨trivial,ch⟩,fun g hg=>(by cases hg),fl B⟩
 simp [Tryz.f44,pS]
 refine ae (X:=Nat) (fun i=>i <= l.length /\ bP (fun r : List Int=>decide ((r.length : Int) = ar) && aZ r) l i) (fun i=>[(0,.d (.int .i64 ar)),(1,.d (.pl (l.map (cP cI)))),(4,.ptr 4 0 0),(6,.d (.int .i64 i))])
  (fun i=>[(4,some (.box [.d (.int .i64 0),.d (.sl none none [])]))]) (fun i=>l.length - i) 0 ⟨by simp,aQ⟩ (by simp) (by simp) ?_
 intro i hs t m hi hh
 by_cases hlt : i < l.length
 ·have hwi:=wr1 (i:=i) (by omega)
  by_cases hln : (l[i].length : Int) = ar
  ·simp [hlt,hln,cP,pS]
   refine ag (dw l[i]) (by simp [pS]) rfl fun hs1 hh1=>?_
   simp at hh1
   cases hv : aZ l[i]
   ·have hbad:=bn (p:=fun r : List Int=>decide ((r.length : Int) = ar) && aZ r) hlt (by simp [hv])
    simp
    simpa using fail (by simp [newB,hbad])
   ·simp [hwi]
    exact back (i + 1) ⟨by omega,aM hi.2 hlt (by simp [hv,hln])⟩ (by omega) rfl (by simp <;> omega) (by simp [cP,pS]) (by simp)
  ·have hbad:=bn (p:=fun r : List Int=>decide ((r.length : Int) = ar) && aZ r) hlt (by simp [hln])
   simp [hlt,hln,cP,pS]
   simpa using fail (by simp [newB,hbad])
 ·have hd:=aP hi.2 (by omega)
  have hsl:=dB l
  simp [hlt]
  refine aF (lx _ l (Jv _) hb) (by simp [pS]) fun hs1 hh1 _=>?_
  simp at hh1
  simp
  refine bb (qw ⟨ar,srtU l⟩ (by simp; omega) (fun x hx=>hn x ((bZ l x).1 hx))) (by simp [ao,pS,cI,cP]) (by simp [ao,pS,cI,cP]) fun n2 hs2 r2 hn2 hm2 hp2 hr2=>?_
  obtain ⟨⟨ya,⟨yid,yT,ys⟩⟩,rfl,p2,k2,T2,G2⟩:=hp2
  simp at hn2
  have hya : ya = ar /\ ys.map (plS plI) = srtU l:=by
   simp only [aV,plS,plI,bE.mk.injEq] at p2
   exact p2
  simp [aA,cI,cS,dSl]
  refine ag (bm ⟨ar,srtU l⟩) (by simp [ao,cP,pS,cI,hya.1,<- hya.2,bW (iQ eE)]) rfl fun hs3 hh3=>?_
  simp at hh3
  cases h1 : aL ar (srtU l)
  ·have hB : newB ar l = false:=by simp [newB,h1]
   obtain ⟨y,e1,e2⟩:=fail hB
   simp
   exact ⟨y,by simpa [aA,cI,cS,dSl] using e1,e2⟩
  ·have hB : newB ar l = true:=by simp [newB,h1,hd]
   simp
   exact ⟨⟨ya,⟨yid,yT,ys⟩⟩,by simp [aA,cI,cS,dSl,hB],by rw [p2,newR,if_pos hB],k2,T2,G2.le (by omega)⟩
end
section
open Go.Vs Go.Proofs Go
set_option maxRecDepth 100000
set_option maxHeartbeats 1000000
def dmB (most val : Int) (y : Reln) : Prop:=(y.rows.xs.length : Int) <= most /\ ∀ r ∈ y.rows.xs,∀ v ∈ r.xs,inV val v
structure RelC (t1 : Nat) (most val : Int) (b : Sl Int) (n : Nat) (r : V) (cs : List V) : Prop where
 ex : ∃ (c' : Nat × Int) (y : Reln),r = .agg ((aA y).map V.d) /\ aL (aV y).ar (aV y).rows = true /\ ((y.rows.xs.length <= 1000 /\ y.ar <= 1000) /\ dmB most val y) /\ eL y /\ (∀ g,y.rows.id = some g -> y.rows.T = some (t1,1)) /\ Good (aA y) (fq y) n /\ cs = (curD b c').map V.d /\ curO b c'
theorem EM (ar : Int) (l : List (List Int)) : aL (newR ar l).ar (newR ar l).rows = true:=by
 unfold newR
 split
 ·rename_i h
  simp only [newB,Jq] at h
  exact h.2
 ·decide
theorem EL (ar : Int) (l : List (List Int)) (h : ar <= 1000) : (newR ar l).ar <= 1000:=by
 unfold newR
 split
 ·exact h
 ·simp
theorem uw (ar : Int) (l : List (List Int)) : (newR ar l).rows.length <= l.length:=by
 unfold newR
 split
 ·exact dB l
 ·simp
theorem Ci {ar : Int} {l : List (List Int)} {x : List Int} (h : x ∈ (newR ar l).rows) : x ∈ l:=by
 unfold newR at h
 split at h
 ·exact (bZ l x).1 h
 ·simp at h
@[simp] theorem startX4b (a b c d : V) (W : List Nat) (cs : List V) (B : Nat) : St.startX [a, b, c, d] W (some cs) B = ⟨B, B, W, upd (upd (upd (upd (fun _ => .tup []) 3 d) 2 c) 1 b) 0 a, upd (fun _ => none) 1000 (some (.box cs))⟩ := by
  simp only [St.startX,St.mk.injEq,true_and]
  refine ⟨?_,jr cs⟩
  funext i; match i with | 0=>rfl | 1=>rfl | 2=>rfl | 3=>rfl | _ + 4=>rfl
section
attribute [local simp] pS dSl cP cI cW
theorem jv (b : Sl Int) (c : Nat × Int) (ar most val : Int) (hb : b.xs.length <= 1048576) (hc : curO b c) (har : ar <= 1000) (hm : 0 <= most /\ most <= 1000) (hv : val <= 1000000000) : VX Tryz.prog 122 [] [.ptr 1000 0 0,.d (.int .i64 ar),.d (.int .i64 most),.d (.int .i64 val)] (some ((curD b c).map V.d)) (fun n r cs _=>RelC 28 most val b n r cs):=by
 refine VX.of E sZ Tryz.func122 ?_ ?_ fun B hB=>?_
 ·simp
 ·rintro cs h
  cases h
  simp [curD]
 have hw : IntKind.i64.wrap (most + 1) = most + 1:=aj (by omega) (by omega)
 simp [Tryz.f122,curD,hw]
 refine aW c E89 (aD b c (most + 1) hb hc (by omega)) (by simp) (by simp [curD]) (by simp) (by simp) fun r1 c1 hs1 hh1 hq1 hl1 o1=>?_
 have hB1 : B <= hs1:=hh1
 obtain ⟨x,rfl,x0,x1,_⟩:=hq1
 have x1':=x1 (by omega)
 obtain ⟨N,rfl⟩ : ∃ N : Nat,x = N:=⟨x.toNat,by omega⟩
 simp [curD]
 refine ae (X:=(Nat × Int) × List (List Int) × Nat) (fun p=>curO b p.1 /\ p.2.1.length + p.2.2 <= N /\ ∀ x ∈ p.2.1,x.length <= 1000 /\ ∀ v ∈ x,inV val v) (fun p=>[(0,.ptr 1000 0 0),(1,.d (.int .i64 ar)),(3,.d (.int .i64 val)),(8,.ptr 8 0 0),(9,.own 13 0 p.2.1.length),(10,.d (.int .i64 p.2.2))]) (fun p=>[(1000,some (.box ((curD b p.1).map V.d))),(8,some (.box [.d (.int .i64 0),.d (.sl none none [])])),(13,some (.row 28 1 (p.2.1.map (cP cI))))]) (fun p=>p.2.2) (c1,[],N) ⟨o1,by simp,by simp⟩ (by simp) (by simp [curD]) ?_
 rintro ⟨c2,l,k⟩ hs t m ⟨ho,hl,hlm⟩ hh
 simp only at ho hl hlm
 cases k with
 | zero =>
   simp [curD]
   refine ij (lH ar l (by omega) (fun x hx=>by have:=(hlm x hx).1; omega)) (by simp [Jj]) fun n4 hs4 r4 hn4 hm4 hp4 hl4=>?_
   obtain ⟨⟨ya,⟨yid,yT,ys⟩⟩,rfl,p4,k4,T4,G4⟩:=hp4
   simp at hn4
   simp [aA,cS,dSl,bt]
   intro γ hs' h1 hg
   clear hg
   refine ⟨⟨c2,⟨ya,⟨yid,yT,ys⟩⟩,by simp [aA,cS,dSl],by rw [p4]; exact EM ar l,⟨⟨by have:=uw ar l; rw [<- p4] at this; simp [aV,plS] at this; simp only; omega,by have:=EL ar l har; rw [<- p4] at this; exact this⟩,by have:=uw ar l; rw [<- p4] at this; simp [aV,plS] at this; simp only; omega,fun r hr v hv=>by
    have h5 : plS plI r ∈ (newR ar l).rows:=by rw [<- p4]; simp only [aV,plS]; exact Xz.2 ⟨r,hr,rfl⟩
    refine (hlm _ (Ci h5)).2 v ?_
    simpa [plS,ax] using hv⟩,k4,T4,G4.le (by omega),by simp [curD],ho⟩⟩
 | succ k=>
 obtain ⟨u,hu⟩ : ∃ u : Nat,u = k + 1:=⟨_,rfl⟩
 have hup : 0 < u:=by omega
 have hwm : IntKind.i64.wrap ((u : Int) - 1) = k:=by rw [aj (by omega) (by omega)]; omega
 have hL : LenOk 24 (l.length + 1):=⟨by omega,by simp only [maxLen]; omega⟩
 rw [<- hu] at hl ⊢
 simp [hup,curD]
 refine aW c2 E144 (s9 b c2 ar val hb ho har hv) (by simp) (by simp [curD]) (by simp) (by simp) fun r3 c3 hs3 hh3 hq3 hl3 o3=>?_
 obtain ⟨row,rfl,hrow,hrv⟩:=hq3
 simp [hL,hwm,curD,Jj]
 refine back (c3,l ++ [row],k) ⟨o3,by simp; omega,fun x hx=>?_⟩ (by simp only; omega) rfl (by simp <;> omega) (by simp) (by simp [curD])
 rcases Qq.1 hx with hx | hx
 ·exact hlm x hx
 ·rw [Qg.1 hx]; exact ⟨by omega,hrv⟩
end
theorem di {P : Program} {E : Md} {args : List Operand} {f : FuncId} {rest As : List V} {k : Nat} {dst : Option Tmp} {K : St -> Prop} {σ : St} {b : Sl Int} {q : V -> Prop} (c : Nat × Int) (hE : E f = true)
  (hc : VX P f [] (.ptr 1000 0 0 :: As) (some ((curD b c).map V.d)) (fun _ r cs _=>CurP b q r cs)) (hvs : args.map σ.ev = .ptr k 0 0 :: rest) (hm : σ.m k = some (.box ((curD b c).map V.d)))
  (hr : rpL σ.m rest = some As)
  (hK : ∀ r c' hs',σ.hs <= hs' -> q r -> r.ln -> curO b c' -> K ({ (σ.frps (keysVL rest)) with hs:=hs',m:=upd (σ.frps (keysVL rest)).m k (some (.box ((curD b c').map V.d))) }.put dst r)) : b9 P E f args (.ptr k 0 0 :: rest) dst K σ:=by
 refine l4 hE hvs hm hr (by simp [curD,dSl]) hc fun r cs' ws n hs' h1 h2 h3 h4 h5=>?_
 obtain ⟨c',hq,rfl,ho⟩:=h3.ex
 have : keysVL rest ++ keysVL ((curD b c).map V.d) = keysVL rest:=by simp [curD]
 rw [this]
 exact hK r c' hs' (Zy h1 h2) hq h4 ho
theorem oW {P : Program} {t1 : Nat} {most val : Int} {E : Md} {args : List Operand} {f : FuncId} {rest As : List V} {k : Nat} {dst : Option Tmp} {K : St -> Prop} {σ : St} {b : Sl Int} (c : Nat × Int) (hE : E f = true)
  (hc : VX P f [] (.ptr 1000 0 0 :: As) (some ((curD b c).map V.d)) (fun n r cs _=>RelC t1 most val b n r cs)) (hvs : args.map σ.ev = .ptr k 0 0 :: rest) (hm : σ.m k = some (.box ((curD b c).map V.d)))
  (hr : rpL σ.m rest = some As) (hk : keysVL rest = [])
  (hK : ∀ (y : Reln) c' n hs',σ.hs <= n -> n <= hs' -> aL (aV y).ar (aV y).rows = true -> ((y.rows.xs.length <= 1000 /\ y.ar <= 1000) /\ dmB most val y) -> eL y -> (∀ g,y.rows.id = some g -> y.rows.T = some (t1,1)) -> Good (aA y) (fq y) n -> (∀ g ∈ idsL (aA y),g < hs') -> curO b c' -> K ({ σ with hs:=hs',m:=upd σ.m k (some (.box ((curD b c').map V.d))) }.put dst (.agg ((aA y).map V.d)))) : b9 P E f args (.ptr k 0 0 :: rest) dst K σ:=by
 refine l3 hE hvs hm hr (by simp [curD,dSl]) hc fun r cs' ws n hs' h1 h2 h3 h4 h5 h9=>?_
 obtain ⟨c',y,rfl,h6,hln,h7,hT,h8,rfl,ho⟩:=h3.ex
 have : keysVL rest ++ keysVL ((curD b c).map V.d) = []:=by rw [hk]; simp [curD]
 rw [this]
 exact hK y c' n hs' h1 h2 h6 hln h7 hT h8 (fun g hg=>h9 g (by rw [mg]; exact hg)) ho
theorem gC (l : List Int) : tkLL (l.map cW) = true:=by
 induction l with
 | nil=>rfl
 | cons x r ih=>simp only [Qz,tkLL,ih,cW]; simp [tkL,D.tk]
end
section
open Go.Vs Go.Proofs Go
set_option maxRecDepth 100000
set_option maxHeartbeats 1000000
structure RowC (b : Sl Int) (k most : Int) (n : Nat) (r : V) (cs : List V) : Prop where
 ex : ∃ (c' : Nat × Int) (s : Sl Int),r = .d (dSl cI s) /\ ((s.xs.length : Int) <= max k 0 /\ ∀ x ∈ s.xs,inV most x) /\ (∀ g,s.id = some g -> n <= g) /\ cs = (curD b c').map V.d /\ curO b c'
theorem AO {P : Program} {E : Md} {args : List Operand} {f : FuncId} {rest As : List V} {k : Nat} {dst : Option Tmp} {K : St -> Prop} {σ : St} {b : Sl Int} {m most : Int} (c : Nat × Int) (hE : E f = true)
  (hc : VX P f [] (.ptr 1000 0 0 :: As) (some ((curD b c).map V.d)) (fun n r cs _=>RowC b m most n r cs)) (hvs : args.map σ.ev = .ptr k 0 0 :: rest) (hm : σ.m k = some (.box ((curD b c).map V.d)))
  (hr : rpL σ.m rest = some As) (hk : keysVL rest = [])
  (hK : ∀ (s : Sl Int) c' n hs',σ.hs <= n -> n <= hs' -> ((s.xs.length : Int) <= max m 0 /\ ∀ x ∈ s.xs,inV most x) -> (∀ g,s.id = some g -> n <= g /\ g < hs') -> curO b c' -> K ({ σ with hs:=hs',m:=upd σ.m k (some (.box ((curD b c').map V.d))) }.put dst (.d (dSl cI s)))) : b9 P E f args (.ptr k 0 0 :: rest) dst K σ:=by
 refine l3 hE hvs hm hr (by simp [curD,dSl]) hc fun r cs' ws n hs' h1 h2 h3 h4 h5 h9=>?_
 obtain ⟨c',s,rfl,h6,h7,rfl,ho⟩:=h3.ex
 have : keysVL rest ++ keysVL ((curD b c).map V.d) = []:=by rw [hk]; simp [curD]
 rw [this]
 exact hK s c' n hs' h1 h2 h6 (fun g hg=>⟨h7 g hg,h9 g (aK.2 (.inl hg))⟩) ho
section
attribute [local simp] pS dSl cP cI cW
theorem sO (b : Sl Int) (c : Nat × Int) (n most : Int) (hb : b.xs.length <= 1048576) (hc : curO b c) (hn : n <= 1000) (hm : most <= 1000000000) : VX Tryz.prog 144 [] [.ptr 1000 0 0,.d (.int .i64 n),.d (.int .i64 most)] (some ((curD b c).map V.d)) (fun m r cs _=>RowC b n most m r cs):=by
 refine VX.of E sZ Tryz.func144 ?_ ?_ fun B hB=>?_
 ·simp
 ·rintro cs h
  cases h
  simp [curD]
 simp [Tryz.f144,curD]
 refine ae (X:=(Nat × Int) × List Int) (fun p=>curO b p.1 /\ (p.2.length : Int) <= max n 0 /\ ∀ x ∈ p.2,inV most x) (fun p=>[(0,.ptr 1000 0 0),(1,.d (.int .i64 n)),(2,.d (.int .i64 most)),(7,.own 8 0 p.2.length)]) (fun p=>[(1000,some (.box ((curD b p.1).map V.d))),(8,some (.row 3 1 (p.2.map cI)))]) (fun p=>1000 - p.2.length) (c,[]) ⟨hc,by simp; omega,by simp⟩ (by simp) (by simp [curD]) ?_
 rintro ⟨c1,l⟩ hs t m ⟨ho,hl,hlv⟩ hh
 simp only at ho hl hlv
 by_cases hlt : (l.length : Int) < n
 ·have hL : LenOk 8 (l.length + 1):=⟨by omega,by simp only [maxLen]; omega⟩
  simp [hlt,curD]
  refine aW c1 E89 (aD b c1 most hb ho hm) (by simp) (by simp [curD]) (by simp) (by simp) fun r1 c2 hs1 hh1 hq1 hl1 o1=>?_
  obtain ⟨x,rfl,x0,x1,_⟩:=hq1
  simp [hlt,hL,curD]
  exact back (c2,l ++ [x]) ⟨o1,by simp; omega,fun y hy=>(Qq.1 hy).elim (hlv y) fun h=>by rw [Qg.1 h]; exact ⟨x0,x1⟩⟩ (by simp; omega) rfl (by simp <;> omega) (by simp) (by simp [curD])
 ·simp [hlt,curD,bt]
  intro γ hs' h1 hg
  obtain ⟨q1,q2⟩:=bz hg (k:=8) (T:=3) (sz:=1) (es:=l.map cI) (by simp)
  clear hg
  exact ⟨⟨c1,⟨γ 8,some (3,1),l⟩,by simp [Jj],⟨hl,hlv⟩,fun g hg=>(q1 g hg).1,by simp [curD],ho⟩⟩
end
end
section
open Go.Vs Go.Proofs Go
set_option maxRecDepth 100000
set_option maxHeartbeats 1000000
def bdR (y : Reln) : Prop:=y.rows.xs.length <= 5000 /\ (∀ r ∈ y.rows.xs,r.xs.length <= 2000) /\ y.ar <= 1001
def xI (v : Int) : Prop:=(0 <= v /\ v <= 5) \/ v < 0 \/ 99 <= v
def dmA (y : Reln) : Prop:=y.rows.xs.length <= 9 /\ ∀ r ∈ y.rows.xs,∀ v ∈ r.xs,xI v
theorem vV {most val : Int} {y : Reln} (h : dmB most val y) (h1 : most <= 9) (h2 : 0 < val /\ val <= 6) : dmA y:=by
 refine ⟨by have:=h.1; omega,fun r hr v hv=>.inl ?_⟩
 have:=h.2 r hr v hv
 exact ⟨this.1,by have:=this.2 h2.1; omega⟩
structure RelA (b : Sl Int) (n : Nat) (r : V) (cs : List V) : Prop where
 ex : ∃ (c' : Nat × Int) (y : Reln),r = .agg ((aA y).map V.d) /\ ((bdR y /\ dmA y) /\ ∀ g ∈ idsL (aA y),n <= g) /\ eL y /\ cs = (curD b c').map V.d /\ curO b c'
theorem yV {P : Program} {E : Md} {args : List Operand} {f : FuncId} {rest As : List V} {k : Nat} {dst : Option Tmp} {K : St -> Prop} {σ : St} {b : Sl Int} (c : Nat × Int) (hE : E f = true)
  (hc : VX P f [] (.ptr 1000 0 0 :: As) (some ((curD b c).map V.d)) (fun n r cs _=>RelA b n r cs)) (hvs : args.map σ.ev = .ptr k 0 0 :: rest) (hm : σ.m k = some (.box ((curD b c).map V.d)))
  (hr : rpL σ.m rest = some As) (hk : keysVL rest = [])
  (hK : ∀ (y : Reln) c' n hs',σ.hs <= n -> n <= hs' -> (bdR y /\ dmA y) -> (∀ g ∈ idsL (aA y),n <= g) -> eL y -> curO b c' -> K ({ σ with hs:=hs',m:=upd σ.m k (some (.box ((curD b c').map V.d))) }.put dst (.agg ((aA y).map V.d)))) : b9 P E f args (.ptr k 0 0 :: rest) dst K σ:=by
 refine l4 hE hvs hm hr (by simp [curD,dSl]) hc fun r cs' ws n hs' h1 h2 h3 h4 h5=>?_
 obtain ⟨c',y,rfl,h6,h7,rfl,ho⟩:=h3.ex
 have : keysVL rest ++ keysVL ((curD b c).map V.d) = []:=by rw [hk]; simp [curD]
 rw [this]
 exact hK y c' n hs' h1 h2 h6.1 h6.2 h7 ho
theorem fX {y : Reln} {g : Nat} : g ∈ idsL (aA y) ↔ y.rows.id = some g \/ g ∈ idsLL (y.rows.xs.map (cS cI)):=by
 rw [aA,cM,Qq,bc,aK]
 constructor
 ·rintro (h | h)
  ·simp [cI,idsL,D.ids] at h
  ·exact h
 ·exact .inr
section
attribute [local simp] pS dSl cP cI cW
theorem tb (b : Sl Int) (c : Nat × Int) (hb : b.xs.length <= 1048576) (hc : curO b c) : VX Tryz.prog 125 [] [.ptr 1000 0 0] (some ((curD b c).map V.d)) (fun n r cs _=>RelA b n r cs):=by
 refine VX.of E s125 Tryz.func125 ?_ ?_ fun B hB=>?_
 ·simp
 ·rintro cs h
  cases h
  simp [curD]
 simp [Tryz.f125,curD]
 refine aW c E89 (aD b c 4 hb hc (by omega)) (by simp) (by simp [curD]) (by simp) (by simp) fun r0 c0 hs0 hh0 hq0 hl0 o0=>?_
 obtain ⟨x,rfl,x0,x1,_⟩:=hq0
 have x1:=x1 (by omega)
 simp [curD]
 refine oW c0 E122 (jv b c0 x 6 4 hb o0 (by omega) (by omega) (by omega)) (by simp) (by simp [curD]) (by simp) (by simp) fun y c1 n1 hs1 hn1 hm1 hy1 ly1 ky1 Ty1 Gy1 Iy1 o1=>?_
 obtain ⟨ya,⟨rid,rT,rx⟩⟩:=y
 have hB1 : B <= n1:=by simp at hn1 hh0; omega
 have hrow:=gR hy1
 have hmem:=fun (r : Ints) (hr : r ∈ rx)=>bK hy1 (x:=plS plI r) (by simp only [aV,plS]; exact Xz.2 ⟨r,hr,rfl⟩)
 have har : 0 <= ya /\ ya <= 5:=by
  have:=pY hy1
  simp only [inR,Jq,Xj] at this
  exact this
 have hr5 : ∀ r ∈ rx,(r.xs.length : Int) = ya:=fun r hr=>by
  have:=(hmem r hr).1
  simpa [aV,plS] using this
 simp only at ly1
 refine kD [(0,.ptr 1000 0 0),(2,.ptr 2 0 0),(7,.agg ((aA ⟨ya,⟨rid,rT,rx⟩⟩).map V.d))] [(1000,some (.box ((curD b c1).map V.d))),(2,some (.box [.d (.int .i64 0),.d (.sl none none [])]))] (by simp) (by simp [curD]) fun t m=>?_
 simp [aA,curD,cS]
 refine aW c1 E89 (aD b c1 14 hb o1 (by omega)) (by simp) (by simp [curD]) (by simp) (by simp) fun r2 c2 hs2 hh2 hq2 hl2 o2=>?_
 obtain ⟨u,rfl,u0,u1,_⟩:=hq2
 have hB2 : n1 <= hs2:=by simp at hh2; omega
 refine kD [(0,.ptr 1000 0 0),(2,.ptr 2 0 0),(3,.ptr 3 0 0),(9,.d (.int .i64 u))] [(1000,some (.box ((curD b c2).map V.d))),(2,some (.box [.d (.int .i64 0),.d (.sl none none [])])),(3,some (.box ((aA ⟨ya,⟨rid,rT,rx⟩⟩).map V.d)))] (by simp) (by simp [curD,aA,cS]) fun t m=>?_
 have dm6 : rx.length <= 6 /\ ∀ r ∈ rx,∀ v ∈ r.xs,xI v:=⟨by have:=ly1.2.1; simp only at this; omega,(vV ly1.2 (by omega) (by omega)).2⟩
 have fin : bdR ⟨ya,⟨rid,rT,rx⟩⟩ /\ dmA ⟨ya,⟨rid,rT,rx⟩⟩:=⟨⟨by simp only; omega,fun r hr=>by have:=hr5 r hr; omega,by simp only; omega⟩,by have:=dm6.1; simp only; omega,dm6.2⟩
 have hlo : ∀ (v : Int),∀ g ∈ idsL (aA ⟨v,⟨rid,rT,rx⟩⟩),B <= g:=fun v g hg=>by
  have:=Gy1.lo g (fX.2 (fX.1 hg : rid = some g \/ g ∈ idsLL (rx.map (cS cI))))
  omega
 by_cases e0 : u = 0
 ·subst e0
  have hw : IntKind.i64.wrap (ya + 1) = ya + 1:=aj (by omega) (by omega)
  simp [aA,curD,cS,hw]
  refine di c2 E121 (ca b c2 [-1,6,ya + 1] hb o2 (by simp) (by simp)) (by simp) (by simp [curD]) (by simp) fun r3 c3 hs3 hh3 hq3 hl3 o3=>?_
  obtain ⟨v,rfl,hv⟩:=hq3
  simp only [Zz,List.not_mem_nil,or_false] at hv
  simp [aA,curD,cS,bt]
  intro γ hs' h1 hg
  clear hg
  exact ⟨⟨c3,⟨v,⟨rid,rT,rx⟩⟩,by simp [aA,cS],⟨⟨⟨fin.1.1,fin.1.2.1,by simp only; omega⟩,fin.2.1,fin.2.2⟩,hlo v⟩,⟨trivial,ky1.2⟩,by simp [curD],o3⟩⟩
 by_cases e1 : u = 1
 ·subst e1
  have hmx : (if 0 < ya then ya else 0) = ya:=by split <;> omega
  simp [aA,curD,cS,hmx]
  repeat' apply And.intro
  all_goals
   refine AO c2 E144 (sO b c2 ya 4 hb o2 (by omega) (by omega)) (by simp) (by simp [curD]) (by simp) (by simp) fun row c3 n3 hs3 hn3 hm3 hrow hrid o3=>?_
   have hn3 : hs2 <= n3:=hn3
   obtain ⟨wid,wT,wx⟩:=row
   obtain ⟨hrow,hrv⟩:=hrow
   simp only at hrow hrid hrv
   have hrg : ∀ v ∈ wx,xI v:=fun v hv=>.inl ⟨(hrv v hv).1,by have:=(hrv v hv).2 (by omega); omega⟩
   have L0 : LenOk 24 1:=⟨by omega,by simp only [maxLen]; omega⟩
   cases rid with
   | none =>
     have h0 : rx = []:=Gy1.wh.2.1.nil rfl
     subst h0
     cases rT
     all_goals
      simp [aA,curD,cS,L0,bt]
      intro γ hs' h1 hg
      obtain ⟨q1,q2⟩:=bz hg (k:=29) (T:=28) (sz:=1) (es:=[[D.sl wid wT (wx.map cI)]]) (by simp)
      clear hg
      exact ⟨⟨c3,⟨ya,⟨γ 29,some (28,1),[(⟨wid,wT,wx⟩ : Sl Int)]⟩⟩,by simp [aA,cS],⟨⟨⟨by simp,fun r hr=>by rw [Qg.1 hr]; simp only; omega,by simp only; omega⟩,by simp,fun r hr=>by rw [Qg.1 hr]; exact hrg⟩,fun g hg=>by
       rcases fX.1 hg with h | h
       ·exact (q1 g h).1
       ·rcases aK.1 (show g ∈ (dSl cI (⟨wid,wT,wx⟩ : Sl Int)).ids by simpa [idsLL,bc] using h) with h | h
        ·have:=(hrid g h).1; omega
        ·simp at h⟩,⟨trivial,⟨by simp [maxLen],fun r hr=>by rw [Qg.1 hr]; exact ⟨by simp only [maxLen]; omega,fun _ _=>trivial⟩⟩⟩,by simp [curD],o3⟩⟩
   | some gr =>
     obtain rfl : rT = some (28,1):=Ty1 gr rfl
     have G0:=Gy1.nd
     simp only [aA,cM,bc] at G0
     have hrB : B <= gr:=by
      have:=Gy1.lo gr (by simp only [aA,cM,bc,Qq]; exact .inr (iU (s:=(⟨some gr,some (28,1),rx⟩ : Sl Ints)) rfl))
      omega
     have hrs : gr < hs1:=Iy1 gr (by simp only [aA,cM,bc,Qq]; exact .inr (iU (s:=(⟨some gr,some (28,1),rx⟩ : Sl Ints)) rfl))
     have hs12 : hs1 <= hs2:=by simpa using hh2
     have f1 : gr ∉ idsLL (rx.map (cS cI)):=by
      have:=(List.nodup_append.1 G0).2.1
      simp only [dSl,D.ids,Option.toList] at this
      exact (List.nodup_cons.1 this).1
     have hw0 : gr ∉ (D.sl wid wT (wx.map cI)).ids:=fun h=>by
      rcases aK.1 (show gr ∈ (dSl cI (⟨wid,wT,wx⟩ : Sl Int)).ids from h) with h | h
      ·have:=(hrid gr h).1; omega
      ·simp at h
     have f0 : gr ∉ idsLL [[D.sl wid wT (wx.map cI)]]:=fun h=>hw0 (by simpa [idsLL,idsL] using h)
     have kr : ∀ i,i ≠ gr -> kphi (some gr) i = none:=fun i hi=>by simp only [kphi]; rw [if_neg (by simpa using Ne.symm hi)]
     have c1' : reV (kphi (some gr)) (.d (.sl b.id b.T (b.xs.map cW))) = .d (.sl b.id b.T (b.xs.map cW)):=dd _ (fun j hj=>kr j fun e=>by
      have:=hB j (.inr (by simpa [curD] using hj))
      omega) (by simp [gC])
     have eR : reLL (kphi (some gr)) (rx.map (cS cI) ++ [[D.sl wid wT (wx.map cI)]]) = some (rx.map (cS cI) ++ [[D.sl wid wT (wx.map cI)]]):=by
      have e : rx.map (cS cI) ++ [[D.sl wid wT (wx.map cI)]] = (rx ++ [(⟨wid,wT,wx⟩ : Sl Int)]).map (cS cI):=by simp [cS,dSl]
      rw [e]
      refine kK _ (ht:=tkLL_map _ (by simp)) fun k hk=>kr k fun e=>?_
      rw [Zj,cm] at hk
      rcases Qq.1 hk with h | h
      ·exact f1 (e ▸ h)
      ·exact f0 (e ▸ h)
     have L1 : LenOk 24 (rx.length + 1):=⟨by omega,by simp only [maxLen]; omega⟩
     simp [aA,curD,cS,St.kill,hrB,f0,f1,L1,eR,c1',bt,Jj]
     intro γ hs' h1 hg
     obtain ⟨q1,q2⟩:=bz hg (k:=29) (T:=28) (sz:=1) (es:=rx.map (cS cI) ++ [[D.sl wid wT (wx.map cI)]]) (by simp)
     clear hg
     exact ⟨⟨c3,⟨ya,⟨γ 29,some (28,1),rx ++ [(⟨wid,wT,wx⟩ : Sl Int)]⟩⟩,by simp [aA,cS,Jj],⟨⟨⟨by simp; omega,fun r hr=>by
      rcases Qq.1 hr with hr | hr
      ·have:=hr5 r hr; omega
      ·rw [Qg.1 hr]; simp only; omega,by simp only; omega⟩,by have:=dm6.1; simp; omega,fun r hr=>by
      rcases Qq.1 hr with hr | hr
      ·exact dm6.2 r hr
      ·rw [Qg.1 hr]; exact hrg⟩,fun g hg=>by
      rcases fX.1 hg with h | h
      ·exact (q1 g h).1
      ·simp only [Zj,cm] at h
       rcases Qq.1 h with h | h
       ·exact hlo ya g (fX.2 (.inr h))
       ·rcases aK.1 (show g ∈ (dSl cI (⟨wid,wT,wx⟩ : Sl Int)).ids by simpa [idsLL,bc] using h) with h | h
        ·have:=(hrid g h).1; omega
        ·simp at h⟩,⟨trivial,⟨by simp only [maxLen,Qw,Qv,List.length_nil]; omega,fun r hr=>by
      rcases Qq.1 hr with hr | hr
      ·exact ky1.2.2 r hr
      ·rw [Qg.1 hr]; exact ⟨by simp only [maxLen]; omega,fun _ _=>trivial⟩⟩⟩,by simp [curD],o3⟩⟩
 by_cases e2 : u = 2
 ·subst e2
  by_cases hrx : rx = []
  ·subst hrx
   simp [aA,curD,cS,bt]
   intro γ hs' h1 hg
   clear hg
   exact ⟨⟨c2,⟨ya,⟨rid,rT,[]⟩⟩,by simp [aA,cS],⟨fin,hlo ya⟩,ky1,by simp [curD],o2⟩⟩
  obtain ⟨w0,rx',rfl⟩:=List.exists_cons_of_ne_nil hrx
  by_cases hya : 0 < ya
  ·obtain ⟨wid,wT,wx⟩:=w0
   have hwl : (wx.length : Int) = ya:=hr5 (⟨wid,wT,wx⟩ : Sl Int) (by simp)
   have hw0 : 0 < wx.length:=by omega
   obtain ⟨g0,hg0,T',hT'⟩:=(Sl.wh.id (s:=(⟨wid,wT,wx⟩ : Sl Int)) (Gy1.wh.2.2 (⟨wid,wT,wx⟩ : Sl Int) (by simp)).1 hw0)
   simp only at hg0 hT'
   subst hg0 hT'
   have G0:=Gy1.nd
   simp only [aA,cM,bc] at G0
   have hin : g0 ∈ idsLL (((⟨some g0,some T',wx⟩ : Sl Int) :: rx').map (cS cI)):=by
    simp only [Qz,idsLL,bc,Qq]
    exact .inl (iU (s:=(⟨some g0,some T',wx⟩ : Sl Int)) rfl)
   have hgB : B <= g0:=by
    have:=Gy1.lo g0 (by simp only [aA,cM,bc,dSl,D.ids,Qq]; exact .inr (.inr hin))
    omega
   have G1:=(List.nodup_append.1 G0).2.1
   simp only [dSl,D.ids] at G1
   have hout : ∀ g,rid = some g -> g ≠ g0:=fun g h e=>by
    subst h e
    exact (List.nodup_cons.1 G1).1 hin
   have G2:=(List.nodup_append.1 G1).2.1
   have hrest : g0 ∉ idsLL (rx'.map (cS cI)):=fun h=>by
    simp only [Qz,idsLL,bc] at G2
    exact (List.nodup_append.1 G2).2.2 g0 (iU (s:=(⟨some g0,some T',wx⟩ : Sl Int)) rfl) g0 h rfl
   have e3 : ∀ d,reV (one g0 d) (.d (.sl b.id b.T (b.xs.map cW))) = .d (.sl b.id b.T (b.xs.map cW)):=fun d=>dd _ (fun j hj=>bU fun e=>by
    have:=hB j (.inr (by simpa [curD] using hj))
    omega) (by simp [gC])
   have eLL : ∀ d,reLL (one g0 d) (rx'.map (cS cI)) = some (rx'.map (cS cI)):=fun d=>kK _ (ht:=tkLL_map _ (by simp)) fun j hj=>bU fun e=>hrest (e ▸ hj)
   have e4 : ∀ v,reV (one g0 (.sl (some g0) (some T') ((wx.map cI).set 0 [.int .i64 v]))) (.d (.sl rid rT ([.sl (some g0) (some T') (wx.map cI)] :: rx'.map (cS cI)))) = .d (.sl rid rT ([.sl (some g0) (some T') ((wx.map cI).set 0 [.int .i64 v])] :: rx'.map (cS cI))):=fun v=>by
    have h1 : reD (one g0 (.sl (some g0) (some T') ((wx.map cI).set 0 [.int .i64 v]))) (.sl (some g0) (some T') (wx.map cI)) = some (.sl (some g0) (some T') ((wx.map cI).set 0 [.int .i64 v])):=by
     simp only [reD,one,if_true]
     rw [if_pos]
     refine ⟨trivial,rfl,trivial,?_⟩
     refine List.ext_getElem (by simp) fun n h1 h2=>?_
     simp only [List.getElem_map]
     by_cases hn : 0 = n
     ·subst hn; simp
     ·rw [List.getElem_set_ne hn,List.getElem_map]
    have h2 : reLL (one g0 (.sl (some g0) (some T') ((wx.map cI).set 0 [.int .i64 v]))) ([.sl (some g0) (some T') (wx.map cI)] :: rx'.map (cS cI)) = some ([.sl (some g0) (some T') ((wx.map cI).set 0 [.int .i64 v])] :: rx'.map (cS cI)):=by
     simp only [reLL,reL,h1,eLL]
    cases rid with
    | none=>simp only [reV,reD,h2,Jg]
    | some gr=>simp only [reV,reD,bU (hout gr rfl),h2,Jg]
   simp [aA,curD,cS,hya]
   repeat' apply And.intro
   all_goals
    refine di c2 E121 (ca b c2 [-1,100,99] hb o2 (by simp) (by simp)) (by simp) (by simp [curD]) (by simp) fun r3 c3 hs3 hh3 hq3 hl3 o3=>?_
    obtain ⟨v,rfl,hv⟩:=hq3
    simp [aA,curD,cS,hya,hw0]
    refine ⟨hgB,?_⟩
    simp [-List.map_set,cS,e3,e4,bt]
    intro γ hs' h1 hg
    clear hg
    have hidI : ∀ L : List Int,idsLL (L.map cI) = []:=fun L=>by simp
    have e5 : (List.map cI wx).set 0 [D.int .i64 v] = List.map cI (wx.set 0 v):=by rw [<- mH]; rfl
    exact ⟨⟨c3,⟨ya,⟨rid,rT,(⟨some g0,some T',wx.set 0 v⟩ : Sl Int) :: rx'⟩⟩,by rw [e5]; simp [aA,cS],⟨⟨⟨fin.1.1,fun r hr=>by
     rcases Zz.1 hr with hr | hr
     ·rw [hr]; simp; omega
     ·exact fin.1.2.1 r (List.mem_cons_of_mem _ hr),fin.1.2.2⟩,fin.2.1,fun r hr=>by
     rcases Zz.1 hr with hr | hr
     ·rw [hr]; exact fun u hu=>(List.mem_or_eq_of_mem_set hu).elim (dm6.2 (⟨some g0,some T',wx⟩ : Sl Int) (by simp) u) fun e=>by
       rw [e]
       simp only [Zz,List.not_mem_nil,or_false] at hv
       simp only [xI]; omega
     ·exact dm6.2 r (List.mem_cons_of_mem _ hr)⟩,fun g hg=>hlo ya g (by
     refine fX.2 ?_
     have h:=fX.1 hg
     simp only [Qz,idsLL,bc,Qq,aK] at h ⊢
     rcases h with h | (h | h) | h
     ·exact .inl h
     ·exact .inr (.inl (.inl h))
     ·rw [hidI] at h; simp at h
     ·exact .inr (.inr h))⟩,⟨trivial,⟨ky1.2.1,fun r hr=>by
     rcases Zz.1 hr with hr | hr
     ·rw [hr]; exact ⟨by simp [maxLen]; omega,fun _ _=>trivial⟩
     ·exact ky1.2.2 r (List.mem_cons_of_mem _ hr)⟩⟩,by simp [curD],o3⟩⟩
  ·simp [aA,curD,cS,hya,bt]
   intro γ hs' h1 hg
   clear hg
   exact ⟨⟨c2,⟨ya,⟨rid,rT,w0 :: rx'⟩⟩,by simp [aA,cS],⟨fin,hlo ya⟩,ky1,by simp [curD],o2⟩⟩
 simp [aA,curD,cS,bt,e0,e1,e2]
 intro γ hs' h1 hg
 clear hg
 exact ⟨⟨c2,⟨ya,⟨rid,rT,rx⟩⟩,by simp [aA,cS],⟨fin,hlo ya⟩,ky1,by simp [curD],o2⟩⟩
end
end
section
open Go.Vs Go.Proofs Go
set_option maxRecDepth 100000
set_option maxHeartbeats 1000000
def bdT (y : Tab) : Prop:=y.name.length <= 10 /\ bdR y.rel /\ dmA y.rel
def bdD (z : Db) : Prop:=z.tabs.xs.length <= 10 /\ ∀ t ∈ z.tabs.xs,bdT t
structure DbC (t1 : Nat) (b : Sl Int) (n : Nat) (r : V) (cs : List V) : Prop where
 ex : ∃ (c' : Nat × Int) (z : Db),r = .agg ((cDb z).map V.d) /\ bdD z /\ okDb z /\ (z.tabs.xs.length = 5 /\ ∃ g,z.tabs.id = some g /\ n <= g /\ z.tabs.T = some (t1,3) /\ g ∉ idsLL (z.tabs.xs.map cTab)) /\ cs = (curD b c').map V.d /\ curO b c'
theorem xl {P : Program} {t1 : Nat} {E : Md} {args : List Operand} {f : FuncId} {rest As : List V} {k : Nat} {dst : Option Tmp} {K : St -> Prop} {σ : St} {b : Sl Int} (c : Nat × Int) (hE : E f = true)
  (hc : VX P f [] (.ptr 1000 0 0 :: As) (some ((curD b c).map V.d)) (fun n r cs _=>DbC t1 b n r cs)) (hvs : args.map σ.ev = .ptr k 0 0 :: rest) (hm : σ.m k = some (.box ((curD b c).map V.d)))
  (hr : rpL σ.m rest = some As) (hk : keysVL rest = [])
  (hK : ∀ (xs : List Tab) (g : Nat) c' n hs',σ.hs <= n -> n <= hs' -> bdD ⟨⟨some g,some (t1,3),xs⟩⟩ -> okDb ⟨⟨some g,some (t1,3),xs⟩⟩ -> xs.length = 5 -> n <= g -> g < hs' -> g ∉ idsLL (xs.map cTab) -> curO b c' -> K ({ σ with hs:=hs',m:=upd σ.m k (some (.box ((curD b c').map V.d))) }.put dst (.agg ((cDb ⟨⟨some g,some (t1,3),xs⟩⟩).map V.d)))) : b9 P E f args (.ptr k 0 0 :: rest) dst K σ:=by
 refine l3 hE hvs hm hr (by simp [curD,dSl]) hc fun r cs' ws n hs' h1 h2 h3 h4 h5 h9=>?_
 obtain ⟨c',⟨⟨id,T,xs⟩⟩,rfl,h6,h7,⟨hl,g,rfl,hg1,rfl,hg2⟩,rfl,ho⟩:=h3.ex
 have : keysVL rest ++ keysVL ((curD b c).map V.d) = []:=by rw [hk]; simp [curD]
 rw [this]
 exact hK xs g c' n hs' h1 h2 h6 h7 hl hg1 (h9 g (by rw [mg,cDb,bc]; exact iU (s:=(⟨some g,some (t1,3),xs⟩ : Sl Tab)) rfl)) hg2 ho
def nms : List (List UInt8):=[[114],[115],[116],[117],[118]]
theorem mq : nms.length = 5:=rfl
theorem xX : ∀ s ∈ nms,s.length <= 10:=by decide
section
attribute [local simp] pS dSl cP cI cW
theorem oa (b : Sl Int) (c : Nat × Int) (hb : b.xs.length <= 1048576) (hc : curO b c) : VX Tryz.prog 87 [] [.ptr 1000 0 0] (some ((curD b c).map V.d)) (fun n r cs _=>DbC 120 b n r cs):=by
 refine VX.of E s87 Tryz.func87 ?_ ?_ fun B hB=>?_
 ·simp
 ·rintro cs h
  cases h
  simp [curD]
 simp [Tryz.f87,curD]
 refine di c E121 (ca b c [2,3,4,6] hb hc (by simp) (by simp)) (by simp) (by simp [curD]) (by simp) fun r0 c0 hs0 hh0 hq0 hl0 o0=>?_
 obtain ⟨vv,rfl,hvv⟩:=hq0
 simp only [Zz,List.not_mem_nil,or_false] at hvv
 simp [curD]
 refine aE (X:=Nat × (Nat × Int) × List Tab) (fun p _=>p.1 <= 5 /\ p.2.2.length = p.1 /\ curO b p.2.1 /\ ∀ y ∈ p.2.2,xZ y /\ bdT y) (fun p=>[(0,.ptr 1000 0 0),(2,.ptr 2 0 0),(3,.d (.int .i64 vv)),(4,.ptr 4 0 0),(13,.own 13 0 5),(14,.d (.int .i64 5)),(15,.d (.int .i64 p.1))])
  (fun p=>[(1000,some (.box ((curD b p.2.1).map V.d))),(2,some (.box [.d (.sl none none [])])),(4,some (.box [.own 34 0 p.2.2.length])),(13,some (.row 9 1 (nms.map cStr))),(34,some (.row 120 3 (p.2.2.map cTab)))]) (fun p=>5 - p.1) ?_ ?_
 ·refine (cz 4 0 34 120 3 [.d (.sl none none [])] (by omega) (by omega) (by omega) (by simp) rfl).bind ?_
  rintro _ rfl
  exact Lead.of ⟨(0,c0,[]),⟨by omega,rfl,o0,by simp⟩,rfl,rfl,Jv _,by simp,by simp [curD,nms,cStr]⟩
 rintro ⟨i,c1,ys⟩ hs t m ⟨hi,hyl,ho,hy⟩ hh
 simp only at hi hyl ho hy
 by_cases hlt : i < 5
 ·have hwi:=wr1 (i:=i) (by omega)
  have hin : i < nms.length:=by rw [mq]; exact hlt
  obtain ⟨nm,hnm⟩ : ∃ nm,nm = nms[i]:=⟨_,rfl⟩
  have hnl:=xX _ (Jy hin)
  rw [<- hnm] at hnl
  have hL : LenOk 48 (ys.length + 1):=⟨by omega,by simp only [maxLen]; omega⟩
  refine dx fun Q=>?_
  have hlz : (i : Int) < 5:=by omega
  by_cases hv : nm = [118]
  ·simp [hlt,hlz,hin,<- hnm,hv,curD,cStr,mq]
   refine di c1 E121 (ca b c1 [3,6,9] hb ho (by simp) (by simp)) (by simp) (by simp [curD]) (by simp) fun r1 c2 hs1 hh1 hq1 hl1 o1=>?_
   obtain ⟨w,rfl,hw⟩:=hq1
   simp only [Zz,List.not_mem_nil,or_false] at hw
   have hh1' : hs <= hs1:=hh1
   simp [curD,cStr]
   refine oW c2 E122 (jv b c2 3 w vv hb o1 (by omega) (by omega) (by omega)) (by simp) (by simp [curD]) (by simp) (by simp) fun y c3 n3 hs3 hn3 hm3 hy3 ly3 ky3 Ty3 Gy3 Iy3 o3=>?_
   obtain ⟨ya,⟨rid,rT,rx⟩⟩:=y
   have hn3' : hs1 <= n3:=hn3
   have hrow:=gR hy3
   have hr5 : ∀ r ∈ rx,r.xs.length <= 2000:=fun r hr=>by
    have:=hrow (plS plI r) (by simp only [aV,plS]; exact Xz.2 ⟨r,hr,rfl⟩)
    simp only [plS,List.length_map] at this; omega
   simp only at ly3
   have fin : bdR ⟨ya,⟨rid,rT,rx⟩⟩:=⟨by simp only; omega,hr5,by simp only; omega⟩
   simp [hL,hwi,aA,cTab,cS,curD,cStr,Jj]
   refine bg (i + 1,c3,ys ++ [(⟨nm,⟨ya,⟨rid,rT,rx⟩⟩⟩ : Tab)]) ⟨by simp only; omega,by simp [hyl],o3,fun z hz=>?_⟩ (by simp only; omega) rfl (by simp <;> omega) (by simp) (by simp [curD,cTab,cStr,aA,cS,hv])
   rcases Qq.1 hz with hz | hz
   ·exact hy z hz
   ·rw [Qg.1 hz]
    exact ⟨⟨show nm.length <= maxLen by simp only [maxLen]; omega,ky3⟩,hnl,fin,vV ly3.2 (by omega) (by omega)⟩
  ·simp [hlt,hlz,hin,<- hnm,hv,curD,cStr,mq]
   refine di c1 E121 (ca b c1 [3,6,9] hb ho (by simp) (by simp)) (by simp) (by simp [curD]) (by simp) fun r1 c2 hs1 hh1 hq1 hl1 o1=>?_
   obtain ⟨w,rfl,hw⟩:=hq1
   simp only [Zz,List.not_mem_nil,or_false] at hw
   have hh1' : hs <= hs1:=hh1
   simp [curD,cStr]
   refine oW c2 E122 (jv b c2 2 w vv hb o1 (by omega) (by omega) (by omega)) (by simp) (by simp [curD]) (by simp) (by simp) fun y c3 n3 hs3 hn3 hm3 hy3 ly3 ky3 Ty3 Gy3 Iy3 o3=>?_
   obtain ⟨ya,⟨rid,rT,rx⟩⟩:=y
   have hn3' : hs1 <= n3:=hn3
   have hrow:=gR hy3
   have hr5 : ∀ r ∈ rx,r.xs.length <= 2000:=fun r hr=>by
    have:=hrow (plS plI r) (by simp only [aV,plS]; exact Xz.2 ⟨r,hr,rfl⟩)
    simp only [plS,List.length_map] at this; omega
   simp only at ly3
   have fin : bdR ⟨ya,⟨rid,rT,rx⟩⟩:=⟨by simp only; omega,hr5,by simp only; omega⟩
   simp [hL,hwi,aA,cTab,cS,curD,cStr,Jj]
   refine bg (i + 1,c3,ys ++ [(⟨nm,⟨ya,⟨rid,rT,rx⟩⟩⟩ : Tab)]) ⟨by simp only; omega,by simp [hyl],o3,fun z hz=>?_⟩ (by simp only; omega) rfl (by simp <;> omega) (by simp) (by simp [curD,cTab,cStr,aA,cS,hv])
   rcases Qq.1 hz with hz | hz
   ·exact hy z hz
   ·rw [Qg.1 hz]
    exact ⟨⟨show nm.length <= maxLen by simp only [maxLen]; omega,ky3⟩,hnl,fin,vV ly3.2 (by omega) (by omega)⟩
 ·have hlz : ¬ (i : Int) < 5:=by omega
  have hlz' : (5 : Int) <= i:=by omega
  simp [hlt,hlz,hlz',curD]
  refine aW c1 E53 (fx b c1 8 hb ho (by omega)) (by simp) (by simp [curD]) (by simp) (by simp) fun r4 c4 hs4 hh4 hq4 hl4 o4=>?_
  obtain ⟨u,rfl⟩:=hq4
  have hp : hpLL (ys.map cTab) = false:=dg (fun a=>by simp) ys
  have hy5 : ys.length = 5:=by omega
  have hyn : ys ≠ []:=fun h=>by rw [h] at hy5; simp at hy5
  cases u
  ·simp [curD,bt,hp,Jj]
   intro γ hs' h1 hg
   obtain ⟨q1,q2⟩:=bz hg (k:=34) (T:=120) (sz:=3) (es:=ys.map cTab) (by simp)
   have q3:=ea hg (k:=34) (T:=120) (sz:=3) (es:=ys.map cTab) (by simp)
   clear hg
   obtain ⟨g,hg⟩:=Option.ne_none_iff_exists'.1 (q2 (by simpa using hyn))
   exact ⟨⟨c4,⟨⟨γ 34,some (120,3),ys⟩⟩,by simp [cDb,cS,Jj],⟨by simp only; omega,fun t ht=>(hy t ht).2⟩,⟨by simp only [maxLen]; show ys.length <= _; omega,fun t ht=>(hy t ht).1⟩,⟨hy5,g,hg,(q1 g hg).1,rfl,q3 g hg⟩,by simp [curD],o4⟩⟩
  ·simp [curD]
   repeat' apply And.intro
   all_goals
    refine aW c4 E89 (aD b c4 5 hb o4 (by omega)) (by simp) (by simp [curD]) (by simp) (by simp) fun r5 c5 hs5 hh5 hq5 hl5 o5=>?_
    obtain ⟨x,rfl,x0,x1,_⟩:=hq5
    have x1:=x1 (by omega)
    obtain ⟨k,rfl⟩ : ∃ k : Nat,x = k:=⟨x.toNat,by omega⟩
    have hk : k < ys.length:=by omega
    obtain ⟨tk,htk⟩ : ∃ tk,tk = ys[k]:=⟨_,rfl⟩
    obtain ⟨nm,⟨ta,tr⟩⟩:=tk
    have hl3 : (cTab ys[k]).length = 3:=by rw [<- htk]; simp [cTab,cStr,aA,cS]
    have eSet : (ys.map cTab).set k ((cTab ys[k]).take 2 ++ D.sl none none [] :: (cTab ys[k]).drop 3) = (ys.set k (⟨nm,⟨ta,nilS⟩⟩ : Tab)).map cTab:=by
     rw [List.map_set]
     congr 1
     rw [<- htk]
     simp [cTab,cStr,aA,cS,nilS]
    obtain ⟨zs,hzs⟩ : ∃ zs,zs = ys.set k (⟨nm,⟨ta,nilS⟩⟩ : Tab):=⟨_,rfl⟩
    rw [<- hzs] at eSet
    have hp' : hpLL (zs.map cTab) = false:=dg (fun a=>by simp) zs
    have hz5 : zs.length = ys.length:=by rw [hzs]; simp
    have hzn : zs ≠ []:=fun h=>by rw [h] at hz5; simp at hz5; omega
    have hyk:=hy ys[k] (Jy hk)
    have hz : ∀ z ∈ zs,xZ z /\ bdT z:=fun z hz=>by
     rw [hzs] at hz
     rcases List.mem_or_eq_of_mem_set hz with hz | hz
     ·exact hy z hz
     ·rw [hz]
      rw [<- htk] at hyk
      exact ⟨⟨hyk.1.1,⟨trivial,ch⟩⟩,hyk.2.1,⟨by simp [nilS],by simp [nilS],hyk.2.2.1.2.2⟩,by simp [nilS],by simp [nilS]⟩
    simp [-List.map_set,curD,hk,hl3,eSet,hp',hz5,bt,Jj]
    intro γ hs' h1 hg
    obtain ⟨q1,q2⟩:=bz hg (k:=34) (T:=120) (sz:=3) (es:=zs.map cTab) (by simp)
    have q3:=ea hg (k:=34) (T:=120) (sz:=3) (es:=zs.map cTab) (by simp)
    clear hg
    obtain ⟨g,hg⟩:=Option.ne_none_iff_exists'.1 (q2 (by simpa using hzn))
    exact ⟨⟨c5,⟨⟨γ 34,some (120,3),zs⟩⟩,by simp [cDb,cS,Jj,hz5],⟨by simp only; omega,fun t ht=>(hz t ht).2⟩,⟨by simp only [maxLen]; show zs.length <= _; omega,fun t ht=>(hz t ht).1⟩,⟨by simp only; omega,g,hg,(q1 g hg).1,rfl,q3 g hg⟩,by simp [curD],o5⟩⟩
end
end
section
open Go.Vs Go.Proofs Go
set_option maxRecDepth 100000
set_option maxHeartbeats 1000000
structure DbA (b : Sl Int) (r : V) (cs : List V) : Prop where
 ex : ∃ (c' : Nat × Int) (z : Db),r = .agg ((cDb z).map V.d) /\ bdD z /\ okDb z /\ cs = (curD b c').map V.d /\ curO b c'
theorem AN {P : Program} {E : Md} {args : List Operand} {f : FuncId} {rest As : List V} {k : Nat} {dst : Option Tmp} {K : St -> Prop} {σ : St} {b : Sl Int} (c : Nat × Int) (hE : E f = true)
  (hc : VX P f [] (.ptr 1000 0 0 :: As) (some ((curD b c).map V.d)) (fun _ r cs _=>DbA b r cs)) (hvs : args.map σ.ev = .ptr k 0 0 :: rest) (hm : σ.m k = some (.box ((curD b c).map V.d)))
  (hr : rpL σ.m rest = some As) (hk : keysVL rest = [])
  (hK : ∀ (z : Db) c' hs',σ.hs <= hs' -> bdD z -> okDb z -> curO b c' -> K ({ σ with hs:=hs',m:=upd σ.m k (some (.box ((curD b c').map V.d))) }.put dst (.agg ((cDb z).map V.d)))) : b9 P E f args (.ptr k 0 0 :: rest) dst K σ:=by
 refine l4 hE hvs hm hr (by simp [curD,dSl]) hc fun r cs' ws n hs' h1 h2 h3 h4 h5=>?_
 obtain ⟨c',y,rfl,h6,h7,rfl,ho⟩:=h3.ex
 have : keysVL rest ++ keysVL ((curD b c).map V.d) = []:=by rw [hk]; simp [curD]
 rw [this]
 exact hK y c' hs' (Zy h1 h2) h6 h7 ho
theorem oS (t : Tab) : (cTab t).length = 3:=by simp [cTab,cStr,aA,cS,cI]
theorem yi {g : Nat} {T : TypeId × Nat} {xs ys : List Tab} (h : ys.length = xs.length) : reV (one g (.sl (some g) (some T) (ys.map cTab))) (.d (.sl (some g) (some T) (xs.map cTab))) = .d (.sl (some g) (some T) (ys.map cTab)):=by
 have h1 : reD (one g (.sl (some g) (some T) (ys.map cTab))) (.sl (some g) (some T) (xs.map cTab)) = some (.sl (some g) (some T) (ys.map cTab)):=by
  simp only [reD,one,if_true]
  rw [if_pos]
  refine ⟨trivial,rfl,trivial,?_⟩
  refine List.ext_getElem (by simp [h]) fun n h1 h2=>?_
  simp only [List.getElem_map,oS]
 simp only [reV,h1]
section
attribute [local simp] pS dSl cP cI cW
theorem tc (b : Sl Int) (c : Nat × Int) (hb : b.xs.length <= 1048576) (hc : curO b c) : VX Tryz.prog 90 [] [.ptr 1000 0 0] (some ((curD b c).map V.d)) (fun _ r cs _=>DbA b r cs):=by
 refine VX.of E s90 Tryz.func90 ?_ ?_ fun B hB=>?_
 ·simp
 ·rintro cs h
  cases h
  simp [curD]
 simp [Tryz.f90,curD]
 refine xl c E87 (oa b c hb hc) (by simp) (by simp [curD]) (by simp) (by simp) fun xs g c0 n0 hs0 hn0 hm0 bd0 ok0 len0 hgn hgs hgx o0=>?_
 have hgB : B <= g:=by simp at hn0; omega
 have e3 : ∀ d,reV (one g d) (.d (.sl b.id b.T (b.xs.map cW))) = .d (.sl b.id b.T (b.xs.map cW)):=fun d=>dd _ (fun j hj=>bU fun e=>by
  have:=hB j (.inr (by simpa [curD] using hj))
  omega) (by simp [gC])
 have c1' : reV (kphi (some g)) (.d (.sl b.id b.T (b.xs.map cW))) = .d (.sl b.id b.T (b.xs.map cW)):=dd _ (fun j hj=>by
  have:=hB j (.inr (by simpa [curD] using hj))
  simp only [kphi]; rw [if_neg (by simp; omega)]) (by simp [gC])
 simp [cDb,cS,curD]
 refine aW c0 E89 (aD b c0 5 hb o0 (by omega)) (by simp) (by simp [curD]) (by simp) (by simp) fun r1 c1 hs1 hh1 hq1 hl1 o1=>?_
 obtain ⟨x,rfl,x0,x1,_⟩:=hq1
 have x1:=x1 (by omega)
 obtain ⟨k,rfl⟩ : ∃ k : Nat,x = k:=⟨x.toNat,by omega⟩
 have hk : k < xs.length:=by omega
 simp [cDb,cS,curD]
 refine aW c1 E89 (aD b c1 14 hb o1 (by omega)) (by simp) (by simp [curD]) (by simp) (by simp) fun r2 c2 hs2 hh2 hq2 hl2 o2=>?_
 obtain ⟨u,rfl,u0,u1,_⟩:=hq2
 refine kD [(0,.ptr 1000 0 0),(2,.ptr 2 0 0),(3,.ptr 3 0 0),(4,.d (.int .i64 k)),(10,.d (.int .i64 u))] [(1000,some (.box ((curD b c2).map V.d))),(2,some (.box [.d (.sl none none [])])),(3,some (.box ((cDb ⟨⟨some g,some (120,3),xs⟩⟩).map V.d)))] (by simp) (by simp [curD,cDb,cS]) fun t m=>?_
 obtain ⟨tk,htk⟩ : ∃ tk,tk = xs[k]:=⟨_,rfl⟩
 obtain ⟨nm,⟨ta,tr⟩⟩:=tk
 have hc3 : (cTab xs[k]).length = 3:=by rw [<- htk]; simp [cTab,cStr,aA,cS]
 have bdk:=bd0.2 xs[k] (Jy hk)
 have okk:=ok0.2 xs[k] (Jy hk)
 rw [<- htk] at bdk okk
 have wit : ∀ (t' : Tab),(cTab t').length = 3:=fun t'=>by simp [cTab,cStr,aA,cS]
 have fin : ∀ (t' : Tab) ,xZ t' -> bdT t' -> bdD ⟨⟨some g,some (120,3),xs.set k t'⟩⟩ /\ okDb ⟨⟨some g,some (120,3),xs.set k t'⟩⟩:=fun t' h1 h2=>by
  refine ⟨⟨by simp only [List.length_set]; omega,fun t ht=>?_⟩,⟨by simp only [List.length_set,maxLen]; omega,fun t ht=>?_⟩⟩
  ·rcases List.mem_or_eq_of_mem_set ht with ht | ht
   ·exact bd0.2 t ht
   ·rw [ht]; exact h2
  ·rcases List.mem_or_eq_of_mem_set ht with ht | ht
   ·exact ok0.2 t ht
   ·rw [ht]; exact h1
 have eS : ∀ t' : Tab,(xs.map cTab).set k (cTab t') = (xs.set k t').map cTab:=fun t'=>by rw [List.map_set]
 by_cases e0 : u = 0
 ·subst e0
  simp [cDb,cS,curD,hk]
  repeat' apply And.intro
  all_goals
   refine di c2 E123 (iH b c2 [[],[82],[97,98,99,100,101],[97],[122]] hb o2 (by simp) (by simp)) (by simp) (by simp [curD]) (by simp [cStr]) fun r3 c3 hs3 hh3 hq3 hl3 o3=>?_
   obtain ⟨v,rfl,hv⟩:=hq3
   have hvl : v.length <= 10:=by
    have : ∀ x ∈ ([[],[82],[97,98,99,100,101],[97],[122]] : List (List UInt8)),x.length <= 10:=by decide
    exact this v hv
   have eT : D.str v :: (cTab xs[k]).tail = cTab ⟨v,⟨ta,tr⟩⟩:=by rw [<- htk]; simp [cTab,cStr]
   have eR:=yi (g:=g) (T:=(120,3)) (xs:=xs) (ys:=xs.set k ⟨v,⟨ta,tr⟩⟩) (by simp)
   simp [-List.map_set,cDb,cS,curD,hk,hc3,hgB,hgx,eT,eS,eR,e3,bt]
   intro γ hs' h1 hg
   clear hg
   have hf:=fin ⟨v,⟨ta,tr⟩⟩ ⟨show v.length <= maxLen by simp only [maxLen]; omega,okk.2⟩ ⟨hvl,bdk.2⟩
   exact ⟨⟨c3,⟨⟨some g,some (120,3),xs.set k ⟨v,⟨ta,tr⟩⟩⟩⟩,by simp [-List.map_set,cDb,cS],hf.1,hf.2,by simp [curD],o3⟩⟩
 by_cases e1 : u = 1
 ·subst e1
  simp [cDb,cS,curD,hk]
  repeat' apply And.intro
  all_goals
   refine yV c2 E125 (tb b c2 hb o2) (by simp) (by simp [curD]) (by simp) (by simp) fun y c3 n3 hs3 hn3 hm3 bdy idy oky o3=>?_
   obtain ⟨ya,yr⟩:=y
   have hsn : hs2 <= n3:=hn3
   have hgs2 : g < n3:=by
    have h1 : hs0 <= hs1:=by simpa using hh1
    have h2 : hs1 <= hs2:=by simpa using hh2
    omega
   have hgy1 : ¬ yr.id = some g:=fun h=>by have:=idy g (fX.2 (.inl h)); omega
   have hgy2 : g ∉ idsLL (yr.xs.map (cS cI)):=fun h=>by have:=idy g (fX.2 (.inr h)); omega
   have eT : (cTab xs[k]).take 1 ++ D.int .i64 ya :: D.sl yr.id yr.T (yr.xs.map (cS cI)) :: (cTab xs[k]).drop 3 = cTab ⟨nm,⟨ya,yr⟩⟩:=by rw [<- htk]; simp [cTab,cStr,aA,cS]
   have eR:=yi (g:=g) (T:=(120,3)) (xs:=xs) (ys:=xs.set k ⟨nm,⟨ya,yr⟩⟩) (by simp)
   simp [-List.map_set,aA,cDb,cS,curD,hk,hc3,hgB,hgx,hgy1,hgy2,eT,eS,eR,e3,bt]
   intro γ hs' h1 hg
   clear hg
   have hf:=fin ⟨nm,⟨ya,yr⟩⟩ ⟨okk.1,oky⟩ ⟨bdk.1,bdy⟩
   exact ⟨⟨c3,⟨⟨some g,some (120,3),xs.set k ⟨nm,⟨ya,yr⟩⟩⟩⟩,by simp [-List.map_set,cDb,cS],hf.1,hf.2,by simp [curD],o3⟩⟩
 by_cases e2 : u = 2
 ·subst e2
  have L1 : LenOk 48 (xs.length + 1):=⟨by omega,by simp only [maxLen]; omega⟩
  have hxk : xs[k] = ⟨nm,⟨ta,tr⟩⟩:=htk.symm
  have hsub : ∀ j,j ∈ idsL (cTab xs[k]) -> j ∈ idsLL (xs.map cTab):=fun j hj=>by
   have e : xs = xs.take k ++ xs[k] :: xs.drop (k + 1):=by rw [<- List.drop_eq_getElem_cons hk,List.take_append_drop]
   rw [e,Zj,cm,Qz]
   simp only [idsLL,Qq]
   exact .inr (.inl hj)
  have f0 : g ∉ idsLL [cTab xs[k]]:=fun h=>hgx (hsub g (by simpa only [idsLL,List.append_nil] using h))
  rw [hxk] at f0
  have hp0 : hpLL (xs.map cTab) = false:=dg (fun a=>by simp) xs
  have eR : reLL (kphi (some g)) (xs.map cTab ++ [cTab ⟨nm,⟨ta,tr⟩⟩]) = some (xs.map cTab ++ [cTab ⟨nm,⟨ta,tr⟩⟩]):=by
   have e : xs.map cTab ++ [cTab ⟨nm,⟨ta,tr⟩⟩] = (xs ++ [(⟨nm,⟨ta,tr⟩⟩ : Tab)]).map cTab:=by simp
   rw [e]
   refine kK _ (ht:=tkLL_map _ (by simp)) fun j hj=>?_
   have hne : j ≠ g:=fun e=>by
    rw [Zj,cm] at hj
    rcases Qq.1 hj with h | h
    ·exact hgx (e ▸ h)
    ·exact f0 (e ▸ h)
   simp only [kphi]; rw [if_neg (by simpa using Ne.symm hne)]
  have hcT : cTab ⟨nm,⟨ta,tr⟩⟩ = [.str nm,.int .i64 ta,.sl tr.id tr.T (tr.xs.map (cS cI))]:=by simp [cTab,cStr,aA,cS]
  rw [hcT] at f0 eR
  simp [cDb,cS,curD,hk,hxk,hcT,St.kill,hgB,hgx,f0,L1,eR,c1',bt,Jj]
  refine ⟨fun a _=>oS a,fun γ hs' h1 hg=>?_⟩
  clear hg
  exact ⟨⟨c2,⟨⟨γ 40,some (120,3),xs ++ [(⟨nm,⟨ta,tr⟩⟩ : Tab)]⟩⟩,by simp [cDb,cS,hcT],⟨by simp; omega,fun t ht=>by
   rcases Qq.1 ht with ht | ht
   ·exact bd0.2 t ht
   ·rw [Qg.1 ht]; exact bdk⟩,⟨by simp [maxLen]; omega,fun t ht=>by
   rcases Qq.1 ht with ht | ht
   ·exact ok0.2 t ht
   ·rw [Qg.1 ht]; exact okk⟩,by simp [curD],o2⟩⟩
 by_cases e3' : u = 3
 ·subst e3'
  simp [cDb,cS,curD,hk,bt]
  refine ⟨⟨by omega,fun a _=>oS a⟩,fun γ hs' h1 hg=>?_⟩
  clear hg
  exact ⟨⟨c2,⟨⟨some g,none,xs.take k⟩⟩,by simp [cDb,cS,List.map_take],⟨by simp; omega,fun t ht=>bd0.2 t (List.mem_of_mem_take ht)⟩,⟨by simp [maxLen]; omega,fun t ht=>ok0.2 t (List.mem_of_mem_take ht)⟩,by simp [curD],o2⟩⟩
 simp [cDb,curD,cS,bt,e0,e1,e2,e3']
 intro γ hs' h1 hg
 clear hg
 exact ⟨⟨c2,⟨⟨some g,some (120,3),xs⟩⟩,by simp [cDb,cS],bd0,ok0,by simp [curD],o2⟩⟩
end
end
section
open Go.Vs Go.Proofs Go
set_option maxRecDepth 100000
set_option maxHeartbeats 1000000
section
attribute [local simp] pS dSl cP cI cW
theorem l0 {P : Program} {E : Md} {args : List Operand} {f : FuncId} {rest As : List V} {k : Nat} {dst : Option Tmp} {K : St -> Prop} {σ : St} {b : Sl Int} {post : V -> List V -> Prop} (c : Nat × Int) (hE : E f = true)
  (hc : VX P f [] (.ptr 1000 0 0 :: As) (some ((curD b c).map V.d)) (fun _ r cs _=>post r cs)) (hvs : args.map σ.ev = .ptr k 0 0 :: rest) (hm : σ.m k = some (.box ((curD b c).map V.d)))
  (hr : rpL σ.m rest = some As) (hk : keysVL rest = [])
  (hK : ∀ r cs hs',σ.hs <= hs' -> post r cs -> K ({ σ with hs:=hs',m:=upd σ.m k (some (.box cs)) }.put dst r)) : b9 P E f args (.ptr k 0 0 :: rest) dst K σ:=by
 refine l4 hE hvs hm hr (by simp [curD,dSl]) hc fun r cs' ws n hs' h1 h2 h3 h4 h5=>?_
 have : keysVL rest ++ keysVL ((curD b c).map V.d) = []:=by rw [hk]; simp [curD]
 rw [this]
 exact hK r cs' hs' (Zy h1 h2) h3
end
end
section
open Go.Vs Go.Proofs Go
set_option maxRecDepth 100000
set_option maxHeartbeats 1000000
section
attribute [local simp] aR aC ax ay pS cP cI cStr cU8 cB
theorem dP (v : Int) : VC Tryz.prog 129 [.d (.int .i64 v)] (fun _ r=>r = .d (.str (fL v))):=by
 refine VC.ofL EP sZ Tryz.func129 fun B hl=>?_
 simp [Tryz.f129]
 refine ag (bB v 0 4) (by simp) rfl fun hs1 hh1=>?_
 simp at hh1
 cases h : inR v 0 4
 ·simp [fL,h]
 have h':=h
 simp only [inR,Jq,Xj] at h'
 have hw : IntKind.i64.wrap (v + 1) = v + 1:=aj (by omega) (by omega)
 obtain ⟨k,rfl⟩ : ∃ k : Nat,v = (k : Int):=⟨v.toNat,by omega⟩
 have hk : k < 5:=by omega
 have h1 : ((k : Int) + 1).toNat = k + 1:=by omega
 simp [fL,h,hw,h1]
 omega
theorem iI (l : List Int) (hb : l.length <= 4611686018427387904) : VC Tryz.prog 145 [.d (pS cI l)] (fun _ r=>r = .d (.str ([40] ++ jc l ++ [41]))):=by
 refine VC.ofL EP sZ Tryz.func145 fun B hl=>?_
 simp [pS,maxLen] at hl
 simp [Tryz.f145]
 refine ae (X:=Nat) (fun i=>i <= l.length) (fun i=>[(0,.d (.pl (l.map cI))),(3,.d (.str ([40] ++ jc (l.take i)))),(4,.d (.int .i64 i))]) (fun _=>[]) (fun i=>l.length - i) 0 (by simp) (by simp [jc]) (by simp) ?_
 intro i hs t m hi hh
 have h1:=jd (l.take i)
 rw [Zq] at h1
 by_cases hlt : i < l.length
 ·have hwi:=wr1 (i:=i) (by omega)
  simp [hlt]
  refine ag (dP l[i]) (by simp) rfl fun hs1 hh1=>?_
  simp at hh1
  have h2:=rM l[i]
  simp [hwi]
  refine ⟨by omega,?_⟩
  exact back (i + 1) (by omega) (by omega) rfl (by simp <;> omega) (by simp [wS hlt]) (by simp)
 ·have h3:=jd l
  simp [hlt,Jj (show l.length <= i by omega)]
  omega
end
end
section
open Go.Vs Go.Proofs Go
set_option maxRecDepth 100000
set_option maxHeartbeats 1000000
section
attribute [local simp] aR aC ax ay pS cP cI cStr cU8 cB
theorem ju (s : List UInt8) (c : UInt8) (hb : s.length <= 1000000000) : VC Tryz.prog 127 [.d (.str s),.d (.int .u8 c.toNat)] (fun _ r=>r = .d (pS cStr (cutB c s))):=by
 refine VC.ofL EP sZ Tryz.func127 fun B hl=>?_
 simp [Tryz.f127]
 refine ae (X:=Nat × Nat × List (List UInt8)) (fun p=>CutI c s p) (fun p=>[(0,.d (.str s)),(1,.d (.int .u8 c.toNat)),(5,.own 8 0 p.2.2.length),(6,.d (.int .i64 p.1)),(7,.d (.int .i64 p.2.1))]) (fun p=>[(8,some (.row 9 1 (p.2.2.map cStr)))]) (fun p=>s.length - p.2.1) (0,0,[]) .zero (by simp) (by simp) ?_
 rintro ⟨f,i,out⟩ hs t m hI hh
 have hf:=hI.fr
 have hi:=hI.le
 have hol:=hI.len
 simp only at hf hi hol
 have hwi:=wr1 (i:=i) (by omega)
 have hL : LenOk 16 (out.length + 1):=⟨by omega,by simp only [maxLen]; omega⟩
 by_cases hlt : i < s.length
 ·by_cases e : s[i] = c
  ·have hn:=hI.hit hlt e
   simp [hlt,e,hwi,hL,hf,hi]
   exact back (i + 1,i + 1,_) hn (by simp only; omega) rfl (by simp <;> omega) (by simp) (by simp [Jj])
  ·have hn:=hI.miss hlt e
   have e' : ¬ s[i].toNat = c.toNat:=fun h=>e (UInt8.toNat_inj.1 h)
   simp [hlt,e,e',hwi,hL]
   exact back (f,i + 1,out) hn (by simp only; omega) rfl (by simp <;> omega) (by simp) (by simp)
 ·have hn:=hI.done (by omega)
  have hil : i = s.length:=by omega
  subst hil
  simp [hL,hf]
  rw [Jj (by simp),<- hn.1]; simp
end
end
section
open Go.Vs Go.Proofs Go
set_option maxRecDepth 100000
set_option maxHeartbeats 1000000
section
attribute [local simp] aR aC ax ay pS cP cI cStr
theorem k8 (s : List UInt8) (hb : s.length <= 100000) : VC Tryz.prog 128 [.d (.str s)]
  (fun n r=>∃ y : Ints,r = .d (dSl cI y) /\ y.xs = lstV s /\ okS okI y /\ Good (cS cI y) (whS whI y) n /\ y.T = some (3,1)):=by
 refine VC.of E s128 Tryz.func128 fun B=>?_
 simp [Tryz.f128]
 have hlv:=ur s
 refine ae (X:=Nat) (fun i=>i <= s.length) (fun i=>[(0,.d (.str s)),(3,.own 6 0 (lstV (s.take i)).length),(4,.d (.int .i64 i))]) (fun i=>[(6,some (.row 3 1 ((lstV (s.take i)).map cI)))]) (fun i=>s.length - i) 0 (by simp) (by simp [lstV]) (by simp [lstV]) ?_
 intro i hs t m hi hh
 have hlt2:=ur (s.take i)
 rw [Zq] at hlt2
 by_cases hlt : i < s.length
 ·have hwi:=wr1 (i:=i) (by omega)
  have hstp:=zG hlt
  obtain ⟨L,hL⟩ : ∃ L,L = lstV (s.take i):=⟨_,rfl⟩
  rw [<- hL] at hstp hlt2 ⊢
  obtain ⟨c,hc⟩ : ∃ c,c = s[i]:=⟨_,rfl⟩
  rw [<- hc] at hstp
  refine anyQ fun Q=>?_
  simp [hlt]
  refine ae (X:=Nat) (fun j=>j <= 5) (fun j=>[(0,.d (.str s)),(3,.own 6 0 (L ++ lstT c j).length),(4,.d (.int .i64 i)),(5,.d (.int .i64 j))]) (fun j=>[(6,some (.row 3 1 ((L ++ lstT c j).map cI)))]) (fun j=>5 - j) 0 (by simp) (by simp [lstT,bD]) (by simp [lstT,bD]) ?_
  intro j hs2 t m hj hh2
  have hjl:=Ca c j
  by_cases hj5 : j < 5
  ·have hwj:=wr1 (i:=j) (by omega)
   have hjz : (j : Int) < 5:=by omega
   have hs3:=zF c j
   refine anyQ fun Q=>?_
   have hsl : (s.drop i).take 1 = [c]:=by rw [List.drop_eq_getElem_cons hlt,hc]; rfl
   have hL1 : LenOk 8 (L.length + (lstT c j).length + 1):=⟨by omega,by simp only [maxLen]; omega⟩
   simp [hj5,hjz,hwi]
   repeat' apply And.intro
   all_goals (try omega)
   all_goals
    refine ag (dP j) (by simp) rfl fun hs4 hh4=>?_
    simp at hh4
    by_cases e : fL j = [c]
    ·rw [if_pos e] at hs3
     simp [hj5,hjz,hwi,hwj,e,hsl,hL1,Jj]
     exact back (j + 1) (by omega) (by omega) rfl (by simp <;> omega) (by simp [hs3]; omega) (by simp [hs3])
    ·rw [if_neg e,List.append_nil] at hs3
     simp [hj5,hjz,hwi,hwj,e,hsl]
     exact back (j + 1) (by omega) (by omega) rfl (by simp <;> omega) (by simp [hs3]) (by simp [hs3])
  ·have hj' : j = 5:=by omega
   have hjz : ¬ (j : Int) < 5:=by omega
   subst hj'
   simp [hwi]
   exact back (i + 1) (by omega) (by omega) rfl (by simp <;> omega) (by simp [hstp,lstT,lstB]) (by simp [hstp,lstT,lstB])
 ·simp [hlt,Jj (show s.length <= i by omega)]
  intro γ hs' h1 hg
  obtain ⟨q1,q2⟩:=bz hg (k:=6) (T:=3) (sz:=1) (es:=(lstV s).map cI) (by simp)
  clear hg
  exact ⟨⟨γ 6,some (3,1),lstV s⟩,by simp [dSl,Jj],rfl,⟨by simp only [maxLen]; show (lstV s).length <= _; omega,fun _ _=>trivial⟩,eh (fun g hg=>(q1 g hg).1) (by simpa using q2),rfl⟩
end
end
end Go.Proofs.YtgjfmjiildjelaaGreatDoor
