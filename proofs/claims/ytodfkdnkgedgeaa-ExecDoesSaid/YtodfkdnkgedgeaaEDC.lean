/- Walks over the program's functions, on values without memory, and what they come to. No condition. -/
import Derived.Test.YtodfkdnkgedgeaaTw25
import Derived.Test.YtodfkdnkgedgeaaBase
import Derived.Test.YtodfkdnkgedgeaaTw19
import Derived.Test.YtodfkdnkgedgeaaQA
import Derived.Test.YtodfkdnkgedgeaaQB
import Derived.Test.YtodfkdnkgedgeaaEDB
set_option linter.unusedVariables false
set_option linter.unusedSimpArgs false
namespace Go.Proofs.YtodfkdnkgedgeaaT
open Go Go.Proofs Go.RowKit Go.Proofs.YtodfkdnkgedgeaaT.Ty
attribute [local go_sem] vOp vCut eqv put hset ev vNew enterSt AV.solid AV.cells AV.leaf AV.pure AV.pures AV.scalar AV.scalars ofVal ofLeaf vLoad takeA vStore vBin vBuiltin elems vSlice intAt fillA fillR splice dense fills frz frzL names namesL fix frzH frzHL le leL vRes oneRes
attribute [local go_sem] c1 s1 a1 b1 z1 o1 i1 c2 s2 a2 b2 z2 o2 i2 u2 c3 s3 a3 b3 z3 o3 i3 u3 c4 s4 a4 b4 z4 o4 i4 u4 c5 s5 a5 b5 z5 o5 i5 u5 c6 s6 a6 b6 z6 o6 i6 u6 c7 s7 a7 b7 z7 o7 f7_0 f7_1 f7_2 f7_3 q7 fo7 r7 i7 c8 s8 a8 b8 z8 o8 f8_0 f8_1 f8_2 f8_3 q8 fo8 r8 i8 c9 s9 a9 b9 z9 o9 i9 u9 c10 s10 a10 b10 z10 o10 i10 u10 c11 s11 a11 b11 z11 o11 i11 u11 c12 s12 a12 b12 z12 o12 i12 u12 c13 s13 a13 b13 z13 o13 f13_0 f13_1 fo13 r13 i13 c14 s14 a14 b14 z14 o14 f14_0 f14_1 fo14 r14 i14 c15 s15 a15 b15 z15 o15 p15 i15 c16 s16 a16 b16 z16 o16 p16 i16 c17 s17 a17 b17 z17 o17 p17 i17 c18 s18 a18 b18 z18 o18 f18_0 fo18 r18 i18 c19 s19 a19 b19 z19 o19 f19_0 fo19 r19 i19 c21 s21 a21 b21 z21 o21 i21 u21 c22 s22 a22 b22 z22 o22 e22 u22 i22 c23 s23 a23 b23 z23 o23 e23 u23 i23 c24 s24 a24 b24 z24 o24 f24_0 f24_1 fo24 r24 i24 c25 s25 a25 b25 z25 o25 f25_0 f25_1 fo25 r25 i25 c26 s26 a26 b26 z26 o26 e26 u26 i26 c27 s27 a27 b27 z27 o27 f27_0 f27_1 f27_2 q27 fo27 r27 i27 c28 s28 a28 b28 z28 o28 f28_0 f28_1 f28_2 q28 fo28 r28 i28 c29 s29 a29 b29 z29 o29 i29 c30 s30 a30 b30 z30 o30 i30 c31 s31 a31 b31 z31 o31 e31 u31 i31 c32 s32 a32 b32 z32 o32 e32 u32 i32 c33 s33 a33 b33 z33 o33 f33_0 f33_1 fo33 r33 i33 c34 s34 a34 b34 z34 o34 f34_0 f34_1 fo34 r34 i34 c35 s35 a35 b35 z35 o35 i35 c36 s36 a36 b36 z36 o36 f36_0 f36_1 f36_2 q36 fo36 r36 i36 c37 s37 a37 b37 z37 o37 f37_0 f37_1 f37_2 f37_3 f37_4 q37 fo37 r37 i37 c38 s38 a38 b38 z38 o38 f38_0 f38_1 f38_2 f38_3 f38_4 q38 fo38 r38 i38 c39 s39 a39 b39 z39 o39 i39 u39 c41 s41 a41 b41 z41 o41 i41 c42 s42 a42 b42 z42 o42 i42 c43 s43 a43 b43 z43 o43 f43_0 f43_1 f43_2 f43_3 f43_4 q43 fo43 r43 i43 c45 s45 a45 b45 z45 o45 i45 c46 s46 a46 b46 z46 o46 f46_0 f46_1 q46 fo46 r46 i46 c47 s47 a47 b47 z47 o47 f47_0 f47_1 q47 fo47 r47 i47 c49 s49 a49 b49 z49 o49 i49 c50 s50 a50 b50 z50 o50 i50 c51 s51 a51 b51 z51 o51 i51 c52 s52 a52 b52 z52 o52 i52 c53 s53 a53 b53 z53 o53 i53 c54 s54 a54 b54 z54 o54 i54 c55 s55 a55 b55 z55 o55 e55 u55 i55 c57 s57 a57 b57 z57 o57 i57 c59 s59 a59 b59 z59 o59 i59 c60 s60 a60 b60 z60 o60 i60 c61 s61 a61 b61 z61 o61 i61 c62 s62 a62 b62 z62 o62 i62 c63 s63 a63 b63 z63 o63 f63_0 f63_1 fo63 r63 i63 c64 s64 a64 b64 z64 o64 f64_0 f64_1 fo64 r64 i64 c65 s65 a65 b65 z65 o65 e65 u65 i65 c66 s66 a66 b66 z66 o66 e66 u66 i66 c67 s67 a67 b67 z67 o67 f67_0 f67_1 f67_2 f67_3 fo67 r67 i67 c68 s68 a68 b68 z68 o68 f68_0 f68_1 f68_2 f68_3 fo68 r68 i68 c69 s69 a69 b69 z69 o69 f69_0 f69_1 q69 fo69 r69 i69 c70 s70 a70 b70 z70 o70 f70_0 f70_1 q70 fo70 r70 i70 c71 s71 a71 b71 z71 o71 e71 u71 i71 c72 s72 a72 b72 z72 o72 i72 c73 s73 a73 b73 z73 o73 i73 c74 s74 a74 b74 z74 o74 f74_0 f74_1 fo74 r74 i74 c75 s75 a75 b75 z75 o75 e75 u75 i75 c76 s76 a76 b76 z76 o76 f76_0 f76_1 f76_2 f76_3 fo76 r76 i76 c77 s77 a77 b77 z77 o77 f77_0 f77_1 f77_2 f77_3 fo77 r77 i77 c78 s78 a78 b78 z78 o78 f78_0 f78_1 q78 fo78 r78 i78 c79 s79 a79 b79 z79 o79 i79 c81 s81 a81 b81 z81 o81 i81 c82 s82 a82 b82 z82 o82 i82 c83 s83 a83 b83 z83 o83 p83 i83 c84 s84 a84 b84 z84 o84 f84_0 f84_1 f84_2 f84_3 f84_4 fo84 r84 i84 c85 s85 a85 b85 z85 o85 f85_0 f85_1 f85_2 f85_3 f85_4 fo85 r85 i85 c86 s86 a86 b86 z86 o86 i86 c88 s88 a88 b88 z88 o88 i88 c89 s89 a89 b89 z89 o89 i89 c91 s91 a91 b91 z91 o91 i91 c93 s93 a93 b93 z93 o93 i93 c94 s94 a94 b94 z94 o94 i94 c96 s96 a96 b96 z96 o96 i96 c97 s97 a97 b97 z97 o97 i97 c98 s98 a98 b98 z98 o98 i98 c99 s99 a99 b99 z99 o99 i99 c100 s100 a100 b100 z100 o100 i100 c101 s101 a101 b101 z101 o101 i101 c102 s102 a102 b102 z102 o102 i102 c104 s104 a104 b104 z104 o104 i104 c105 s105 a105 b105 z105 o105 i105 c107 s107 a107 b107 z107 o107 i107 c108 s108 a108 b108 z108 o108 i108 c110 s110 a110 b110 z110 o110 i110 c112 s112 a112 b112 z112 o112 i112 c113 s113 a113 b113 z113 o113 i113 c115 s115 a115 b115 z115 o115 i115 c116 s116 a116 b116 z116 o116 i116 c118 s118 a118 b118 z118 o118 i118 c119 s119 a119 b119 z119 o119 i119 c120 s120 a120 b120 z120 o120 i120 c122 s122 a122 b122 z122 o122 i122 c124 s124 a124 b124 z124 o124 i124 c125 s125 a125 b125 z125 o125 i125 c126 s126 a126 b126 z126 o126 f126_0 f126_1 f126_2 f126_3 fo126 r126 i126 c127 s127 a127 b127 z127 o127 f127_0 f127_1 f127_2 f127_3 fo127 r127 i127 c131 s131 a131 b131 z131 o131 i131 c132 s132 a132 b132 z132 o132 i132 u132 c133 s133 a133 b133 z133 o133 i133 u133 c134 s134 a134 b134 z134 o134 i134 u134 c135 s135 a135 b135 z135 o135 i135 c136 s136 a136 b136 z136 o136 p136 i136 c137 s137 a137 b137 z137 o137 i137 u137 c138 s138 a138 b138 z138 o138 i138 u138 c139 s139 a139 b139 z139 o139 f139_0 f139_1 f139_2 f139_3 f139_4 f139_5 f139_6 f139_7 f139_8 f139_9 f139_10 fo139 r139 i139 c140 s140 a140 b140 z140 o140 f140_0 f140_1 f140_2 f140_3 f140_4 f140_5 f140_6 f140_7 f140_8 f140_9 f140_10 fo140 r140 i140
attribute [local go_sem] List.replicate List.length_cons List.length_nil Nat.reduceAdd Nat.reduceSub List.cons_append List.nil_append List.append_nil List.set_cons_succ List.set_cons_zero List.getD_cons_succ List.getD_cons_zero Nat.zero_add List.getElem?_cons_succ List.getElem?_cons_zero List.foldl_cons List.foldl_nil Option.map_some Option.map_none List.drop_succ_cons List.drop_zero List.take_succ_cons List.take_zero List.map_cons List.map_nil List.all_cons List.all_nil  Bool.and_true Bool.true_and imp_self Nat.add_zero beq_self_eq_true Option.isSome_some true_and and_true if_true if_false ints_len
set_option linter.unusedSimpArgs false
set_option maxRecDepth 100000
set_option maxHeartbeats 4000000
attribute [local go_sem] ints_nil ints_take ints_drop ints_cat ints_snoc ints_cons List.length_take List.length_drop List.drop_zero decide_true decide_false List.getElem?_toArray Option.bind_some Bool.false_eq_true Bool.true_eq_false Bool.not_true Bool.not_false Int.toNat_natCast Int.cast_ofNat_Int forget swap grow growIn opt_or opt_orn opt_and beq_true beq_false rdAll rdOp rdTmp agree Option.getD_some Option.getD_none List.flatten_cons List.flatten_nil ownCut mp mpL mpO vl vlL matchH freshH setAll nodupB enterH List.contains_cons List.contains_nil Nat.reduceMul Nat.reduceLT Nat.reduceLeDiff Nat.reduceEqDiff
attribute [local go_sem] mails_len mails_nil mails_drop mails_take mails_snoc sms_len bxs_len pgs_len sms_nil bxs_nil sms_set bxs_set sms_snoc bxs_snoc
def atN (q : List (Int × Int)) (n : Nat) : Int × Int := q.getD n (0, 0)
theorem mails_getN (l : List (Int × Int)) (n : Nat) (h : n < l.length) : (mails l).getD n [] = [.int .i64 (atN l n).1, .int .i64 (atN l n).2] := mails_get l n h
theorem at_some (f : Bool) (P : List (List (Int × Int))) (i k : Nat) (n : Int) (hP : P.length ≤ 1000000) (hi : i < P.length) (hk0 : k < (pgN P i).length) (hb : (pgN P i).length ≤ 9223372036854775807) :
  Ret Try.prog 14 [.sl f (pgs P), .agg [.int .i64 i, .int .i64 k, .int .i64 n]] (.tup [.agg [.int .i64 (atN (pgN P i) k).1, .int .i64 (atN (pgN P i) k).2], .bool true]) := by
 have hd1 : decide ((i : Int) < 0) = false := decide_eq_false (by omega)
 have hd2 : decide ((i : Int) ≥ (P.length : Int)) = false := decide_eq_false (by omega)
 have hd3 : decide ((k : Int) < 0) = false := decide_eq_false (by omega)
 have hd4 : decide ((k : Int) ≥ ((pgN P i).length : Int)) = false := decide_eq_false (by omega)
 have hrr := pgs_1 P
 have hr2 := mails_2 (pgN P i)
 have hg := pgs_get P i hi
 have hg2 := mails_getN (pgN P i) k hk0
 refine Ret_of_body Try.func14 (by kernel_rfl) rfl ?_; rw [Try.ntmps14]
 refine Dd0 ?_
 refine TW_sub (Sub_bl 6) ?_
 refine TW_open mixed (by kernel_rfl) (fun b => ⟨[.sl f (pgs P), .junk, .junk, .ptr 3 0, .ptr 4 0, .bool false, if b 0 = true then .ptr 3 0 else .junk, if b 1 = true then .int .i64 (↑i : Int) else .junk, if b 2 = true then .bool false else .junk, if b 3 = true then .bool false else .junk, if b 4 = true then .ptr 3 0 else .junk, if b 5 = true then .int .i64 (↑i : Int) else .junk, if b 6 = true then .sl f (pgs P) else .junk, if b 7 = true then .int .i64 (↑P.length : Int) else .junk, if b 8 = true then .bool false else .junk, if b 9 = true then .bool false else .junk, if b 10 = true then .bool false else .junk, if b 11 = true then .ptr 3 1 else .junk, if b 12 = true then .int .i64 (↑k : Int) else .junk, if b 13 = true then .bool false else .junk, if b 14 = true then .bool false else .junk, if b 15 = true then .bool false else .junk, if b 16 = true then .ptr 3 1 else .junk, if b 17 = true then .int .i64 (↑k : Int) else .junk, if b 18 = true then .sl f (pgs P) else .junk, if b 19 = true then .ptr 3 0 else .junk, if b 20 = true then .int .i64 (↑i : Int) else .junk, if b 21 = true then .cptr [.sl false (mails (pgN P i))] else .junk, if b 22 = true then .sl false (mails (pgN P i)) else .junk, if b 23 = true then .int .i64 (↑(pgN P i).length : Int) else .junk, if b 24 = true then .bool false else .junk, if b 25 = true then .bool false else .junk, .junk, .junk, .junk, .junk, .junk, .junk, .junk, .junk, .junk, .junk], [.un, .un, .un, .box [.int .i64 (↑i : Int), .int .i64 (↑k : Int), .int .i64 n], .box [.int .i64 0, .int .i64 0], .un, .un, .un, .un, .un, .un, .un, .un, .un, .un, .un, .un, .un, .un, .un, .un, .un, .un, .un, .un, .un, .un, .un, .un, .un, .un, .un, .un, .un, .un, .un, .un, .un, .un, .un, .un, .un], 0⟩) rfl ?_ ?_
 ·skip
  (repeat refine Di ?_ (fun b hwW hbB hcC => ?_)); (exact trivial)
  ·have w15 := hwW.at 15 rfl; have w24 := hwW.at 24 rfl; have w14 := (hcC 15 _ rfl w15).at 14 rfl; have w10 := (hcC 14 _ rfl w14).at 10 rfl; have w9 := (hcC 10 _ rfl w10).at 9 rfl; have w8 := (hcC 9 _ rfl w9).at 8 rfl; exact Ds9 hbB ((hcC 8 _ rfl w8).at 7 rfl) w15 ((hcC 24 _ rfl w24).at 23 rfl) w24 @hd1 @hd2 @hd3 @hd4 @hg
  ·have w15 := hwW.at 15 rfl; have w14 := (hcC 15 _ rfl w15).at 14 rfl; have w10 := (hcC 14 _ rfl w14).at 10 rfl; have w9 := (hcC 10 _ rfl w10).at 9 rfl; have w8 := (hcC 9 _ rfl w9).at 8 rfl; exact Ds10 hbB ((hcC 8 _ rfl w8).at 7 rfl) w15 (hwW.at 17 rfl) (hwW.at 23 rfl) (hcC.l hbB 25 rfl) @hd1 @hd2 @hd3 @hd4 @hg
  ·have w15 := hwW.at 15 rfl; have w14 := (hcC 15 _ rfl w15).at 14 rfl; have w10 := (hcC 14 _ rfl w14).at 10 rfl; have w9 := (hcC 10 _ rfl w10).at 9 rfl; have w8 := (hcC 9 _ rfl w9).at 8 rfl; exact Ds9 hbB ((hcC 8 _ rfl w8).at 7 rfl) w15 (hwW.at 22 rfl) (hcC.l hbB 24 rfl) @hd1 @hd2 @hd3 @hd4 @hg
  ·have w15 := hwW.at 15 rfl; have w14 := (hcC 15 _ rfl w15).at 14 rfl; have w10 := (hcC 14 _ rfl w14).at 10 rfl; have w9 := (hcC 10 _ rfl w10).at 9 rfl; have w8 := (hcC 9 _ rfl w9).at 8 rfl; exact Ds9 hbB ((hcC 8 _ rfl w8).at 7 rfl) w15 (hwW.at 21 rfl) (hcC.l hbB 23 rfl) @hd1 @hd2 @hd3 @hd4 @hg
  ·have w15 := hwW.at 15 rfl; have w14 := (hcC 15 _ rfl w15).at 14 rfl; have w10 := (hcC 14 _ rfl w14).at 10 rfl; have w9 := (hcC 10 _ rfl w10).at 9 rfl; have w8 := (hcC 9 _ rfl w9).at 8 rfl; have l22 := hcC.l hbB 22 rfl; exact Ds11 hbB ((hcC 8 _ rfl w8).at 7 rfl) w15 (hwW.at 18 rfl) (hwW.at 20 rfl) l22 (hcC.l l22 23 rfl) @hd1 @hd2 @hd3 @hd4 @hg
  ·have w15 := hwW.at 15 rfl; have w14 := (hcC 15 _ rfl w15).at 14 rfl; have w10 := (hcC 14 _ rfl w14).at 10 rfl; have w9 := (hcC 10 _ rfl w10).at 9 rfl; have w8 := (hcC 9 _ rfl w9).at 8 rfl; have l21 := hcC.l hbB 21 rfl; have l22 := hcC.l l21 22 rfl; exact Ds10 hbB ((hcC 8 _ rfl w8).at 7 rfl) w15 (hwW.at 19 rfl) l21 (hcC.l l22 23 rfl) @hd1 @hd2 @hd3 @hd4 @hg
  ·have w15 := hwW.at 15 rfl; have w14 := (hcC 15 _ rfl w15).at 14 rfl; have w10 := (hcC 14 _ rfl w14).at 10 rfl; have w9 := (hcC 10 _ rfl w10).at 9 rfl; have w8 := (hcC 9 _ rfl w9).at 8 rfl; have l20 := hcC.l hbB 20 rfl; have l21 := hcC.l l20 21 rfl; have l22 := hcC.l l21 22 rfl; exact Ds9 hbB ((hcC 8 _ rfl w8).at 7 rfl) w15 l20 (hcC.l l22 23 rfl) @hd1 @hd2 @hd3 @hd4 @hg
  ·have w15 := hwW.at 15 rfl; have w14 := (hcC 15 _ rfl w15).at 14 rfl; have w10 := (hcC 14 _ rfl w14).at 10 rfl; have w9 := (hcC 10 _ rfl w10).at 9 rfl; have w8 := (hcC 9 _ rfl w9).at 8 rfl; have l21 := hcC.l hbB 21 rfl; have l22 := hcC.l l21 22 rfl; exact Ds9 hbB ((hcC 8 _ rfl w8).at 7 rfl) w15 l21 (hcC.l l22 23 rfl) @hd1 @hd2 @hd3 @hd4 @hg
  ·have w15 := hwW.at 15 rfl; have w14 := (hcC 15 _ rfl w15).at 14 rfl; have w10 := (hcC 14 _ rfl w14).at 10 rfl; have w9 := (hcC 10 _ rfl w10).at 9 rfl; have w8 := (hcC 9 _ rfl w9).at 8 rfl; exact Ds9 hbB ((hcC 8 _ rfl w8).at 7 rfl) w15 (hwW.at 16 rfl) (hcC.l hbB 24 rfl) @hd1 @hd2 @hd3 @hd4 @hg
  ·have w15 := hwW.at 15 rfl; have w14 := (hcC 15 _ rfl w15).at 14 rfl; have w10 := (hcC 14 _ rfl w14).at 10 rfl; have w9 := (hcC 10 _ rfl w10).at 9 rfl; have w8 := (hcC 9 _ rfl w9).at 8 rfl; exact Ds8 hbB ((hcC 8 _ rfl w8).at 7 rfl) w15 (hcC.l hbB 17 rfl) @hd1 @hd2 @hd3 @hd4 @hg
  ·have w10 := hwW.at 10 rfl; have w9 := (hcC 10 _ rfl w10).at 9 rfl; have w8 := (hcC 9 _ rfl w9).at 8 rfl; exact Ds18 hbB ((hcC 8 _ rfl w8).at 7 rfl) w10 (hwW.at 14 rfl) (hcC.l hbB 16 rfl) (hcC.l hbB 17 rfl) (hcC.l hbB 18 rfl) (hcC.l hbB 19 rfl) (hcC.l hbB 20 rfl) (hcC.l hbB 21 rfl) (hcC.l hbB 22 rfl) (hcC.l hbB 23 rfl) (hcC.l hbB 24 rfl) (hcC.l hbB 25 rfl) @hd1 @hd2 @hd3 @hd4 @hg
  ·have w10 := hwW.at 10 rfl; have w9 := (hcC 10 _ rfl w10).at 9 rfl; have w8 := (hcC 9 _ rfl w9).at 8 rfl; have l15 := hcC.l hbB 15 rfl; exact Ds10 hbB ((hcC 8 _ rfl w8).at 7 rfl) w10 (hwW.at 13 rfl) l15 (hcC.l l15 23 rfl) @hd1 @hd2 @hd3 @hd4 @hg
  ·have w10 := hwW.at 10 rfl; have w9 := (hcC 10 _ rfl w10).at 9 rfl; have w8 := (hcC 9 _ rfl w9).at 8 rfl; have l14 := hcC.l hbB 14 rfl; have l15 := hcC.l l14 15 rfl; exact Ds10 hbB ((hcC 8 _ rfl w8).at 7 rfl) w10 (hwW.at 12 rfl) l14 (hcC.l l15 23 rfl) @hd1 @hd2 @hd3 @hd4 @hg
  ·have w10 := hwW.at 10 rfl; have w9 := (hcC 10 _ rfl w10).at 9 rfl; have w8 := (hcC 9 _ rfl w9).at 8 rfl; have l13 := hcC.l hbB 13 rfl; have l14 := hcC.l l13 14 rfl; have l15 := hcC.l l14 15 rfl; exact Ds10 hbB ((hcC 8 _ rfl w8).at 7 rfl) w10 (hwW.at 11 rfl) l13 (hcC.l l15 23 rfl) @hd1 @hd2 @hd3 @hd4 @hg
  ·have w10 := hwW.at 10 rfl; have w9 := (hcC 10 _ rfl w10).at 9 rfl; have w8 := (hcC 9 _ rfl w9).at 8 rfl; have l12 := hcC.l hbB 12 rfl; have l13 := hcC.l l12 13 rfl; have l14 := hcC.l l13 14 rfl; have l15 := hcC.l l14 15 rfl; exact Ds9 hbB ((hcC 8 _ rfl w8).at 7 rfl) w10 l12 (hcC.l l15 23 rfl) @hd1 @hd2 @hd3 @hd4 @hg
  ·have w9 := hwW.at 9 rfl; have w8 := (hcC 9 _ rfl w9).at 8 rfl; have l15 := hcC.l hbB 15 rfl; exact Ds14 hbB (hwW.at 3 rfl) ((hcC 8 _ rfl w8).at 7 rfl) w9 (hcC.l hbB 11 rfl) (hcC.l hbB 12 rfl) (hcC.l hbB 13 rfl) (hcC.l hbB 14 rfl) l15 (hcC.l l15 23 rfl) @hd1 @hd2 @hd3 @hd4 @hg
  ·have w8 := hwW.at 8 rfl; have l10 := hcC.l hbB 10 rfl; have l15 := hcC.l l10 15 rfl; exact Ds10 hbB (hwW.at 3 rfl) ((hcC 8 _ rfl w8).at 7 rfl) w8 l10 (hcC.l l15 23 rfl) @hd1 @hd2 @hd3 @hd4 @hg
  ·have l9 := hcC.l hbB 9 rfl; have l10 := hcC.l l9 10 rfl; have l15 := hcC.l l10 15 rfl; exact Ds10 hbB (hwW.at 3 rfl) (hwW.at 5 rfl) (hwW.at 7 rfl) l9 (hcC.l l15 23 rfl) @hd1 @hd2 @hd3 @hd4 @hg
  ·have l8 := hcC.l hbB 8 rfl; have l9 := hcC.l l8 9 rfl; have l10 := hcC.l l9 10 rfl; have l15 := hcC.l l10 15 rfl; exact Ds9 hbB (hwW.at 3 rfl) (hwW.at 6 rfl) l8 (hcC.l l15 23 rfl) @hd1 @hd2 @hd3 @hd4 @hg
  ·have l7 := hcC.l hbB 7 rfl; have l8 := hcC.l l7 8 rfl; have l9 := hcC.l l8 9 rfl; have l10 := hcC.l l9 10 rfl; have l15 := hcC.l l10 15 rfl; exact Ds8 hbB (hwW.at 3 rfl) l7 (hcC.l l15 23 rfl) @hd1 @hd2 @hd3 @hd4 @hg
  ·have l8 := hcC.l hbB 8 rfl; have l9 := hcC.l l8 9 rfl; have l10 := hcC.l l9 10 rfl; have l15 := hcC.l l10 15 rfl; exact Ds9 hbB (hwW.at 3 rfl) (hwW.at 4 rfl) l8 (hcC.l l15 23 rfl) @hd1 @hd2 @hd3 @hd4 @hg
  ·have l5 := hcC.l hbB 5 rfl; have l8 := hcC.l l5 8 rfl; have l9 := hcC.l l8 9 rfl; have l10 := hcC.l l9 10 rfl; have l15 := hcC.l l10 15 rfl; exact Ds8 hbB (hwW.at 3 rfl) l5 (hcC.l l15 23 rfl) @hd1 @hd2 @hd3 @hd4 @hg
  ·have l10 := hcC.l hbB 10 rfl; have l15 := hcC.l l10 15 rfl; exact Ds14 hbB (hwW.at 2 rfl) (hcC.l hbB 4 rfl) (hcC.l hbB 5 rfl) (hcC.l hbB 6 rfl) (hcC.l hbB 7 rfl) (hcC.l hbB 8 rfl) (hcC.l hbB 9 rfl) l10 (hcC.l l15 23 rfl) @hd1 @hd2 @hd3 @hd4 @hg
  ·have l3 := hcC.l hbB 3 rfl; have l10 := hcC.l l3 10 rfl; have l15 := hcC.l l10 15 rfl; exact Ds9 hbB (hwW.at 1 rfl) l3 (hcC.l l3 7 rfl) (hcC.l l15 23 rfl) @hd1 @hd2 @hd3 @hd4 @hg
  ·have l2 := hcC.l hbB 2 rfl; have l3 := hcC.l l2 3 rfl; have l10 := hcC.l l3 10 rfl; have l15 := hcC.l l10 15 rfl; exact Ds9 hbB (hwW.at 0 rfl) l2 (hcC.l l3 7 rfl) (hcC.l l15 23 rfl) @hd1 @hd2 @hd3 @hd4 @hg
  ·have l1 := hcC.l hbB 1 rfl; have l2 := hcC.l l1 2 rfl; have l3 := hcC.l l2 3 rfl; have l10 := hcC.l l3 10 rfl; have l15 := hcC.l l10 15 rfl; exact Ds8 hbB l1 (hcC.l l3 7 rfl) (hcC.l l15 23 rfl) @hd1 @hd2 @hd3 @hd4 @hg
 simp only [List.length_cons, List.length_nil, Nat.reduceAdd, Nat.reduceLT, decide_true, if_true]
 refine Dd0 ?_
 refine TW_cond rfl (fun hc => ?_) (fun hc => ?_)
 ·simp at hc
 ·refine Dd0 ?_
  refine TW_sub (Sub_bl 8589934534) ?_
  refine TW_open mixed (by kernel_rfl) (fun b => ⟨[.sl f (pgs P), .junk, .junk, .ptr 3 0, .ptr 4 0, if b 10 = true then .bool true else .bool false, .junk, .junk, .junk, .junk, .junk, .junk, .junk, .junk, .junk, .junk, .junk, .junk, .junk, .junk, .junk, .junk, .junk, .junk, .junk, .junk, .junk, .junk, .junk, .junk, .junk, .junk, .junk, if b 0 = true then .sl f (pgs P) else .junk, if b 1 = true then .ptr 3 0 else .junk, if b 2 = true then .int .i64 (↑i : Int) else .junk, if b 3 = true then .cptr [.sl false (mails (pgN P i))] else .junk, if b 4 = true then .sl false (mails (pgN P i)) else .junk, if b 5 = true then .ptr 3 1 else .junk, if b 6 = true then .int .i64 (↑k : Int) else .junk, if b 7 = true then .cptr [.int .i64 (atN (pgN P i) k).fst, .int .i64 (atN (pgN P i) k).snd] else .junk, if b 8 = true then .agg [.int .i64 (atN (pgN P i) k).fst, .int .i64 (atN (pgN P i) k).snd] else .junk], [.un, .un, .un, .box [.int .i64 (↑i : Int), .int .i64 (↑k : Int), .int .i64 n], if b 9 = true then .box [.int .i64 (atN (pgN P i) k).fst, .int .i64 (atN (pgN P i) k).snd] else .box [.int .i64 0, .int .i64 0], .un, .un, .un, .un, .un, .un, .un, .un, .un, .un, .un, .un, .un, .un, .un, .un, .un, .un, .un, .un, .un, .un, .un, .un, .un, .un, .un, .un, .un, .un, .un, .un, .un, .un, .un, .un, .un], 0⟩) rfl ?_ ?_
  ·skip
   (repeat refine Di ?_ (fun b hwW hbB hcC => ?_)); (exact trivial)
   ·exact Ds12 hbB (hwW.at 0 rfl) (hwW.at 1 rfl) (hwW.at 2 rfl) (hwW.at 3 rfl) (hwW.at 4 rfl) (hwW.at 5 rfl) (hwW.at 6 rfl) (hwW.at 7 rfl) (hwW.at 8 rfl) (hwW.at 9 rfl) @hg @hg2
   ·exact Ds12 hbB (hwW.at 0 rfl) (hwW.at 1 rfl) (hwW.at 2 rfl) (hwW.at 3 rfl) (hwW.at 4 rfl) (hwW.at 5 rfl) (hwW.at 6 rfl) (hwW.at 7 rfl) (hwW.at 8 rfl) (hcC.l hbB 10 rfl) @hg @hg2
   ·exact Ds5 hbB (hwW.at 7 rfl) (hcC.l hbB 9 rfl) (hcC.l hbB 10 rfl) @hg @hg2
   ·exact Ds7 hbB (hwW.at 4 rfl) (hwW.at 6 rfl) (hcC.l hbB 8 rfl) (hcC.l hbB 9 rfl) (hcC.l hbB 10 rfl) @hg @hg2
   ·exact Ds6 hbB (hwW.at 5 rfl) (hcC.l hbB 7 rfl) (hcC.l hbB 9 rfl) (hcC.l hbB 10 rfl) @hg @hg2
   ·exact Ds5 hbB (hcC.l hbB 6 rfl) (hcC.l hbB 9 rfl) (hcC.l hbB 10 rfl) @hg @hg2
   ·exact Ds6 hbB (hwW.at 3 rfl) (hcC.l hbB 7 rfl) (hcC.l hbB 9 rfl) (hcC.l hbB 10 rfl) @hg @hg2
   ·exact Ds7 hbB (hwW.at 0 rfl) (hwW.at 2 rfl) (hcC.l hbB 4 rfl) (hcC.l hbB 9 rfl) (hcC.l hbB 10 rfl) @hg @hg2
   ·exact Ds6 hbB (hwW.at 1 rfl) (hcC.l hbB 3 rfl) (hcC.l hbB 9 rfl) (hcC.l hbB 10 rfl) @hg @hg2
   ·exact Ds5 hbB (hcC.l hbB 2 rfl) (hcC.l hbB 9 rfl) (hcC.l hbB 10 rfl) @hg @hg2
   ·exact Ds5 hbB (hcC.l hbB 3 rfl) (hcC.l hbB 9 rfl) (hcC.l hbB 10 rfl) @hg @hg2
  simp only [List.length_cons, List.length_nil, Nat.reduceAdd, Nat.reduceLT, decide_true, if_true]
  refine Dd0 ?_
  (refine ⟨by simp, ?_⟩; simp only [go_sem, Try.results14])
theorem at_none (f : Bool) (P : List (List (Int × Int))) (p k : Int) (n : Int) (hP : P.length ≤ 1000000) (hb : ∀ i, (pgN P i).length ≤ 9223372036854775807) (h : ¬ (0 ≤ p ∧ p < P.length ∧ 0 ≤ k ∧ k < (pgN P p.toNat).length)) :
  Ret Try.prog 14 [.sl f (pgs P), .agg [.int .i64 p, .int .i64 k, .int .i64 n]] (.tup [.agg [.int .i64 0, .int .i64 0], .bool false]) := by
 have hrr := pgs_1 P
 by_cases h1 : p < 0
 ·have hd1 : decide (p < 0) = true := decide_eq_true h1
  refine Ret_of_body Try.func14 (by kernel_rfl) rfl ?_; rw [Try.ntmps14]
  refine Dd0 ?_
  refine TW_sub (Sub_bl 6) ?_
  refine TW_open mixed (by kernel_rfl) (fun b => ⟨[.sl f (pgs P), .junk, .junk, .ptr 3 0, .ptr 4 0, .bool false, if b 0 = true then .ptr 3 0 else .junk, if b 1 = true then .int .i64 p else .junk, if b 2 = true then .bool true else .junk, if b 3 = true then .bool true else .junk, if b 4 = true then .tup [] else .junk, if b 5 = true then .tup [] else .junk, if b 6 = true then .tup [] else .junk, if b 7 = true then .tup [] else .junk, if b 8 = true then .tup [] else .junk, if b 9 = true then .bool true else .junk, if b 10 = true then .bool true else .junk, if b 11 = true then .tup [] else .junk, if b 12 = true then .tup [] else .junk, if b 13 = true then .tup [] else .junk, if b 14 = true then .bool true else .junk, if b 15 = true then .bool true else .junk, if b 16 = true then .tup [] else .junk, if b 17 = true then .tup [] else .junk, if b 18 = true then .tup [] else .junk, if b 19 = true then .tup [] else .junk, if b 20 = true then .tup [] else .junk, if b 21 = true then .tup [] else .junk, if b 22 = true then .tup [] else .junk, if b 23 = true then .tup [] else .junk, if b 24 = true then .tup [] else .junk, if b 25 = true then .bool true else .junk, .junk, .junk, .junk, .junk, .junk, .junk, .junk, .junk, .junk, .junk], [.un, .un, .un, .box [.int .i64 p, .int .i64 k, .int .i64 n], .box [.int .i64 0, .int .i64 0], .un, .un, .un, .un, .un, .un, .un, .un, .un, .un, .un, .un, .un, .un, .un, .un, .un, .un, .un, .un, .un, .un, .un, .un, .un, .un, .un, .un, .un, .un, .un, .un, .un, .un, .un, .un, .un], 0⟩) rfl ?_ ?_
  ·skip
   (repeat refine Di ?_ (fun b hwW hbB hcC => ?_)); (exact trivial)
   ·have w15 := hwW.at 15 rfl; have w24 := hwW.at 24 rfl; have w14 := (hcC 15 _ rfl w15).at 14 rfl; have w10 := (hcC 14 _ rfl w14).at 10 rfl; have w9 := (hcC 10 _ rfl w10).at 9 rfl; have w8 := (hcC 9 _ rfl w9).at 8 rfl; exact Ds5 hbB ((hcC 8 _ rfl w8).at 7 rfl) w15 ((hcC 24 _ rfl w24).at 23 rfl) w24 @hd1
   ·have w15 := hwW.at 15 rfl; have w14 := (hcC 15 _ rfl w15).at 14 rfl; have w10 := (hcC 14 _ rfl w14).at 10 rfl; have w9 := (hcC 10 _ rfl w10).at 9 rfl; have w8 := (hcC 9 _ rfl w9).at 8 rfl; exact Ds6 hbB ((hcC 8 _ rfl w8).at 7 rfl) w15 (hwW.at 17 rfl) (hwW.at 23 rfl) (hcC.l hbB 25 rfl) @hd1
   ·have w15 := hwW.at 15 rfl; have w14 := (hcC 15 _ rfl w15).at 14 rfl; have w10 := (hcC 14 _ rfl w14).at 10 rfl; have w9 := (hcC 10 _ rfl w10).at 9 rfl; have w8 := (hcC 9 _ rfl w9).at 8 rfl; exact Ds5 hbB ((hcC 8 _ rfl w8).at 7 rfl) w15 (hwW.at 22 rfl) (hcC.l hbB 24 rfl) @hd1
   ·have w15 := hwW.at 15 rfl; have w14 := (hcC 15 _ rfl w15).at 14 rfl; have w10 := (hcC 14 _ rfl w14).at 10 rfl; have w9 := (hcC 10 _ rfl w10).at 9 rfl; have w8 := (hcC 9 _ rfl w9).at 8 rfl; exact Ds5 hbB ((hcC 8 _ rfl w8).at 7 rfl) w15 (hwW.at 21 rfl) (hcC.l hbB 23 rfl) @hd1
   ·have w15 := hwW.at 15 rfl; have w14 := (hcC 15 _ rfl w15).at 14 rfl; have w10 := (hcC 14 _ rfl w14).at 10 rfl; have w9 := (hcC 10 _ rfl w10).at 9 rfl; have w8 := (hcC 9 _ rfl w9).at 8 rfl; have l22 := hcC.l hbB 22 rfl; exact Ds7 hbB ((hcC 8 _ rfl w8).at 7 rfl) w15 (hwW.at 18 rfl) (hwW.at 20 rfl) l22 (hcC.l l22 23 rfl) @hd1
   ·have w15 := hwW.at 15 rfl; have w14 := (hcC 15 _ rfl w15).at 14 rfl; have w10 := (hcC 14 _ rfl w14).at 10 rfl; have w9 := (hcC 10 _ rfl w10).at 9 rfl; have w8 := (hcC 9 _ rfl w9).at 8 rfl; have l21 := hcC.l hbB 21 rfl; have l22 := hcC.l l21 22 rfl; exact Ds6 hbB ((hcC 8 _ rfl w8).at 7 rfl) w15 (hwW.at 19 rfl) l21 (hcC.l l22 23 rfl) @hd1
   ·have w15 := hwW.at 15 rfl; have w14 := (hcC 15 _ rfl w15).at 14 rfl; have w10 := (hcC 14 _ rfl w14).at 10 rfl; have w9 := (hcC 10 _ rfl w10).at 9 rfl; have w8 := (hcC 9 _ rfl w9).at 8 rfl; have l20 := hcC.l hbB 20 rfl; have l21 := hcC.l l20 21 rfl; have l22 := hcC.l l21 22 rfl; exact Ds5 hbB ((hcC 8 _ rfl w8).at 7 rfl) w15 l20 (hcC.l l22 23 rfl) @hd1
   ·have w15 := hwW.at 15 rfl; have w14 := (hcC 15 _ rfl w15).at 14 rfl; have w10 := (hcC 14 _ rfl w14).at 10 rfl; have w9 := (hcC 10 _ rfl w10).at 9 rfl; have w8 := (hcC 9 _ rfl w9).at 8 rfl; have l21 := hcC.l hbB 21 rfl; have l22 := hcC.l l21 22 rfl; exact Ds5 hbB ((hcC 8 _ rfl w8).at 7 rfl) w15 l21 (hcC.l l22 23 rfl) @hd1
   ·have w15 := hwW.at 15 rfl; have w14 := (hcC 15 _ rfl w15).at 14 rfl; have w10 := (hcC 14 _ rfl w14).at 10 rfl; have w9 := (hcC 10 _ rfl w10).at 9 rfl; have w8 := (hcC 9 _ rfl w9).at 8 rfl; exact Ds5 hbB ((hcC 8 _ rfl w8).at 7 rfl) w15 (hwW.at 16 rfl) (hcC.l hbB 24 rfl) @hd1
   ·have w15 := hwW.at 15 rfl; have w14 := (hcC 15 _ rfl w15).at 14 rfl; have w10 := (hcC 14 _ rfl w14).at 10 rfl; have w9 := (hcC 10 _ rfl w10).at 9 rfl; have w8 := (hcC 9 _ rfl w9).at 8 rfl; exact Ds4 hbB ((hcC 8 _ rfl w8).at 7 rfl) w15 (hcC.l hbB 17 rfl) @hd1
   ·have w10 := hwW.at 10 rfl; have w9 := (hcC 10 _ rfl w10).at 9 rfl; have w8 := (hcC 9 _ rfl w9).at 8 rfl; exact Ds14 hbB ((hcC 8 _ rfl w8).at 7 rfl) w10 (hwW.at 14 rfl) (hcC.l hbB 16 rfl) (hcC.l hbB 17 rfl) (hcC.l hbB 18 rfl) (hcC.l hbB 19 rfl) (hcC.l hbB 20 rfl) (hcC.l hbB 21 rfl) (hcC.l hbB 22 rfl) (hcC.l hbB 23 rfl) (hcC.l hbB 24 rfl) (hcC.l hbB 25 rfl) @hd1
   ·have w10 := hwW.at 10 rfl; have w9 := (hcC 10 _ rfl w10).at 9 rfl; have w8 := (hcC 9 _ rfl w9).at 8 rfl; have l15 := hcC.l hbB 15 rfl; exact Ds6 hbB ((hcC 8 _ rfl w8).at 7 rfl) w10 (hwW.at 13 rfl) l15 (hcC.l l15 23 rfl) @hd1
   ·have w10 := hwW.at 10 rfl; have w9 := (hcC 10 _ rfl w10).at 9 rfl; have w8 := (hcC 9 _ rfl w9).at 8 rfl; have l14 := hcC.l hbB 14 rfl; have l15 := hcC.l l14 15 rfl; exact Ds6 hbB ((hcC 8 _ rfl w8).at 7 rfl) w10 (hwW.at 12 rfl) l14 (hcC.l l15 23 rfl) @hd1
   ·have w10 := hwW.at 10 rfl; have w9 := (hcC 10 _ rfl w10).at 9 rfl; have w8 := (hcC 9 _ rfl w9).at 8 rfl; have l13 := hcC.l hbB 13 rfl; have l14 := hcC.l l13 14 rfl; have l15 := hcC.l l14 15 rfl; exact Ds6 hbB ((hcC 8 _ rfl w8).at 7 rfl) w10 (hwW.at 11 rfl) l13 (hcC.l l15 23 rfl) @hd1
   ·have w10 := hwW.at 10 rfl; have w9 := (hcC 10 _ rfl w10).at 9 rfl; have w8 := (hcC 9 _ rfl w9).at 8 rfl; have l12 := hcC.l hbB 12 rfl; have l13 := hcC.l l12 13 rfl; have l14 := hcC.l l13 14 rfl; have l15 := hcC.l l14 15 rfl; exact Ds5 hbB ((hcC 8 _ rfl w8).at 7 rfl) w10 l12 (hcC.l l15 23 rfl) @hd1
   ·have w9 := hwW.at 9 rfl; have w8 := (hcC 9 _ rfl w9).at 8 rfl; have l15 := hcC.l hbB 15 rfl; exact Ds10 hbB (hwW.at 3 rfl) ((hcC 8 _ rfl w8).at 7 rfl) w9 (hcC.l hbB 11 rfl) (hcC.l hbB 12 rfl) (hcC.l hbB 13 rfl) (hcC.l hbB 14 rfl) l15 (hcC.l l15 23 rfl) @hd1
   ·have w8 := hwW.at 8 rfl; have l10 := hcC.l hbB 10 rfl; have l15 := hcC.l l10 15 rfl; exact Ds6 hbB (hwW.at 3 rfl) ((hcC 8 _ rfl w8).at 7 rfl) w8 l10 (hcC.l l15 23 rfl) @hd1
   ·have l9 := hcC.l hbB 9 rfl; have l10 := hcC.l l9 10 rfl; have l15 := hcC.l l10 15 rfl; exact Ds6 hbB (hwW.at 3 rfl) (hwW.at 5 rfl) (hwW.at 7 rfl) l9 (hcC.l l15 23 rfl) @hd1
   ·have l8 := hcC.l hbB 8 rfl; have l9 := hcC.l l8 9 rfl; have l10 := hcC.l l9 10 rfl; have l15 := hcC.l l10 15 rfl; exact Ds5 hbB (hwW.at 3 rfl) (hwW.at 6 rfl) l8 (hcC.l l15 23 rfl) @hd1
   ·have l7 := hcC.l hbB 7 rfl; have l8 := hcC.l l7 8 rfl; have l9 := hcC.l l8 9 rfl; have l10 := hcC.l l9 10 rfl; have l15 := hcC.l l10 15 rfl; exact Ds4 hbB (hwW.at 3 rfl) l7 (hcC.l l15 23 rfl) @hd1
   ·have l8 := hcC.l hbB 8 rfl; have l9 := hcC.l l8 9 rfl; have l10 := hcC.l l9 10 rfl; have l15 := hcC.l l10 15 rfl; exact Ds5 hbB (hwW.at 3 rfl) (hwW.at 4 rfl) l8 (hcC.l l15 23 rfl) @hd1
   ·have l5 := hcC.l hbB 5 rfl; have l8 := hcC.l l5 8 rfl; have l9 := hcC.l l8 9 rfl; have l10 := hcC.l l9 10 rfl; have l15 := hcC.l l10 15 rfl; exact Ds4 hbB (hwW.at 3 rfl) l5 (hcC.l l15 23 rfl) @hd1
   ·have l10 := hcC.l hbB 10 rfl; have l15 := hcC.l l10 15 rfl; exact Ds10 hbB (hwW.at 2 rfl) (hcC.l hbB 4 rfl) (hcC.l hbB 5 rfl) (hcC.l hbB 6 rfl) (hcC.l hbB 7 rfl) (hcC.l hbB 8 rfl) (hcC.l hbB 9 rfl) l10 (hcC.l l15 23 rfl) @hd1
   ·have l3 := hcC.l hbB 3 rfl; have l10 := hcC.l l3 10 rfl; have l15 := hcC.l l10 15 rfl; exact Ds5 hbB (hwW.at 1 rfl) l3 (hcC.l l3 7 rfl) (hcC.l l15 23 rfl) @hd1
   ·have l2 := hcC.l hbB 2 rfl; have l3 := hcC.l l2 3 rfl; have l10 := hcC.l l3 10 rfl; have l15 := hcC.l l10 15 rfl; exact Ds5 hbB (hwW.at 0 rfl) l2 (hcC.l l3 7 rfl) (hcC.l l15 23 rfl) @hd1
   ·have l1 := hcC.l hbB 1 rfl; have l2 := hcC.l l1 2 rfl; have l3 := hcC.l l2 3 rfl; have l10 := hcC.l l3 10 rfl; have l15 := hcC.l l10 15 rfl; exact Ds4 hbB l1 (hcC.l l3 7 rfl) (hcC.l l15 23 rfl) @hd1
  simp only [List.length_cons, List.length_nil, Nat.reduceAdd, Nat.reduceLT, decide_true, if_true]
  refine Dd0 ?_
  refine TW_cond rfl (fun hc => ?_) (fun hc => ?_)
  ·refine Dd0 ?_
   (refine ⟨by simp, ?_⟩; simp only [go_sem, Try.results14])
  ·simp at hc
 ·have hd1 : decide (p < 0) = false := decide_eq_false h1
  by_cases h2 : p ≥ P.length
  ·have hd2 : decide (p ≥ (P.length : Int)) = true := decide_eq_true h2
   refine Ret_of_body Try.func14 (by kernel_rfl) rfl ?_; rw [Try.ntmps14]
   refine Dd0 ?_
   refine TW_sub (Sub_bl 6) ?_
   refine TW_open mixed (by kernel_rfl) (fun b => ⟨[.sl f (pgs P), .junk, .junk, .ptr 3 0, .ptr 4 0, .bool false, if b 0 = true then .ptr 3 0 else .junk, if b 1 = true then .int .i64 p else .junk, if b 2 = true then .bool false else .junk, if b 3 = true then .bool false else .junk, if b 4 = true then .ptr 3 0 else .junk, if b 5 = true then .int .i64 p else .junk, if b 6 = true then .sl f (pgs P) else .junk, if b 7 = true then .int .i64 (↑P.length : Int) else .junk, if b 8 = true then .bool true else .junk, if b 9 = true then .bool true else .junk, if b 10 = true then .bool true else .junk, if b 11 = true then .tup [] else .junk, if b 12 = true then .tup [] else .junk, if b 13 = true then .tup [] else .junk, if b 14 = true then .bool true else .junk, if b 15 = true then .bool true else .junk, if b 16 = true then .tup [] else .junk, if b 17 = true then .tup [] else .junk, if b 18 = true then .tup [] else .junk, if b 19 = true then .tup [] else .junk, if b 20 = true then .tup [] else .junk, if b 21 = true then .tup [] else .junk, if b 22 = true then .tup [] else .junk, if b 23 = true then .tup [] else .junk, if b 24 = true then .tup [] else .junk, if b 25 = true then .bool true else .junk, .junk, .junk, .junk, .junk, .junk, .junk, .junk, .junk, .junk, .junk], [.un, .un, .un, .box [.int .i64 p, .int .i64 k, .int .i64 n], .box [.int .i64 0, .int .i64 0], .un, .un, .un, .un, .un, .un, .un, .un, .un, .un, .un, .un, .un, .un, .un, .un, .un, .un, .un, .un, .un, .un, .un, .un, .un, .un, .un, .un, .un, .un, .un, .un, .un, .un, .un, .un, .un], 0⟩) rfl ?_ ?_
   ·skip
    (repeat refine Di ?_ (fun b hwW hbB hcC => ?_)); (exact trivial)
    ·have w15 := hwW.at 15 rfl; have w24 := hwW.at 24 rfl; have w14 := (hcC 15 _ rfl w15).at 14 rfl; have w10 := (hcC 14 _ rfl w14).at 10 rfl; have w9 := (hcC 10 _ rfl w10).at 9 rfl; have w8 := (hcC 9 _ rfl w9).at 8 rfl; exact Ds6 hbB ((hcC 8 _ rfl w8).at 7 rfl) w15 ((hcC 24 _ rfl w24).at 23 rfl) w24 @hd1 @hd2
    ·have w15 := hwW.at 15 rfl; have w14 := (hcC 15 _ rfl w15).at 14 rfl; have w10 := (hcC 14 _ rfl w14).at 10 rfl; have w9 := (hcC 10 _ rfl w10).at 9 rfl; have w8 := (hcC 9 _ rfl w9).at 8 rfl; exact Ds7 hbB ((hcC 8 _ rfl w8).at 7 rfl) w15 (hwW.at 17 rfl) (hwW.at 23 rfl) (hcC.l hbB 25 rfl) @hd1 @hd2
    ·have w15 := hwW.at 15 rfl; have w14 := (hcC 15 _ rfl w15).at 14 rfl; have w10 := (hcC 14 _ rfl w14).at 10 rfl; have w9 := (hcC 10 _ rfl w10).at 9 rfl; have w8 := (hcC 9 _ rfl w9).at 8 rfl; exact Ds6 hbB ((hcC 8 _ rfl w8).at 7 rfl) w15 (hwW.at 22 rfl) (hcC.l hbB 24 rfl) @hd1 @hd2
    ·have w15 := hwW.at 15 rfl; have w14 := (hcC 15 _ rfl w15).at 14 rfl; have w10 := (hcC 14 _ rfl w14).at 10 rfl; have w9 := (hcC 10 _ rfl w10).at 9 rfl; have w8 := (hcC 9 _ rfl w9).at 8 rfl; exact Ds6 hbB ((hcC 8 _ rfl w8).at 7 rfl) w15 (hwW.at 21 rfl) (hcC.l hbB 23 rfl) @hd1 @hd2
    ·have w15 := hwW.at 15 rfl; have w14 := (hcC 15 _ rfl w15).at 14 rfl; have w10 := (hcC 14 _ rfl w14).at 10 rfl; have w9 := (hcC 10 _ rfl w10).at 9 rfl; have w8 := (hcC 9 _ rfl w9).at 8 rfl; have l22 := hcC.l hbB 22 rfl; exact Ds8 hbB ((hcC 8 _ rfl w8).at 7 rfl) w15 (hwW.at 18 rfl) (hwW.at 20 rfl) l22 (hcC.l l22 23 rfl) @hd1 @hd2
    ·have w15 := hwW.at 15 rfl; have w14 := (hcC 15 _ rfl w15).at 14 rfl; have w10 := (hcC 14 _ rfl w14).at 10 rfl; have w9 := (hcC 10 _ rfl w10).at 9 rfl; have w8 := (hcC 9 _ rfl w9).at 8 rfl; have l21 := hcC.l hbB 21 rfl; have l22 := hcC.l l21 22 rfl; exact Ds7 hbB ((hcC 8 _ rfl w8).at 7 rfl) w15 (hwW.at 19 rfl) l21 (hcC.l l22 23 rfl) @hd1 @hd2
    ·have w15 := hwW.at 15 rfl; have w14 := (hcC 15 _ rfl w15).at 14 rfl; have w10 := (hcC 14 _ rfl w14).at 10 rfl; have w9 := (hcC 10 _ rfl w10).at 9 rfl; have w8 := (hcC 9 _ rfl w9).at 8 rfl; have l20 := hcC.l hbB 20 rfl; have l21 := hcC.l l20 21 rfl; have l22 := hcC.l l21 22 rfl; exact Ds6 hbB ((hcC 8 _ rfl w8).at 7 rfl) w15 l20 (hcC.l l22 23 rfl) @hd1 @hd2
    ·have w15 := hwW.at 15 rfl; have w14 := (hcC 15 _ rfl w15).at 14 rfl; have w10 := (hcC 14 _ rfl w14).at 10 rfl; have w9 := (hcC 10 _ rfl w10).at 9 rfl; have w8 := (hcC 9 _ rfl w9).at 8 rfl; have l21 := hcC.l hbB 21 rfl; have l22 := hcC.l l21 22 rfl; exact Ds6 hbB ((hcC 8 _ rfl w8).at 7 rfl) w15 l21 (hcC.l l22 23 rfl) @hd1 @hd2
    ·have w15 := hwW.at 15 rfl; have w14 := (hcC 15 _ rfl w15).at 14 rfl; have w10 := (hcC 14 _ rfl w14).at 10 rfl; have w9 := (hcC 10 _ rfl w10).at 9 rfl; have w8 := (hcC 9 _ rfl w9).at 8 rfl; exact Ds6 hbB ((hcC 8 _ rfl w8).at 7 rfl) w15 (hwW.at 16 rfl) (hcC.l hbB 24 rfl) @hd1 @hd2
    ·have w15 := hwW.at 15 rfl; have w14 := (hcC 15 _ rfl w15).at 14 rfl; have w10 := (hcC 14 _ rfl w14).at 10 rfl; have w9 := (hcC 10 _ rfl w10).at 9 rfl; have w8 := (hcC 9 _ rfl w9).at 8 rfl; exact Ds5 hbB ((hcC 8 _ rfl w8).at 7 rfl) w15 (hcC.l hbB 17 rfl) @hd1 @hd2
    ·have w10 := hwW.at 10 rfl; have w9 := (hcC 10 _ rfl w10).at 9 rfl; have w8 := (hcC 9 _ rfl w9).at 8 rfl; exact Ds15 hbB ((hcC 8 _ rfl w8).at 7 rfl) w10 (hwW.at 14 rfl) (hcC.l hbB 16 rfl) (hcC.l hbB 17 rfl) (hcC.l hbB 18 rfl) (hcC.l hbB 19 rfl) (hcC.l hbB 20 rfl) (hcC.l hbB 21 rfl) (hcC.l hbB 22 rfl) (hcC.l hbB 23 rfl) (hcC.l hbB 24 rfl) (hcC.l hbB 25 rfl) @hd1 @hd2
    ·have w10 := hwW.at 10 rfl; have w9 := (hcC 10 _ rfl w10).at 9 rfl; have w8 := (hcC 9 _ rfl w9).at 8 rfl; have l15 := hcC.l hbB 15 rfl; exact Ds7 hbB ((hcC 8 _ rfl w8).at 7 rfl) w10 (hwW.at 13 rfl) l15 (hcC.l l15 23 rfl) @hd1 @hd2
    ·have w10 := hwW.at 10 rfl; have w9 := (hcC 10 _ rfl w10).at 9 rfl; have w8 := (hcC 9 _ rfl w9).at 8 rfl; have l14 := hcC.l hbB 14 rfl; have l15 := hcC.l l14 15 rfl; exact Ds7 hbB ((hcC 8 _ rfl w8).at 7 rfl) w10 (hwW.at 12 rfl) l14 (hcC.l l15 23 rfl) @hd1 @hd2
    ·have w10 := hwW.at 10 rfl; have w9 := (hcC 10 _ rfl w10).at 9 rfl; have w8 := (hcC 9 _ rfl w9).at 8 rfl; have l13 := hcC.l hbB 13 rfl; have l14 := hcC.l l13 14 rfl; have l15 := hcC.l l14 15 rfl; exact Ds7 hbB ((hcC 8 _ rfl w8).at 7 rfl) w10 (hwW.at 11 rfl) l13 (hcC.l l15 23 rfl) @hd1 @hd2
    ·have w10 := hwW.at 10 rfl; have w9 := (hcC 10 _ rfl w10).at 9 rfl; have w8 := (hcC 9 _ rfl w9).at 8 rfl; have l12 := hcC.l hbB 12 rfl; have l13 := hcC.l l12 13 rfl; have l14 := hcC.l l13 14 rfl; have l15 := hcC.l l14 15 rfl; exact Ds6 hbB ((hcC 8 _ rfl w8).at 7 rfl) w10 l12 (hcC.l l15 23 rfl) @hd1 @hd2
    ·have w9 := hwW.at 9 rfl; have w8 := (hcC 9 _ rfl w9).at 8 rfl; have l15 := hcC.l hbB 15 rfl; exact Ds11 hbB (hwW.at 3 rfl) ((hcC 8 _ rfl w8).at 7 rfl) w9 (hcC.l hbB 11 rfl) (hcC.l hbB 12 rfl) (hcC.l hbB 13 rfl) (hcC.l hbB 14 rfl) l15 (hcC.l l15 23 rfl) @hd1 @hd2
    ·have w8 := hwW.at 8 rfl; have l10 := hcC.l hbB 10 rfl; have l15 := hcC.l l10 15 rfl; exact Ds7 hbB (hwW.at 3 rfl) ((hcC 8 _ rfl w8).at 7 rfl) w8 l10 (hcC.l l15 23 rfl) @hd1 @hd2
    ·have l9 := hcC.l hbB 9 rfl; have l10 := hcC.l l9 10 rfl; have l15 := hcC.l l10 15 rfl; exact Ds7 hbB (hwW.at 3 rfl) (hwW.at 5 rfl) (hwW.at 7 rfl) l9 (hcC.l l15 23 rfl) @hd1 @hd2
    ·have l8 := hcC.l hbB 8 rfl; have l9 := hcC.l l8 9 rfl; have l10 := hcC.l l9 10 rfl; have l15 := hcC.l l10 15 rfl; exact Ds6 hbB (hwW.at 3 rfl) (hwW.at 6 rfl) l8 (hcC.l l15 23 rfl) @hd1 @hd2
    ·have l7 := hcC.l hbB 7 rfl; have l8 := hcC.l l7 8 rfl; have l9 := hcC.l l8 9 rfl; have l10 := hcC.l l9 10 rfl; have l15 := hcC.l l10 15 rfl; exact Ds5 hbB (hwW.at 3 rfl) l7 (hcC.l l15 23 rfl) @hd1 @hd2
    ·have l8 := hcC.l hbB 8 rfl; have l9 := hcC.l l8 9 rfl; have l10 := hcC.l l9 10 rfl; have l15 := hcC.l l10 15 rfl; exact Ds6 hbB (hwW.at 3 rfl) (hwW.at 4 rfl) l8 (hcC.l l15 23 rfl) @hd1 @hd2
    ·have l5 := hcC.l hbB 5 rfl; have l8 := hcC.l l5 8 rfl; have l9 := hcC.l l8 9 rfl; have l10 := hcC.l l9 10 rfl; have l15 := hcC.l l10 15 rfl; exact Ds5 hbB (hwW.at 3 rfl) l5 (hcC.l l15 23 rfl) @hd1 @hd2
    ·have l10 := hcC.l hbB 10 rfl; have l15 := hcC.l l10 15 rfl; exact Ds11 hbB (hwW.at 2 rfl) (hcC.l hbB 4 rfl) (hcC.l hbB 5 rfl) (hcC.l hbB 6 rfl) (hcC.l hbB 7 rfl) (hcC.l hbB 8 rfl) (hcC.l hbB 9 rfl) l10 (hcC.l l15 23 rfl) @hd1 @hd2
    ·have l3 := hcC.l hbB 3 rfl; have l10 := hcC.l l3 10 rfl; have l15 := hcC.l l10 15 rfl; exact Ds6 hbB (hwW.at 1 rfl) l3 (hcC.l l3 7 rfl) (hcC.l l15 23 rfl) @hd1 @hd2
    ·have l2 := hcC.l hbB 2 rfl; have l3 := hcC.l l2 3 rfl; have l10 := hcC.l l3 10 rfl; have l15 := hcC.l l10 15 rfl; exact Ds6 hbB (hwW.at 0 rfl) l2 (hcC.l l3 7 rfl) (hcC.l l15 23 rfl) @hd1 @hd2
    ·have l1 := hcC.l hbB 1 rfl; have l2 := hcC.l l1 2 rfl; have l3 := hcC.l l2 3 rfl; have l10 := hcC.l l3 10 rfl; have l15 := hcC.l l10 15 rfl; exact Ds5 hbB l1 (hcC.l l3 7 rfl) (hcC.l l15 23 rfl) @hd1 @hd2
   simp only [List.length_cons, List.length_nil, Nat.reduceAdd, Nat.reduceLT, decide_true, if_true]
   refine Dd0 ?_
   refine TW_cond rfl (fun hc => ?_) (fun hc => ?_)
   ·refine Dd0 ?_
    (refine ⟨by simp, ?_⟩; simp only [go_sem, Try.results14])
   ·simp at hc
  ·have hd2 : decide (p ≥ (P.length : Int)) = false := decide_eq_false h2
   obtain ⟨i, rfl⟩ : ∃ i : Nat, p = i := ⟨p.toNat, by omega⟩
   have hi : i < P.length := by omega
   have hg := pgs_get P i hi
   have hbi := hb i
   rw [Int.toNat_natCast] at h
   by_cases h3 : k < 0
   ·have hd3 : decide (k < 0) = true := decide_eq_true h3
    refine Ret_of_body Try.func14 (by kernel_rfl) rfl ?_; rw [Try.ntmps14]
    refine Dd0 ?_
    refine TW_sub (Sub_bl 6) ?_
    refine TW_open mixed (by kernel_rfl) (fun b => ⟨[.sl f (pgs P), .junk, .junk, .ptr 3 0, .ptr 4 0, .bool false, if b 0 = true then .ptr 3 0 else .junk, if b 1 = true then .int .i64 (↑i : Int) else .junk, if b 2 = true then .bool false else .junk, if b 3 = true then .bool false else .junk, if b 4 = true then .ptr 3 0 else .junk, if b 5 = true then .int .i64 (↑i : Int) else .junk, if b 6 = true then .sl f (pgs P) else .junk, if b 7 = true then .int .i64 (↑P.length : Int) else .junk, if b 8 = true then .bool false else .junk, if b 9 = true then .bool false else .junk, if b 10 = true then .bool false else .junk, if b 11 = true then .ptr 3 1 else .junk, if b 12 = true then .int .i64 k else .junk, if b 13 = true then .bool true else .junk, if b 14 = true then .bool true else .junk, if b 15 = true then .bool true else .junk, if b 16 = true then .tup [] else .junk, if b 17 = true then .tup [] else .junk, if b 18 = true then .tup [] else .junk, if b 19 = true then .tup [] else .junk, if b 20 = true then .tup [] else .junk, if b 21 = true then .tup [] else .junk, if b 22 = true then .tup [] else .junk, if b 23 = true then .tup [] else .junk, if b 24 = true then .tup [] else .junk, if b 25 = true then .bool true else .junk, .junk, .junk, .junk, .junk, .junk, .junk, .junk, .junk, .junk, .junk], [.un, .un, .un, .box [.int .i64 (↑i : Int), .int .i64 k, .int .i64 n], .box [.int .i64 0, .int .i64 0], .un, .un, .un, .un, .un, .un, .un, .un, .un, .un, .un, .un, .un, .un, .un, .un, .un, .un, .un, .un, .un, .un, .un, .un, .un, .un, .un, .un, .un, .un, .un, .un, .un, .un, .un, .un, .un], 0⟩) rfl ?_ ?_
    ·skip
     (repeat refine Di ?_ (fun b hwW hbB hcC => ?_)); (exact trivial)
     ·have w15 := hwW.at 15 rfl; have w24 := hwW.at 24 rfl; have w14 := (hcC 15 _ rfl w15).at 14 rfl; have w10 := (hcC 14 _ rfl w14).at 10 rfl; have w9 := (hcC 10 _ rfl w10).at 9 rfl; have w8 := (hcC 9 _ rfl w9).at 8 rfl; exact Ds7 hbB ((hcC 8 _ rfl w8).at 7 rfl) w15 ((hcC 24 _ rfl w24).at 23 rfl) w24 @hd1 @hd2 @hd3
     ·have w15 := hwW.at 15 rfl; have w14 := (hcC 15 _ rfl w15).at 14 rfl; have w10 := (hcC 14 _ rfl w14).at 10 rfl; have w9 := (hcC 10 _ rfl w10).at 9 rfl; have w8 := (hcC 9 _ rfl w9).at 8 rfl; exact Ds8 hbB ((hcC 8 _ rfl w8).at 7 rfl) w15 (hwW.at 17 rfl) (hwW.at 23 rfl) (hcC.l hbB 25 rfl) @hd1 @hd2 @hd3
     ·have w15 := hwW.at 15 rfl; have w14 := (hcC 15 _ rfl w15).at 14 rfl; have w10 := (hcC 14 _ rfl w14).at 10 rfl; have w9 := (hcC 10 _ rfl w10).at 9 rfl; have w8 := (hcC 9 _ rfl w9).at 8 rfl; exact Ds7 hbB ((hcC 8 _ rfl w8).at 7 rfl) w15 (hwW.at 22 rfl) (hcC.l hbB 24 rfl) @hd1 @hd2 @hd3
     ·have w15 := hwW.at 15 rfl; have w14 := (hcC 15 _ rfl w15).at 14 rfl; have w10 := (hcC 14 _ rfl w14).at 10 rfl; have w9 := (hcC 10 _ rfl w10).at 9 rfl; have w8 := (hcC 9 _ rfl w9).at 8 rfl; exact Ds7 hbB ((hcC 8 _ rfl w8).at 7 rfl) w15 (hwW.at 21 rfl) (hcC.l hbB 23 rfl) @hd1 @hd2 @hd3
     ·have w15 := hwW.at 15 rfl; have w14 := (hcC 15 _ rfl w15).at 14 rfl; have w10 := (hcC 14 _ rfl w14).at 10 rfl; have w9 := (hcC 10 _ rfl w10).at 9 rfl; have w8 := (hcC 9 _ rfl w9).at 8 rfl; have l22 := hcC.l hbB 22 rfl; exact Ds9 hbB ((hcC 8 _ rfl w8).at 7 rfl) w15 (hwW.at 18 rfl) (hwW.at 20 rfl) l22 (hcC.l l22 23 rfl) @hd1 @hd2 @hd3
     ·have w15 := hwW.at 15 rfl; have w14 := (hcC 15 _ rfl w15).at 14 rfl; have w10 := (hcC 14 _ rfl w14).at 10 rfl; have w9 := (hcC 10 _ rfl w10).at 9 rfl; have w8 := (hcC 9 _ rfl w9).at 8 rfl; have l21 := hcC.l hbB 21 rfl; have l22 := hcC.l l21 22 rfl; exact Ds8 hbB ((hcC 8 _ rfl w8).at 7 rfl) w15 (hwW.at 19 rfl) l21 (hcC.l l22 23 rfl) @hd1 @hd2 @hd3
     ·have w15 := hwW.at 15 rfl; have w14 := (hcC 15 _ rfl w15).at 14 rfl; have w10 := (hcC 14 _ rfl w14).at 10 rfl; have w9 := (hcC 10 _ rfl w10).at 9 rfl; have w8 := (hcC 9 _ rfl w9).at 8 rfl; have l20 := hcC.l hbB 20 rfl; have l21 := hcC.l l20 21 rfl; have l22 := hcC.l l21 22 rfl; exact Ds7 hbB ((hcC 8 _ rfl w8).at 7 rfl) w15 l20 (hcC.l l22 23 rfl) @hd1 @hd2 @hd3
     ·have w15 := hwW.at 15 rfl; have w14 := (hcC 15 _ rfl w15).at 14 rfl; have w10 := (hcC 14 _ rfl w14).at 10 rfl; have w9 := (hcC 10 _ rfl w10).at 9 rfl; have w8 := (hcC 9 _ rfl w9).at 8 rfl; have l21 := hcC.l hbB 21 rfl; have l22 := hcC.l l21 22 rfl; exact Ds7 hbB ((hcC 8 _ rfl w8).at 7 rfl) w15 l21 (hcC.l l22 23 rfl) @hd1 @hd2 @hd3
     ·have w15 := hwW.at 15 rfl; have w14 := (hcC 15 _ rfl w15).at 14 rfl; have w10 := (hcC 14 _ rfl w14).at 10 rfl; have w9 := (hcC 10 _ rfl w10).at 9 rfl; have w8 := (hcC 9 _ rfl w9).at 8 rfl; exact Ds7 hbB ((hcC 8 _ rfl w8).at 7 rfl) w15 (hwW.at 16 rfl) (hcC.l hbB 24 rfl) @hd1 @hd2 @hd3
     ·have w15 := hwW.at 15 rfl; have w14 := (hcC 15 _ rfl w15).at 14 rfl; have w10 := (hcC 14 _ rfl w14).at 10 rfl; have w9 := (hcC 10 _ rfl w10).at 9 rfl; have w8 := (hcC 9 _ rfl w9).at 8 rfl; exact Ds6 hbB ((hcC 8 _ rfl w8).at 7 rfl) w15 (hcC.l hbB 17 rfl) @hd1 @hd2 @hd3
     ·have w10 := hwW.at 10 rfl; have w9 := (hcC 10 _ rfl w10).at 9 rfl; have w8 := (hcC 9 _ rfl w9).at 8 rfl; exact Ds16 hbB ((hcC 8 _ rfl w8).at 7 rfl) w10 (hwW.at 14 rfl) (hcC.l hbB 16 rfl) (hcC.l hbB 17 rfl) (hcC.l hbB 18 rfl) (hcC.l hbB 19 rfl) (hcC.l hbB 20 rfl) (hcC.l hbB 21 rfl) (hcC.l hbB 22 rfl) (hcC.l hbB 23 rfl) (hcC.l hbB 24 rfl) (hcC.l hbB 25 rfl) @hd1 @hd2 @hd3
     ·have w10 := hwW.at 10 rfl; have w9 := (hcC 10 _ rfl w10).at 9 rfl; have w8 := (hcC 9 _ rfl w9).at 8 rfl; have l15 := hcC.l hbB 15 rfl; exact Ds8 hbB ((hcC 8 _ rfl w8).at 7 rfl) w10 (hwW.at 13 rfl) l15 (hcC.l l15 23 rfl) @hd1 @hd2 @hd3
     ·have w10 := hwW.at 10 rfl; have w9 := (hcC 10 _ rfl w10).at 9 rfl; have w8 := (hcC 9 _ rfl w9).at 8 rfl; have l14 := hcC.l hbB 14 rfl; have l15 := hcC.l l14 15 rfl; exact Ds8 hbB ((hcC 8 _ rfl w8).at 7 rfl) w10 (hwW.at 12 rfl) l14 (hcC.l l15 23 rfl) @hd1 @hd2 @hd3
     ·have w10 := hwW.at 10 rfl; have w9 := (hcC 10 _ rfl w10).at 9 rfl; have w8 := (hcC 9 _ rfl w9).at 8 rfl; have l13 := hcC.l hbB 13 rfl; have l14 := hcC.l l13 14 rfl; have l15 := hcC.l l14 15 rfl; exact Ds8 hbB ((hcC 8 _ rfl w8).at 7 rfl) w10 (hwW.at 11 rfl) l13 (hcC.l l15 23 rfl) @hd1 @hd2 @hd3
     ·have w10 := hwW.at 10 rfl; have w9 := (hcC 10 _ rfl w10).at 9 rfl; have w8 := (hcC 9 _ rfl w9).at 8 rfl; have l12 := hcC.l hbB 12 rfl; have l13 := hcC.l l12 13 rfl; have l14 := hcC.l l13 14 rfl; have l15 := hcC.l l14 15 rfl; exact Ds7 hbB ((hcC 8 _ rfl w8).at 7 rfl) w10 l12 (hcC.l l15 23 rfl) @hd1 @hd2 @hd3
     ·have w9 := hwW.at 9 rfl; have w8 := (hcC 9 _ rfl w9).at 8 rfl; have l15 := hcC.l hbB 15 rfl; exact Ds12 hbB (hwW.at 3 rfl) ((hcC 8 _ rfl w8).at 7 rfl) w9 (hcC.l hbB 11 rfl) (hcC.l hbB 12 rfl) (hcC.l hbB 13 rfl) (hcC.l hbB 14 rfl) l15 (hcC.l l15 23 rfl) @hd1 @hd2 @hd3
     ·have w8 := hwW.at 8 rfl; have l10 := hcC.l hbB 10 rfl; have l15 := hcC.l l10 15 rfl; exact Ds8 hbB (hwW.at 3 rfl) ((hcC 8 _ rfl w8).at 7 rfl) w8 l10 (hcC.l l15 23 rfl) @hd1 @hd2 @hd3
     ·have l9 := hcC.l hbB 9 rfl; have l10 := hcC.l l9 10 rfl; have l15 := hcC.l l10 15 rfl; exact Ds8 hbB (hwW.at 3 rfl) (hwW.at 5 rfl) (hwW.at 7 rfl) l9 (hcC.l l15 23 rfl) @hd1 @hd2 @hd3
     ·have l8 := hcC.l hbB 8 rfl; have l9 := hcC.l l8 9 rfl; have l10 := hcC.l l9 10 rfl; have l15 := hcC.l l10 15 rfl; exact Ds7 hbB (hwW.at 3 rfl) (hwW.at 6 rfl) l8 (hcC.l l15 23 rfl) @hd1 @hd2 @hd3
     ·have l7 := hcC.l hbB 7 rfl; have l8 := hcC.l l7 8 rfl; have l9 := hcC.l l8 9 rfl; have l10 := hcC.l l9 10 rfl; have l15 := hcC.l l10 15 rfl; exact Ds6 hbB (hwW.at 3 rfl) l7 (hcC.l l15 23 rfl) @hd1 @hd2 @hd3
     ·have l8 := hcC.l hbB 8 rfl; have l9 := hcC.l l8 9 rfl; have l10 := hcC.l l9 10 rfl; have l15 := hcC.l l10 15 rfl; exact Ds7 hbB (hwW.at 3 rfl) (hwW.at 4 rfl) l8 (hcC.l l15 23 rfl) @hd1 @hd2 @hd3
     ·have l5 := hcC.l hbB 5 rfl; have l8 := hcC.l l5 8 rfl; have l9 := hcC.l l8 9 rfl; have l10 := hcC.l l9 10 rfl; have l15 := hcC.l l10 15 rfl; exact Ds6 hbB (hwW.at 3 rfl) l5 (hcC.l l15 23 rfl) @hd1 @hd2 @hd3
     ·have l10 := hcC.l hbB 10 rfl; have l15 := hcC.l l10 15 rfl; exact Ds12 hbB (hwW.at 2 rfl) (hcC.l hbB 4 rfl) (hcC.l hbB 5 rfl) (hcC.l hbB 6 rfl) (hcC.l hbB 7 rfl) (hcC.l hbB 8 rfl) (hcC.l hbB 9 rfl) l10 (hcC.l l15 23 rfl) @hd1 @hd2 @hd3
     ·have l3 := hcC.l hbB 3 rfl; have l10 := hcC.l l3 10 rfl; have l15 := hcC.l l10 15 rfl; exact Ds7 hbB (hwW.at 1 rfl) l3 (hcC.l l3 7 rfl) (hcC.l l15 23 rfl) @hd1 @hd2 @hd3
     ·have l2 := hcC.l hbB 2 rfl; have l3 := hcC.l l2 3 rfl; have l10 := hcC.l l3 10 rfl; have l15 := hcC.l l10 15 rfl; exact Ds7 hbB (hwW.at 0 rfl) l2 (hcC.l l3 7 rfl) (hcC.l l15 23 rfl) @hd1 @hd2 @hd3
     ·have l1 := hcC.l hbB 1 rfl; have l2 := hcC.l l1 2 rfl; have l3 := hcC.l l2 3 rfl; have l10 := hcC.l l3 10 rfl; have l15 := hcC.l l10 15 rfl; exact Ds6 hbB l1 (hcC.l l3 7 rfl) (hcC.l l15 23 rfl) @hd1 @hd2 @hd3
    simp only [List.length_cons, List.length_nil, Nat.reduceAdd, Nat.reduceLT, decide_true, if_true]
    refine Dd0 ?_
    refine TW_cond rfl (fun hc => ?_) (fun hc => ?_)
    ·refine Dd0 ?_
     (refine ⟨by simp, ?_⟩; simp only [go_sem, Try.results14])
    ·simp at hc
   ·have hd3 : decide (k < 0) = false := decide_eq_false h3
    have hd4 : decide (k ≥ ((pgN P i).length : Int)) = true := decide_eq_true (by omega)
    refine Ret_of_body Try.func14 (by kernel_rfl) rfl ?_; rw [Try.ntmps14]
    refine Dd0 ?_
    refine TW_sub (Sub_bl 6) ?_
    refine TW_open mixed (by kernel_rfl) (fun b => ⟨[.sl f (pgs P), .junk, .junk, .ptr 3 0, .ptr 4 0, .bool false, if b 0 = true then .ptr 3 0 else .junk, if b 1 = true then .int .i64 (↑i : Int) else .junk, if b 2 = true then .bool false else .junk, if b 3 = true then .bool false else .junk, if b 4 = true then .ptr 3 0 else .junk, if b 5 = true then .int .i64 (↑i : Int) else .junk, if b 6 = true then .sl f (pgs P) else .junk, if b 7 = true then .int .i64 (↑P.length : Int) else .junk, if b 8 = true then .bool false else .junk, if b 9 = true then .bool false else .junk, if b 10 = true then .bool false else .junk, if b 11 = true then .ptr 3 1 else .junk, if b 12 = true then .int .i64 k else .junk, if b 13 = true then .bool false else .junk, if b 14 = true then .bool false else .junk, if b 15 = true then .bool false else .junk, if b 16 = true then .ptr 3 1 else .junk, if b 17 = true then .int .i64 k else .junk, if b 18 = true then .sl f (pgs P) else .junk, if b 19 = true then .ptr 3 0 else .junk, if b 20 = true then .int .i64 (↑i : Int) else .junk, if b 21 = true then .cptr [.sl false (mails (pgN P i))] else .junk, if b 22 = true then .sl false (mails (pgN P i)) else .junk, if b 23 = true then .int .i64 (↑(pgN P i).length : Int) else .junk, if b 24 = true then .bool true else .junk, if b 25 = true then .bool true else .junk, .junk, .junk, .junk, .junk, .junk, .junk, .junk, .junk, .junk, .junk], [.un, .un, .un, .box [.int .i64 (↑i : Int), .int .i64 k, .int .i64 n], .box [.int .i64 0, .int .i64 0], .un, .un, .un, .un, .un, .un, .un, .un, .un, .un, .un, .un, .un, .un, .un, .un, .un, .un, .un, .un, .un, .un, .un, .un, .un, .un, .un, .un, .un, .un, .un, .un, .un, .un, .un, .un, .un], 0⟩) rfl ?_ ?_
    ·skip
     (repeat refine Di ?_ (fun b hwW hbB hcC => ?_)); (exact trivial)
     ·have w15 := hwW.at 15 rfl; have w24 := hwW.at 24 rfl; have w14 := (hcC 15 _ rfl w15).at 14 rfl; have w10 := (hcC 14 _ rfl w14).at 10 rfl; have w9 := (hcC 10 _ rfl w10).at 9 rfl; have w8 := (hcC 9 _ rfl w9).at 8 rfl; exact Ds9 hbB ((hcC 8 _ rfl w8).at 7 rfl) w15 ((hcC 24 _ rfl w24).at 23 rfl) w24 @hd1 @hd2 @hd3 @hd4 @hg
     ·have w15 := hwW.at 15 rfl; have w14 := (hcC 15 _ rfl w15).at 14 rfl; have w10 := (hcC 14 _ rfl w14).at 10 rfl; have w9 := (hcC 10 _ rfl w10).at 9 rfl; have w8 := (hcC 9 _ rfl w9).at 8 rfl; exact Ds10 hbB ((hcC 8 _ rfl w8).at 7 rfl) w15 (hwW.at 17 rfl) (hwW.at 23 rfl) (hcC.l hbB 25 rfl) @hd1 @hd2 @hd3 @hd4 @hg
     ·have w15 := hwW.at 15 rfl; have w14 := (hcC 15 _ rfl w15).at 14 rfl; have w10 := (hcC 14 _ rfl w14).at 10 rfl; have w9 := (hcC 10 _ rfl w10).at 9 rfl; have w8 := (hcC 9 _ rfl w9).at 8 rfl; exact Ds9 hbB ((hcC 8 _ rfl w8).at 7 rfl) w15 (hwW.at 22 rfl) (hcC.l hbB 24 rfl) @hd1 @hd2 @hd3 @hd4 @hg
     ·have w15 := hwW.at 15 rfl; have w14 := (hcC 15 _ rfl w15).at 14 rfl; have w10 := (hcC 14 _ rfl w14).at 10 rfl; have w9 := (hcC 10 _ rfl w10).at 9 rfl; have w8 := (hcC 9 _ rfl w9).at 8 rfl; exact Ds9 hbB ((hcC 8 _ rfl w8).at 7 rfl) w15 (hwW.at 21 rfl) (hcC.l hbB 23 rfl) @hd1 @hd2 @hd3 @hd4 @hg
     ·have w15 := hwW.at 15 rfl; have w14 := (hcC 15 _ rfl w15).at 14 rfl; have w10 := (hcC 14 _ rfl w14).at 10 rfl; have w9 := (hcC 10 _ rfl w10).at 9 rfl; have w8 := (hcC 9 _ rfl w9).at 8 rfl; have l22 := hcC.l hbB 22 rfl; exact Ds11 hbB ((hcC 8 _ rfl w8).at 7 rfl) w15 (hwW.at 18 rfl) (hwW.at 20 rfl) l22 (hcC.l l22 23 rfl) @hd1 @hd2 @hd3 @hd4 @hg
     ·have w15 := hwW.at 15 rfl; have w14 := (hcC 15 _ rfl w15).at 14 rfl; have w10 := (hcC 14 _ rfl w14).at 10 rfl; have w9 := (hcC 10 _ rfl w10).at 9 rfl; have w8 := (hcC 9 _ rfl w9).at 8 rfl; have l21 := hcC.l hbB 21 rfl; have l22 := hcC.l l21 22 rfl; exact Ds10 hbB ((hcC 8 _ rfl w8).at 7 rfl) w15 (hwW.at 19 rfl) l21 (hcC.l l22 23 rfl) @hd1 @hd2 @hd3 @hd4 @hg
     ·have w15 := hwW.at 15 rfl; have w14 := (hcC 15 _ rfl w15).at 14 rfl; have w10 := (hcC 14 _ rfl w14).at 10 rfl; have w9 := (hcC 10 _ rfl w10).at 9 rfl; have w8 := (hcC 9 _ rfl w9).at 8 rfl; have l20 := hcC.l hbB 20 rfl; have l21 := hcC.l l20 21 rfl; have l22 := hcC.l l21 22 rfl; exact Ds9 hbB ((hcC 8 _ rfl w8).at 7 rfl) w15 l20 (hcC.l l22 23 rfl) @hd1 @hd2 @hd3 @hd4 @hg
     ·have w15 := hwW.at 15 rfl; have w14 := (hcC 15 _ rfl w15).at 14 rfl; have w10 := (hcC 14 _ rfl w14).at 10 rfl; have w9 := (hcC 10 _ rfl w10).at 9 rfl; have w8 := (hcC 9 _ rfl w9).at 8 rfl; have l21 := hcC.l hbB 21 rfl; have l22 := hcC.l l21 22 rfl; exact Ds9 hbB ((hcC 8 _ rfl w8).at 7 rfl) w15 l21 (hcC.l l22 23 rfl) @hd1 @hd2 @hd3 @hd4 @hg
     ·have w15 := hwW.at 15 rfl; have w14 := (hcC 15 _ rfl w15).at 14 rfl; have w10 := (hcC 14 _ rfl w14).at 10 rfl; have w9 := (hcC 10 _ rfl w10).at 9 rfl; have w8 := (hcC 9 _ rfl w9).at 8 rfl; exact Ds9 hbB ((hcC 8 _ rfl w8).at 7 rfl) w15 (hwW.at 16 rfl) (hcC.l hbB 24 rfl) @hd1 @hd2 @hd3 @hd4 @hg
     ·have w15 := hwW.at 15 rfl; have w14 := (hcC 15 _ rfl w15).at 14 rfl; have w10 := (hcC 14 _ rfl w14).at 10 rfl; have w9 := (hcC 10 _ rfl w10).at 9 rfl; have w8 := (hcC 9 _ rfl w9).at 8 rfl; exact Ds8 hbB ((hcC 8 _ rfl w8).at 7 rfl) w15 (hcC.l hbB 17 rfl) @hd1 @hd2 @hd3 @hd4 @hg
     ·have w10 := hwW.at 10 rfl; have w9 := (hcC 10 _ rfl w10).at 9 rfl; have w8 := (hcC 9 _ rfl w9).at 8 rfl; exact Ds18 hbB ((hcC 8 _ rfl w8).at 7 rfl) w10 (hwW.at 14 rfl) (hcC.l hbB 16 rfl) (hcC.l hbB 17 rfl) (hcC.l hbB 18 rfl) (hcC.l hbB 19 rfl) (hcC.l hbB 20 rfl) (hcC.l hbB 21 rfl) (hcC.l hbB 22 rfl) (hcC.l hbB 23 rfl) (hcC.l hbB 24 rfl) (hcC.l hbB 25 rfl) @hd1 @hd2 @hd3 @hd4 @hg
     ·have w10 := hwW.at 10 rfl; have w9 := (hcC 10 _ rfl w10).at 9 rfl; have w8 := (hcC 9 _ rfl w9).at 8 rfl; have l15 := hcC.l hbB 15 rfl; exact Ds10 hbB ((hcC 8 _ rfl w8).at 7 rfl) w10 (hwW.at 13 rfl) l15 (hcC.l l15 23 rfl) @hd1 @hd2 @hd3 @hd4 @hg
     ·have w10 := hwW.at 10 rfl; have w9 := (hcC 10 _ rfl w10).at 9 rfl; have w8 := (hcC 9 _ rfl w9).at 8 rfl; have l14 := hcC.l hbB 14 rfl; have l15 := hcC.l l14 15 rfl; exact Ds10 hbB ((hcC 8 _ rfl w8).at 7 rfl) w10 (hwW.at 12 rfl) l14 (hcC.l l15 23 rfl) @hd1 @hd2 @hd3 @hd4 @hg
     ·have w10 := hwW.at 10 rfl; have w9 := (hcC 10 _ rfl w10).at 9 rfl; have w8 := (hcC 9 _ rfl w9).at 8 rfl; have l13 := hcC.l hbB 13 rfl; have l14 := hcC.l l13 14 rfl; have l15 := hcC.l l14 15 rfl; exact Ds10 hbB ((hcC 8 _ rfl w8).at 7 rfl) w10 (hwW.at 11 rfl) l13 (hcC.l l15 23 rfl) @hd1 @hd2 @hd3 @hd4 @hg
     ·have w10 := hwW.at 10 rfl; have w9 := (hcC 10 _ rfl w10).at 9 rfl; have w8 := (hcC 9 _ rfl w9).at 8 rfl; have l12 := hcC.l hbB 12 rfl; have l13 := hcC.l l12 13 rfl; have l14 := hcC.l l13 14 rfl; have l15 := hcC.l l14 15 rfl; exact Ds9 hbB ((hcC 8 _ rfl w8).at 7 rfl) w10 l12 (hcC.l l15 23 rfl) @hd1 @hd2 @hd3 @hd4 @hg
     ·have w9 := hwW.at 9 rfl; have w8 := (hcC 9 _ rfl w9).at 8 rfl; have l15 := hcC.l hbB 15 rfl; exact Ds14 hbB (hwW.at 3 rfl) ((hcC 8 _ rfl w8).at 7 rfl) w9 (hcC.l hbB 11 rfl) (hcC.l hbB 12 rfl) (hcC.l hbB 13 rfl) (hcC.l hbB 14 rfl) l15 (hcC.l l15 23 rfl) @hd1 @hd2 @hd3 @hd4 @hg
     ·have w8 := hwW.at 8 rfl; have l10 := hcC.l hbB 10 rfl; have l15 := hcC.l l10 15 rfl; exact Ds10 hbB (hwW.at 3 rfl) ((hcC 8 _ rfl w8).at 7 rfl) w8 l10 (hcC.l l15 23 rfl) @hd1 @hd2 @hd3 @hd4 @hg
     ·have l9 := hcC.l hbB 9 rfl; have l10 := hcC.l l9 10 rfl; have l15 := hcC.l l10 15 rfl; exact Ds10 hbB (hwW.at 3 rfl) (hwW.at 5 rfl) (hwW.at 7 rfl) l9 (hcC.l l15 23 rfl) @hd1 @hd2 @hd3 @hd4 @hg
     ·have l8 := hcC.l hbB 8 rfl; have l9 := hcC.l l8 9 rfl; have l10 := hcC.l l9 10 rfl; have l15 := hcC.l l10 15 rfl; exact Ds9 hbB (hwW.at 3 rfl) (hwW.at 6 rfl) l8 (hcC.l l15 23 rfl) @hd1 @hd2 @hd3 @hd4 @hg
     ·have l7 := hcC.l hbB 7 rfl; have l8 := hcC.l l7 8 rfl; have l9 := hcC.l l8 9 rfl; have l10 := hcC.l l9 10 rfl; have l15 := hcC.l l10 15 rfl; exact Ds8 hbB (hwW.at 3 rfl) l7 (hcC.l l15 23 rfl) @hd1 @hd2 @hd3 @hd4 @hg
     ·have l8 := hcC.l hbB 8 rfl; have l9 := hcC.l l8 9 rfl; have l10 := hcC.l l9 10 rfl; have l15 := hcC.l l10 15 rfl; exact Ds9 hbB (hwW.at 3 rfl) (hwW.at 4 rfl) l8 (hcC.l l15 23 rfl) @hd1 @hd2 @hd3 @hd4 @hg
     ·have l5 := hcC.l hbB 5 rfl; have l8 := hcC.l l5 8 rfl; have l9 := hcC.l l8 9 rfl; have l10 := hcC.l l9 10 rfl; have l15 := hcC.l l10 15 rfl; exact Ds8 hbB (hwW.at 3 rfl) l5 (hcC.l l15 23 rfl) @hd1 @hd2 @hd3 @hd4 @hg
     ·have l10 := hcC.l hbB 10 rfl; have l15 := hcC.l l10 15 rfl; exact Ds14 hbB (hwW.at 2 rfl) (hcC.l hbB 4 rfl) (hcC.l hbB 5 rfl) (hcC.l hbB 6 rfl) (hcC.l hbB 7 rfl) (hcC.l hbB 8 rfl) (hcC.l hbB 9 rfl) l10 (hcC.l l15 23 rfl) @hd1 @hd2 @hd3 @hd4 @hg
     ·have l3 := hcC.l hbB 3 rfl; have l10 := hcC.l l3 10 rfl; have l15 := hcC.l l10 15 rfl; exact Ds9 hbB (hwW.at 1 rfl) l3 (hcC.l l3 7 rfl) (hcC.l l15 23 rfl) @hd1 @hd2 @hd3 @hd4 @hg
     ·have l2 := hcC.l hbB 2 rfl; have l3 := hcC.l l2 3 rfl; have l10 := hcC.l l3 10 rfl; have l15 := hcC.l l10 15 rfl; exact Ds9 hbB (hwW.at 0 rfl) l2 (hcC.l l3 7 rfl) (hcC.l l15 23 rfl) @hd1 @hd2 @hd3 @hd4 @hg
     ·have l1 := hcC.l hbB 1 rfl; have l2 := hcC.l l1 2 rfl; have l3 := hcC.l l2 3 rfl; have l10 := hcC.l l3 10 rfl; have l15 := hcC.l l10 15 rfl; exact Ds8 hbB l1 (hcC.l l3 7 rfl) (hcC.l l15 23 rfl) @hd1 @hd2 @hd3 @hd4 @hg
    simp only [List.length_cons, List.length_nil, Nat.reduceAdd, Nat.reduceLT, decide_true, if_true]
    refine Dd0 ?_
    refine TW_cond rfl (fun hc => ?_) (fun hc => ?_)
    ·refine Dd0 ?_
     (refine ⟨by simp, ?_⟩; simp only [go_sem, Try.results14])
    ·simp at hc
def bynd (a n : Int) : Bool := decide (a < 0) || decide (a ≥ n)
theorem bynd_spec (n op a : Int) : Ret Try.prog 50 [.int .i64 n, .cptr [.int .i64 op, .int .i64 a]] (.bool (bynd a n)) := by
 unfold bynd
 refine Ret_of_body Try.func50 (by kernel_rfl) rfl ?_; rw [Try.ntmps50]
 by_cases h : a < 0
 ·have hd : decide (a < 0) = true := decide_eq_true h
  refine Dd1 @hd ?_
  (refine ⟨by simp, ?_⟩; simp only [go_sem, Try.results50])
  rfl
 ·have hd : decide (a < 0) = false := decide_eq_false h
  refine Dd1 @hd ?_
  (refine ⟨by simp, ?_⟩; simp only [go_sem, Try.results50])
  rw [hd, Bool.false_or]
def outB (s x p q : Nat) (op a : Int) : Bool :=
 if op = 4 ∨ op = 5 then bynd a s else if op = 6 ∨ op = 7 then bynd a x else if op = 3 then bynd a p else if op = 9 then bynd a q else false
theorem out_spec (f f2 f3 : Bool) (sm : List (Int × List Int)) (bx : List Bx) (P : List (List (Int × Int))) (i : Nat) (op a : Int) (hi : i < P.length) (hq : (pgN P i).length ≤ 9223372036854775807) :
  Ret Try.prog 26 [.agg [.sl f (sms sm), .sl f2 (bxs bx)], .sl f3 (pgs P), .int .i64 i, .agg [.int .i64 op, .int .i64 a]] (.bool (outB sm.length bx.length P.length (pgN P i).length op a)) := by
 have hrr := pgs_1 P
 have hg := pgs_get P i hi
 refine Ret_of_body Try.func26 (by kernel_rfl) rfl ?_; rw [Try.ntmps26]
 (with_reducible refine TW_reg ?_); (repeat (first | ((with_reducible first | refine O1 rfl (fun N hN => ?_) | refine O2 rfl rfl rfl (fun N hN => ?_)); simp only [go_sem]; (try refine Or.inl ?_); (repeat (refine And.intro (by first | omega | ((try simp only [go_sem, List.length_append, lim, lim2]) <;> omega) | assumption | exact ints_1 _ | exact rfl | (simp [ints]; done)) ?_)); (first | refine hN _ ?_ | (intro _ _; refine hN _ ?_)); clear hN N) | ((with_reducible first | refine O3 rfl rfl rfl rfl ?_ | refine O4 rfl rfl rfl ?_); simp only [go_sem]))); (with_reducible refine Ops_end ?_)
 refine TW_sub (Sub_ibox 7 rfl (by rfl)) ?_
 simp only [go_sem]
 refine Dd0 ?_
 refine TW_cond rfl (fun hc => ?_) (fun hc => ?_)
 ·refine Dd0 ?_
  refine TW_cond rfl (fun hc => ?_) (fun hc => ?_)
  ·refine Dd0 ?_
   refine Dsc0 (bynd_spec sm.length op a) ?_
   refine Dd0 ?_
   (refine ⟨by simp, ?_⟩; simp only [go_sem, Try.results26])
   have h4 : op = 4 := by simpa using hc
   rw [outB, if_pos (.inl h4)]
  ·rename_i hx; simp at hc hx; omega
 ·refine Dd0 ?_
  refine TW_cond rfl (fun hc => ?_) (fun hc => ?_)
  ·refine Dd0 ?_
   ((with_reducible first | refine O1 rfl (fun N hN => ?_) | refine O2 rfl rfl rfl (fun N hN => ?_)); simp only [go_sem]; refine vCall.sc _ _ (bynd_spec sm.length op a) ?ha11 rfl (hN _ ?hk11); (case ha11 => (first | (simp only [go_sem]; done) | (simp only [go_sem] <;> (first | omega | ((try simp only [go_sem, List.length_append, lim, lim2]) <;> omega) | assumption | exact ints_1 _ | exact rfl | (simp [ints]; done))) | (simp [ints]; done))); clear hN N; apply Ops_eq; (simp only [go_sem]; rfl))
   refine Dd0 ?_
   (refine ⟨by simp, ?_⟩; simp only [go_sem, Try.results26])
   have h5 : op = 5 := by simpa using hc
   rw [outB, if_pos (.inr h5)]
  ·have h45 : ¬ (op = 4 ∨ op = 5) := by rename_i hx; simp at hc hx; omega
   rw [outB, if_neg h45]
   refine Dd0 ?_
   refine TW_cond rfl (fun hc => ?_) (fun hc => ?_)
   ·refine Dd0 ?_
    refine TW_cond rfl (fun hc => ?_) (fun hc => ?_)
    ·refine Dd0 ?_
     ((with_reducible first | refine O1 rfl (fun N hN => ?_) | refine O2 rfl rfl rfl (fun N hN => ?_)); simp only [go_sem]; refine vCall.sc _ _ (bynd_spec bx.length op a) ?ha12 rfl (hN _ ?hk12); (case ha12 => (first | (simp only [go_sem]; done) | (simp only [go_sem] <;> (first | omega | ((try simp only [go_sem, List.length_append, lim, lim2]) <;> omega) | assumption | exact ints_1 _ | exact rfl | (simp [ints]; done))) | (simp [ints]; done))); clear hN N; apply Ops_eq; (simp only [go_sem]; rfl))
     refine Dd0 ?_
     (refine ⟨by simp, ?_⟩; simp only [go_sem, Try.results26])
     have h4 : op = 6 := by simpa using hc
     rw [if_pos (.inl h4)]
    ·rename_i hx; simp at hc hx; omega
   ·refine Dd0 ?_
    refine TW_cond rfl (fun hc => ?_) (fun hc => ?_)
    ·refine Dd0 ?_
     ((with_reducible first | refine O1 rfl (fun N hN => ?_) | refine O2 rfl rfl rfl (fun N hN => ?_)); simp only [go_sem]; refine vCall.sc _ _ (bynd_spec bx.length op a) ?ha13 rfl (hN _ ?hk13); (case ha13 => (first | (simp only [go_sem]; done) | (simp only [go_sem] <;> (first | omega | ((try simp only [go_sem, List.length_append, lim, lim2]) <;> omega) | assumption | exact ints_1 _ | exact rfl | (simp [ints]; done))) | (simp [ints]; done))); clear hN N; apply Ops_eq; (simp only [go_sem]; rfl))
     refine Dd0 ?_
     (refine ⟨by simp, ?_⟩; simp only [go_sem, Try.results26])
     have h5 : op = 7 := by simpa using hc
     rw [if_pos (.inr h5)]
    ·have h67 : ¬ (op = 6 ∨ op = 7) := by rename_i hx; simp at hc hx; omega
     rw [if_neg h67]
     refine Dd0 ?_
     refine TW_cond rfl (fun hc => ?_) (fun hc => ?_)
     ·refine Dd0 ?_
      ((with_reducible first | refine O1 rfl (fun N hN => ?_) | refine O2 rfl rfl rfl (fun N hN => ?_)); simp only [go_sem]; refine vCall.sc _ _ (bynd_spec P.length op a) ?ha14 rfl (hN _ ?hk14); (case ha14 => (first | (simp only [go_sem]; done) | (simp only [go_sem] <;> (first | omega | ((try simp only [go_sem, List.length_append, lim, lim2]) <;> omega) | assumption | exact ints_1 _ | exact rfl | (simp [ints]; done))) | (simp [ints]; done))); clear hN N; apply Ops_eq; (simp only [go_sem]; rfl))
      refine Dd0 ?_
      (refine ⟨by simp, ?_⟩; simp only [go_sem, Try.results26])
      have h5 : op = 3 := by simpa using hc
      rw [if_pos h5]
     ·have h3 : ¬ op = 3 := by simpa using hc
      rw [if_neg h3]
      refine Dd0 ?_
      refine TW_cond rfl (fun hc => ?_) (fun hc => ?_)
      ·refine Dd1 @hg ?_
       ((with_reducible first | refine O1 rfl (fun N hN => ?_) | refine O2 rfl rfl rfl (fun N hN => ?_)); simp only [go_sem]; refine vCall.sc _ _ (bynd_spec (pgN P i).length op a) ?ha15 rfl (hN _ ?hk15); (case ha15 => (first | (simp only [go_sem]; done) | (simp only [go_sem] <;> (first | omega | ((try simp only [go_sem, List.length_append, lim, lim2]) <;> omega) | assumption | exact ints_1 _ | exact rfl | (simp [ints]; done))) | (simp [ints]; done))); clear hN N; apply Ops_eq; (simp only [go_sem]; rfl))
       refine Dd0 ?_
       (refine ⟨by simp, ?_⟩; simp only [go_sem, Try.results26])
       have h5 : op = 9 := by simpa using hc
       rw [if_pos h5]
      ·have h9 : ¬ op = 9 := by simpa using hc
       rw [if_neg h9]
       refine Dd0 ?_
       (refine ⟨by simp, ?_⟩; simp only [go_sem, Try.results26])
attribute [local go_sem] mails_len mails_nil mails_drop mails_take mails_snoc sms_len bxs_len pgs_len sms_nil bxs_nil sms_set bxs_set sms_snoc bxs_snoc jobC jobH
theorem do_none (f : Bool) (sm : List (Int × List Int)) (bx : List Bx) (P : List (List (Int × Int))) (p k n g : Int) (hP : P.length ≤ 1000000) (hb : ∀ i, (pgN P i).length ≤ 9223372036854775807) (h : ¬ (0 ≤ p ∧ p < P.length ∧ 0 ≤ k ∧ k < (pgN P p.toNat).length)) :
  Ret Try.prog 11 [.agg [.sl false (sms sm), .sl false (bxs bx)], .sl f (pgs P), .agg [.int .i64 p, .int .i64 k, .int .i64 n], .int .i64 g] (.tup [.agg [.sl false (sms sm), .sl false (bxs bx)], .agg [.int .i64 p, .int .i64 k, .int .i64 n], .agg [.int .i64 0, .int .i64 0, .int .i64 0, .bool false, .int .i64 0], .int .i64 4]) := by
 refine Ret_of_body Try.func11 (by kernel_rfl) rfl ?_; rw [Try.ntmps11]
 refine Dd0 ?_
 refine Dpu0 (at_none f P p k n hP hb h) ?_
 refine Dd0 ?_
 refine TW_cond rfl (fun hc => ?_) (fun hc => ?_)
 ·refine Dd0 ?_
  refine TW_sub (Sub_bl 73786976294871638181) ?_
  refine TW_open mixed (by kernel_rfl) (fun b => ⟨[.junk, .sl f (pgs P), .junk, .int .i64 g, .ptr 4 0, .junk, .ptr 6 0, .junk, .ptr 8 0, .ptr 9 0, .ptr 10 0, if b 6 = true then .int .i64 4 else .int .i64 0, .ptr 12 0, .junk, .junk, .junk, .junk, .junk, .junk, .junk, .junk, .junk, .junk, .junk, .junk, if b 0 = true then .agg [.sl false (sms sm), .sl false (bxs bx)] else .junk, if b 1 = true then .agg [.int .i64 p, .int .i64 k, .int .i64 n] else .junk, if b 2 = true then .agg [.int .i64 0, .int .i64 0, .int .i64 0, .bool false, .int .i64 0] else .junk, .junk, .junk, .junk, .junk, .junk, .junk, .junk, .junk, .junk, .junk, .junk, .junk, .junk, .junk, .junk, .junk, .junk, .junk, .junk, .junk, .junk, .junk, .junk, .junk, .junk, .junk, .junk, .junk, .junk, .junk, .junk, .junk, .junk, .junk, .junk, .junk, .junk, .junk, .junk, .junk, .junk, .junk, .junk, .junk, .junk, .junk, .junk, .junk, .junk, .junk, .junk], [.un, .un, .un, .un, .box [.sl false (sms sm), .sl false (bxs bx)], .un, .box [.int .i64 p, .int .i64 k, .int .i64 n], .un, if b 3 = true then .box [.sl false (sms sm), .sl false (bxs bx)] else .box [.nils, .nils], if b 4 = true then .box [.int .i64 p, .int .i64 k, .int .i64 n] else .box [.int .i64 0, .int .i64 0, .int .i64 0], .box [.int .i64 0, .int .i64 0, .int .i64 0, .bool false, .int .i64 0], .un, .box [.int .i64 0, .int .i64 0], .un, .un, .un, .un, .un, .un, .un, .un, .un, .un, .un, .un, .un, .un, .un, .un, .un, .un, .un, .un, .un, .un, .un, .un, .un, .un, .un, .un, .un, .un, .un, .un, .un, .un, .un, .un, .un, .un, .un, .un, .un, .un, .un, .un, .un, .un, .un, .un, .un, .un, .un, .un, .un, .un, .un, .un, .un, .un, .un, .un, .un, .un, .un, .un, .un, .un], 0⟩) rfl ?_ ?_
  ·skip
   (repeat refine Di ?_ (fun b hwW hbB hcC => ?_)); (exact trivial)
   ·exact Ds6 hbB (hwW.at 0 rfl) (hwW.at 1 rfl) (hwW.at 2 rfl) (hwW.at 3 rfl) (hwW.at 4 rfl) (hwW.at 5 rfl)
   ·exact Ds6 hbB (hwW.at 0 rfl) (hwW.at 1 rfl) (hwW.at 2 rfl) (hwW.at 3 rfl) (hwW.at 4 rfl) (hcC.l hbB 6 rfl)
   ·exact Ds5 hbB (hwW.at 0 rfl) (hwW.at 1 rfl) (hwW.at 3 rfl) (hcC.l hbB 5 rfl) (hcC.l hbB 6 rfl)
   ·exact Ds4 hbB (hwW.at 0 rfl) (hcC.l hbB 4 rfl) (hcC.l hbB 5 rfl) (hcC.l hbB 6 rfl)
   ·exact Ds2 hbB (hcC.l hbB 5 rfl) (hcC.l hbB 6 rfl)
   ·exact Ds3 hbB (hcC.l hbB 4 rfl) (hcC.l hbB 5 rfl) (hcC.l hbB 6 rfl)
   ·exact Ds4 hbB (hcC.l hbB 3 rfl) (hcC.l hbB 4 rfl) (hcC.l hbB 5 rfl) (hcC.l hbB 6 rfl)
  simp only [List.length_cons, List.length_nil, Nat.reduceAdd, Nat.reduceLT, decide_true, if_true]
  refine Dd0 ?_
  (refine ⟨by simp, ?_⟩; simp only [go_sem, Try.results11])
 ·simp at hc
theorem do_arg0 (f : Bool) (sm : List (Int × List Int)) (bx : List Bx) (P : List (List (Int × Int))) (i k : Nat) (n g op a : Int) (hP : P.length ≤ 1000000) (hi : i < P.length) (hk0 : k < (pgN P i).length) (hb : (pgN P i).length ≤ 9223372036854775807) (hat0 : atN (pgN P i) k = (op, a)) (h1 : ¬ (1 ≤ op ∧ op ≤ 10)) :
  Ret Try.prog 11 [.agg [.sl false (sms sm), .sl false (bxs bx)], .sl f (pgs P), .agg [.int .i64 i, .int .i64 k, .int .i64 n], .int .i64 g] (.tup [.agg [.sl false (sms sm), .sl false (bxs bx)], .agg [.int .i64 i, .int .i64 k, .int .i64 n], .agg [.int .i64 0, .int .i64 0, .int .i64 0, .bool false, .int .i64 0], .int .i64 1]) := by
 have hA := at_some f P i k n hP hi hk0 hb
 rw [hat0] at hA
 have hD := does_spec op
 rw [decide_eq_false h1] at hD
 generalize doesF op = F at hD
 refine Ret_of_body Try.func11 (by kernel_rfl) rfl ?_; rw [Try.ntmps11]
 refine Dd0 ?_
 refine Dpu0 (hA) ?_
 refine Dd0 ?_
 refine TW_cond rfl (fun hc => ?_) (fun hc => ?_)
 ·simp at hc
 ·refine Dd0 ?_
  ((with_reducible first | refine O1 rfl (fun N hN => ?_) | refine O2 rfl rfl rfl (fun N hN => ?_)); simp only [go_sem]; refine vCall.pu _ _ (hD) ?ha26 (hN _ ?hk26); (case ha26 => (first | (simp only [go_sem]; done) | (simp only [go_sem] <;> (first | omega | ((try simp only [go_sem, List.length_append, lim, lim2]) <;> omega) | assumption | exact ints_1 _ | exact rfl | (simp [ints]; done))) | (simp [ints]; done))); clear hN N; apply Ops_eq; (simp only [go_sem]; rfl))
  refine Dd0 ?_
  refine TW_cond rfl (fun hc => ?_) (fun hc => ?_)
  ·refine Dd0 ?_
   refine TW_sub (Sub_bl 73786993887024160935) ?_
   refine TW_open mixed (by kernel_rfl) (fun b => ⟨[.junk, .junk, .junk, .int .i64 g, .ptr 4 0, .junk, .ptr 6 0, .junk, .ptr 8 0, .ptr 9 0, .ptr 10 0, if b 6 = true then .int .i64 1 else .int .i64 0, .ptr 12 0, .junk, F, .junk, .junk, .junk, .junk, .junk, .junk, .junk, .junk, .junk, .junk, .junk, .junk, .junk, .junk, .junk, .junk, .junk, .junk, .junk, .junk, .junk, .junk, .junk, .junk, .junk, .junk, .junk, .junk, .junk, if b 0 = true then .agg [.sl false (sms sm), .sl false (bxs bx)] else .junk, if b 1 = true then .agg [.int .i64 (↑i : Int), .int .i64 (↑k : Int), .int .i64 n] else .junk, if b 2 = true then .agg [.int .i64 0, .int .i64 0, .int .i64 0, .bool false, .int .i64 0] else .junk, .junk, .junk, .junk, .junk, .junk, .junk, .junk, .junk, .junk, .junk, .junk, .junk, .junk, .junk, .junk, .junk, .junk, .junk, .junk, .junk, .junk, .junk, .junk, .junk, .junk, .junk, .junk, .junk, .junk, .junk, .junk, .junk], [.un, .un, .un, .un, .box [.sl false (sms sm), .sl false (bxs bx)], .un, .box [.int .i64 (↑i : Int), .int .i64 (↑k : Int), .int .i64 n], .un, if b 3 = true then .box [.sl false (sms sm), .sl false (bxs bx)] else .box [.nils, .nils], if b 4 = true then .box [.int .i64 (↑i : Int), .int .i64 (↑k : Int), .int .i64 n] else .box [.int .i64 0, .int .i64 0, .int .i64 0], .box [.int .i64 0, .int .i64 0, .int .i64 0, .bool false, .int .i64 0], .un, .box [.int .i64 op, .int .i64 a], .un, .un, .un, .un, .un, .un, .un, .un, .un, .un, .un, .un, .un, .un, .un, .un, .un, .un, .un, .un, .un, .un, .un, .un, .un, .un, .un, .un, .un, .un, .un, .un, .un, .un, .un, .un, .un, .un, .un, .un, .un, .un, .un, .un, .un, .un, .un, .un, .un, .un, .un, .un, .un, .un, .un, .un, .un, .un, .un, .un, .un, .un, .un, .un, .un, .un], 0⟩) rfl ?_ ?_
   ·skip
    (repeat refine Di ?_ (fun b hwW hbB hcC => ?_)); (exact trivial)
    ·exact Ds6 hbB (hwW.at 0 rfl) (hwW.at 1 rfl) (hwW.at 2 rfl) (hwW.at 3 rfl) (hwW.at 4 rfl) (hwW.at 5 rfl)
    ·exact Ds6 hbB (hwW.at 0 rfl) (hwW.at 1 rfl) (hwW.at 2 rfl) (hwW.at 3 rfl) (hwW.at 4 rfl) (hcC.l hbB 6 rfl)
    ·exact Ds5 hbB (hwW.at 0 rfl) (hwW.at 1 rfl) (hwW.at 3 rfl) (hcC.l hbB 5 rfl) (hcC.l hbB 6 rfl)
    ·exact Ds4 hbB (hwW.at 0 rfl) (hcC.l hbB 4 rfl) (hcC.l hbB 5 rfl) (hcC.l hbB 6 rfl)
    ·exact Ds2 hbB (hcC.l hbB 5 rfl) (hcC.l hbB 6 rfl)
    ·exact Ds3 hbB (hcC.l hbB 4 rfl) (hcC.l hbB 5 rfl) (hcC.l hbB 6 rfl)
    ·exact Ds4 hbB (hcC.l hbB 3 rfl) (hcC.l hbB 4 rfl) (hcC.l hbB 5 rfl) (hcC.l hbB 6 rfl)
   simp only [List.length_cons, List.length_nil, Nat.reduceAdd, Nat.reduceLT, decide_true, if_true]
   refine Dd0 ?_
   (refine ⟨by simp, ?_⟩; simp only [go_sem, Try.results11])
  ·simp at hc
theorem do_arg1 (f : Bool) (sm : List (Int × List Int)) (bx : List Bx) (P : List (List (Int × Int))) (i k : Nat) (n g op a : Int) (hP : P.length ≤ 1000000) (hi : i < P.length) (hk0 : k < (pgN P i).length) (hb : (pgN P i).length ≤ 9223372036854775807) (hat0 : atN (pgN P i) k = (op, a)) (h1 : 1 ≤ op ∧ op ≤ 10) (ho : outB sm.length bx.length P.length (pgN P i).length op a = true) :
  Ret Try.prog 11 [.agg [.sl false (sms sm), .sl false (bxs bx)], .sl f (pgs P), .agg [.int .i64 i, .int .i64 k, .int .i64 n], .int .i64 g] (.tup [.agg [.sl false (sms sm), .sl false (bxs bx)], .agg [.int .i64 i, .int .i64 k, .int .i64 n], .agg [.int .i64 0, .int .i64 0, .int .i64 0, .bool false, .int .i64 0], .int .i64 1]) := by
 have hA := at_some f P i k n hP hi hk0 hb
 rw [hat0] at hA
 have hD := does_spec op
 rw [decide_eq_true h1] at hD
 generalize doesF op = F at hD
 have hO := out_spec false false f sm bx P i op a hi hb
 rw [ho] at hO
 refine Ret_of_body Try.func11 (by kernel_rfl) rfl ?_; rw [Try.ntmps11]
 refine Dd0 ?_
 refine Dpu0 (hA) ?_
 refine Dd0 ?_
 refine TW_cond rfl (fun hc => ?_) (fun hc => ?_)
 ·simp at hc
 ·refine Dd0 ?_
  ((with_reducible first | refine O1 rfl (fun N hN => ?_) | refine O2 rfl rfl rfl (fun N hN => ?_)); simp only [go_sem]; refine vCall.pu _ _ (hD) ?ha27 (hN _ ?hk27); (case ha27 => (first | (simp only [go_sem]; done) | (simp only [go_sem] <;> (first | omega | ((try simp only [go_sem, List.length_append, lim, lim2]) <;> omega) | assumption | exact ints_1 _ | exact rfl | (simp [ints]; done))) | (simp [ints]; done))); clear hN N; apply Ops_eq; (simp only [go_sem]; rfl))
  refine Dd0 ?_
  ((with_reducible first | refine O1 rfl (fun N hN => ?_) | refine O2 rfl rfl rfl (fun N hN => ?_)); simp only [go_sem]; refine vCall.sc _ _ (hO) ?ha28 rfl (hN _ ?hk28); (case ha28 => (first | (simp only [go_sem]; done) | (simp only [go_sem] <;> (first | omega | ((try simp only [go_sem, List.length_append, lim, lim2]) <;> omega) | assumption | exact ints_1 _ | exact rfl | (simp [ints]; done))) | (simp [ints]; done))); clear hN N; apply Ops_eq; (simp only [go_sem]; rfl))
  refine Dd0 ?_
  refine TW_cond rfl (fun hc => ?_) (fun hc => ?_)
  ·refine Dd0 ?_
   refine TW_sub (Sub_bl 73786993887024160935) ?_
   refine TW_open mixed (by kernel_rfl) (fun b => ⟨[.junk, .junk, .junk, .int .i64 g, .ptr 4 0, .junk, .ptr 6 0, .junk, .ptr 8 0, .ptr 9 0, .ptr 10 0, if b 6 = true then .int .i64 1 else .int .i64 0, .ptr 12 0, .junk, F, .junk, .junk, .junk, .junk, .junk, .junk, .junk, .junk, .junk, .junk, .junk, .junk, .junk, .junk, .junk, .junk, .junk, .junk, .junk, .junk, .junk, .junk, .junk, .junk, .junk, .junk, .junk, .junk, .junk, if b 0 = true then .agg [.sl false (sms sm), .sl false (bxs bx)] else .junk, if b 1 = true then .agg [.int .i64 (↑i : Int), .int .i64 (↑k : Int), .int .i64 n] else .junk, if b 2 = true then .agg [.int .i64 0, .int .i64 0, .int .i64 0, .bool false, .int .i64 0] else .junk, .junk, .junk, .junk, .junk, .junk, .junk, .junk, .junk, .junk, .junk, .junk, .junk, .junk, .junk, .junk, .junk, .junk, .junk, .junk, .junk, .junk, .junk, .junk, .junk, .junk, .junk, .junk, .junk, .junk, .junk, .junk, .junk], [.un, .un, .un, .un, .box [.sl false (sms sm), .sl false (bxs bx)], .un, .box [.int .i64 (↑i : Int), .int .i64 (↑k : Int), .int .i64 n], .un, if b 3 = true then .box [.sl false (sms sm), .sl false (bxs bx)] else .box [.nils, .nils], if b 4 = true then .box [.int .i64 (↑i : Int), .int .i64 (↑k : Int), .int .i64 n] else .box [.int .i64 0, .int .i64 0, .int .i64 0], .box [.int .i64 0, .int .i64 0, .int .i64 0, .bool false, .int .i64 0], .un, .box [.int .i64 op, .int .i64 a], .un, .un, .un, .un, .un, .un, .un, .un, .un, .un, .un, .un, .un, .un, .un, .un, .un, .un, .un, .un, .un, .un, .un, .un, .un, .un, .un, .un, .un, .un, .un, .un, .un, .un, .un, .un, .un, .un, .un, .un, .un, .un, .un, .un, .un, .un, .un, .un, .un, .un, .un, .un, .un, .un, .un, .un, .un, .un, .un, .un, .un, .un, .un, .un, .un, .un], 0⟩) rfl ?_ ?_
   ·skip
    (repeat refine Di ?_ (fun b hwW hbB hcC => ?_)); (exact trivial)
    ·exact Ds6 hbB (hwW.at 0 rfl) (hwW.at 1 rfl) (hwW.at 2 rfl) (hwW.at 3 rfl) (hwW.at 4 rfl) (hwW.at 5 rfl)
    ·exact Ds6 hbB (hwW.at 0 rfl) (hwW.at 1 rfl) (hwW.at 2 rfl) (hwW.at 3 rfl) (hwW.at 4 rfl) (hcC.l hbB 6 rfl)
    ·exact Ds5 hbB (hwW.at 0 rfl) (hwW.at 1 rfl) (hwW.at 3 rfl) (hcC.l hbB 5 rfl) (hcC.l hbB 6 rfl)
    ·exact Ds4 hbB (hwW.at 0 rfl) (hcC.l hbB 4 rfl) (hcC.l hbB 5 rfl) (hcC.l hbB 6 rfl)
    ·exact Ds2 hbB (hcC.l hbB 5 rfl) (hcC.l hbB 6 rfl)
    ·exact Ds3 hbB (hcC.l hbB 4 rfl) (hcC.l hbB 5 rfl) (hcC.l hbB 6 rfl)
    ·exact Ds4 hbB (hcC.l hbB 3 rfl) (hcC.l hbB 4 rfl) (hcC.l hbB 5 rfl) (hcC.l hbB 6 rfl)
   simp only [List.length_cons, List.length_nil, Nat.reduceAdd, Nat.reduceLT, decide_true, if_true]
   refine Dd0 ?_
   (refine ⟨by simp, ?_⟩; simp only [go_sem, Try.results11])
  ·simp at hc
theorem do_ok (f : Bool) (sm : List (Int × List Int)) (bx : List Bx) (P : List (List (Int × Int))) (i k : Nat) (n g op a : Int) (j : Jb) (hP : P.length ≤ 1000000) (hi : i < P.length) (hk0 : k < (pgN P i).length) (hb : (pgN P i).length ≤ 9223372036854775807) (hat0 : atN (pgN P i) k = (op, a)) (h1 : 1 ≤ op ∧ op ≤ 10) (ho : outB sm.length bx.length P.length (pgN P i).length op a = false)
  (hM : RetH Try.prog (39 + op.toNat) [.ptr 0 0] (jobH ⟨sm, bx, i, (k : Int) + 1, n, 1, 0, 0, false, 0, g, a⟩) (.tup []) (jobH j)) :
  Ret Try.prog 11 [.agg [.sl false (sms sm), .sl false (bxs bx)], .sl f (pgs P), .agg [.int .i64 i, .int .i64 k, .int .i64 n], .int .i64 g] (.tup [.agg [.sl false (sms j.sm), .sl false (bxs j.bx)], .agg [.int .i64 j.p, .int .i64 j.pc, .int .i64 j.n], .agg [.int .i64 j.kind, .int .i64 j.a, .int .i64 j.woken, .bool j.gives, .int .i64 j.v], .int .i64 0]) := by
 have hA := at_some f P i k n hP hi hk0 hb
 rw [hat0] at hA
 have hD := does_spec op
 rw [decide_eq_true h1, doesF, if_pos h1] at hD
 generalize 39 + op.toNat = F at hD hM
 have hO := out_spec false false f sm bx P i op a hi hb
 rw [ho] at hO
 have hw := wrap_i64 (n := (k : Int) + 1) (by omega) (by omega)
 refine Ret_of_body Try.func11 (by kernel_rfl) rfl ?_; rw [Try.ntmps11]
 refine Dd0 ?_
 refine Dpu0 (hA) ?_
 refine Dd0 ?_
 refine TW_cond rfl (fun hc => ?_) (fun hc => ?_)
 ·simp at hc
 ·refine Dd0 ?_
  ((with_reducible first | refine O1 rfl (fun N hN => ?_) | refine O2 rfl rfl rfl (fun N hN => ?_)); simp only [go_sem]; refine vCall.pu _ _ (hD) ?ha29 (hN _ ?hk29); (case ha29 => (first | (simp only [go_sem]; done) | (simp only [go_sem] <;> (first | omega | ((try simp only [go_sem, List.length_append, lim, lim2]) <;> omega) | assumption | exact ints_1 _ | exact rfl | (simp [ints]; done))) | (simp [ints]; done))); clear hN N; apply Ops_eq; (simp only [go_sem]; rfl))
  refine Dd0 ?_
  ((with_reducible first | refine O1 rfl (fun N hN => ?_) | refine O2 rfl rfl rfl (fun N hN => ?_)); simp only [go_sem]; refine vCall.sc _ _ (hO) ?ha30 rfl (hN _ ?hk30); (case ha30 => (first | (simp only [go_sem]; done) | (simp only [go_sem] <;> (first | omega | ((try simp only [go_sem, List.length_append, lim, lim2]) <;> omega) | assumption | exact ints_1 _ | exact rfl | (simp [ints]; done))) | (simp [ints]; done))); clear hN N; apply Ops_eq; (simp only [go_sem]; rfl))
  refine Dd0 ?_
  refine TW_cond rfl (fun hc => ?_) (fun hc => ?_)
  ·simp at hc
  ·refine Dd1 @hw ?_
   ((with_reducible first | refine O1 rfl (fun N hN => ?_) | refine O2 rfl rfl rfl (fun N hN => ?_)); simp only [go_sem]; refine vCall.io [54] [] _ _ _ _ (hM) ?ha31 ?ht31 ?hu31 rfl rfl (hN _ ?hk31); (case ha31 => (first | (simp only [go_sem]; done) | (simp only [go_sem] <;> (first | omega | ((try simp only [go_sem, List.length_append, lim, lim2]) <;> omega) | assumption | exact ints_1 _ | exact rfl | (simp [ints]; done))) | (simp [ints]; done))); (case ht31 => (first | (simp only [go_sem]; done) | (simp only [go_sem] <;> (first | omega | ((try simp only [go_sem, List.length_append, lim, lim2]) <;> omega) | assumption | exact ints_1 _ | exact rfl | (simp [ints]; done))) | (simp; done))); (case hu31 => (first | (simp only [go_sem]; done) | (simp only [go_sem] <;> (first | omega | ((try simp only [go_sem, List.length_append, lim, lim2]) <;> omega) | assumption | exact ints_1 _ | exact rfl | (simp [ints]; done))) | (simp; done))); clear hN N; apply Ops_eq; (simp only [go_sem]; rfl))
   refine Dd0 ?_
   refine TW_sub (Sub_bl 147573952589676343551) ?_
   refine TW_open mixed (by kernel_rfl) (fun b => ⟨[.junk, .junk, .junk, .junk, .junk, .junk, .junk, .junk, .ptr 8 0, .ptr 9 0, .ptr 10 0, .int .i64 0, .junk, .junk, .junk, .junk, .ptr 54 0, .junk, .junk, .junk, .junk, .junk, .junk, .junk, .junk, .junk, .junk, .junk, .junk, .junk, .junk, .junk, .junk, .junk, .junk, .junk, .junk, .junk, .junk, .junk, .junk, .junk, .junk, .junk, .junk, .junk, .junk, .junk, .junk, .junk, .junk, .junk, .junk, .junk, .junk, .junk, .junk, .junk, .junk, .junk, .junk, .junk, .junk, .junk, .junk, .junk, .junk, if b 0 = true then .ptr 54 0 else .junk, if b 1 = true then .ptr 54 0 else .junk, if b 2 = true then .ptr 54 0 else .junk, if b 3 = true then .agg [.sl false (sms j.sm), .sl false (bxs j.bx)] else .junk, if b 4 = true then .ptr 54 0 else .junk, if b 5 = true then .ptr 54 0 else .junk, if b 6 = true then .ptr 54 2 else .junk, if b 7 = true then .agg [.int .i64 j.p, .int .i64 j.pc, .int .i64 j.n] else .junk, if b 8 = true then .ptr 54 0 else .junk, if b 9 = true then .ptr 54 0 else .junk, if b 10 = true then .ptr 54 5 else .junk, if b 11 = true then .agg [.int .i64 j.kind, .int .i64 j.a, .int .i64 j.woken, .bool j.gives, .int .i64 j.v] else .junk], [.un, .un, .un, .un, .box [.sl false (sms sm), .sl false (bxs bx)], .un, .box [.int .i64 (↑i : Int), .int .i64 (↑k : Int), .int .i64 n], .un, if b 12 = true then .box [.sl false (sms j.sm), .sl false (bxs j.bx)] else .box [.nils, .nils], if b 13 = true then .box [.int .i64 j.p, .int .i64 j.pc, .int .i64 j.n] else .box [.int .i64 0, .int .i64 0, .int .i64 0], if b 14 = true then .box [.int .i64 j.kind, .int .i64 j.a, .int .i64 j.woken, .bool j.gives, .int .i64 j.v] else .box [.int .i64 0, .int .i64 0, .int .i64 0, .bool false, .int .i64 0], .un, .box [.int .i64 op, .int .i64 a], .un, .un, .un, .un, .un, .un, .un, .un, .un, .un, .un, .un, .un, .un, .un, .un, .un, .un, .un, .un, .un, .un, .un, .un, .un, .un, .un, .un, .un, .un, .un, .un, .un, .un, .un, .un, .un, .un, .un, .un, .un, .box [.sl false (sms j.sm), .sl false (bxs j.bx), .int .i64 j.p, .int .i64 j.pc, .int .i64 j.n, .int .i64 j.kind, .int .i64 j.a, .int .i64 j.woken, .bool j.gives, .int .i64 j.v, .int .i64 j.g, .int .i64 j.x], .un, .un, .un, .un, .un, .un, .un, .un, .un, .un, .un, .un, .un, .un, .un, .un, .un, .un, .un, .un, .un, .un, .un, .un], 0⟩) rfl ?_ ?_
   ·skip
    (repeat refine Di ?_ (fun b hwW hbB hcC => ?_)); (exact trivial)
    ·exact Ds15 hbB (hwW.at 0 rfl) (hwW.at 1 rfl) (hwW.at 2 rfl) (hwW.at 3 rfl) (hwW.at 4 rfl) (hwW.at 5 rfl) (hwW.at 6 rfl) (hwW.at 7 rfl) (hwW.at 8 rfl) (hwW.at 9 rfl) (hwW.at 10 rfl) (hwW.at 11 rfl) (hwW.at 12 rfl) (hwW.at 13 rfl) (hwW.at 14 rfl)
    ·exact Ds15 hbB (hwW.at 0 rfl) (hwW.at 1 rfl) (hwW.at 2 rfl) (hwW.at 3 rfl) (hwW.at 4 rfl) (hwW.at 5 rfl) (hwW.at 6 rfl) (hwW.at 7 rfl) (hwW.at 8 rfl) (hwW.at 9 rfl) (hwW.at 10 rfl) (hwW.at 11 rfl) (hwW.at 12 rfl) (hwW.at 13 rfl) (hcC.l hbB 15 rfl)
    ·exact Ds11 hbB (hwW.at 0 rfl) (hwW.at 1 rfl) (hwW.at 2 rfl) (hwW.at 3 rfl) (hwW.at 4 rfl) (hwW.at 5 rfl) (hwW.at 6 rfl) (hwW.at 7 rfl) (hwW.at 12 rfl) (hcC.l hbB 14 rfl) (hcC.l hbB 15 rfl)
    ·exact Ds7 hbB (hwW.at 0 rfl) (hwW.at 1 rfl) (hwW.at 2 rfl) (hwW.at 3 rfl) (hcC.l hbB 13 rfl) (hcC.l hbB 14 rfl) (hcC.l hbB 15 rfl)
    ·exact Ds3 hbB (hwW.at 10 rfl) (hcC.l hbB 14 rfl) (hcC.l hbB 15 rfl)
    ·exact Ds4 hbB (hwW.at 9 rfl) (hcC.l hbB 11 rfl) (hcC.l hbB 14 rfl) (hcC.l hbB 15 rfl)
    ·exact Ds4 hbB (hwW.at 8 rfl) (hcC.l hbB 10 rfl) (hcC.l hbB 14 rfl) (hcC.l hbB 15 rfl)
    ·exact Ds3 hbB (hcC.l hbB 9 rfl) (hcC.l hbB 14 rfl) (hcC.l hbB 15 rfl)
    ·exact Ds4 hbB (hwW.at 6 rfl) (hcC.l hbB 13 rfl) (hcC.l hbB 14 rfl) (hcC.l hbB 15 rfl)
    ·exact Ds5 hbB (hwW.at 5 rfl) (hcC.l hbB 7 rfl) (hcC.l hbB 13 rfl) (hcC.l hbB 14 rfl) (hcC.l hbB 15 rfl)
    ·exact Ds5 hbB (hwW.at 4 rfl) (hcC.l hbB 6 rfl) (hcC.l hbB 13 rfl) (hcC.l hbB 14 rfl) (hcC.l hbB 15 rfl)
    ·exact Ds4 hbB (hcC.l hbB 5 rfl) (hcC.l hbB 13 rfl) (hcC.l hbB 14 rfl) (hcC.l hbB 15 rfl)
    ·exact Ds5 hbB (hwW.at 2 rfl) (hcC.l hbB 12 rfl) (hcC.l hbB 13 rfl) (hcC.l hbB 14 rfl) (hcC.l hbB 15 rfl)
    ·exact Ds6 hbB (hwW.at 1 rfl) (hcC.l hbB 3 rfl) (hcC.l hbB 12 rfl) (hcC.l hbB 13 rfl) (hcC.l hbB 14 rfl) (hcC.l hbB 15 rfl)
    ·exact Ds6 hbB (hwW.at 0 rfl) (hcC.l hbB 2 rfl) (hcC.l hbB 12 rfl) (hcC.l hbB 13 rfl) (hcC.l hbB 14 rfl) (hcC.l hbB 15 rfl)
    ·exact Ds5 hbB (hcC.l hbB 1 rfl) (hcC.l hbB 12 rfl) (hcC.l hbB 13 rfl) (hcC.l hbB 14 rfl) (hcC.l hbB 15 rfl)
   simp only [List.length_cons, List.length_nil, Nat.reduceAdd, Nat.reduceLT, decide_true, if_true]
   refine Dd0 ?_
   (refine ⟨by simp, ?_⟩; simp only [go_sem, Try.results11])

end Go.Proofs.YtodfkdnkgedgeaaT
