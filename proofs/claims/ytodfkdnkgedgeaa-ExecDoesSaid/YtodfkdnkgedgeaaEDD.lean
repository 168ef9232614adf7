/- Walks over the program's functions, on values without memory, and what they come to. No condition. -/
import Derived.Test.YtodfkdnkgedgeaaTw25
import Derived.Test.YtodfkdnkgedgeaaBase
import Derived.Test.YtodfkdnkgedgeaaTw19
import Derived.Test.YtodfkdnkgedgeaaQA
import Derived.Test.YtodfkdnkgedgeaaQB
import Derived.Test.YtodfkdnkgedgeaaEDC
set_option linter.unusedVariables false
set_option linter.unusedSimpArgs false
namespace Go.Proofs.YtodfkdnkgedgeaaT
open Go Go.Proofs Go.RowKit Go.Proofs.YtodfkdnkgedgeaaT.Ty
attribute [local go_sem] vOp vCut eqv put hset ev vNew enterSt AV.solid AV.cells AV.leaf AV.pure AV.pures AV.scalar AV.scalars ofVal ofLeaf vLoad takeA vStore vBin vBuiltin elems vSlice intAt fillA fillR splice dense fills frz frzL names namesL fix frzH frzHL le leL vRes oneRes
attribute [local go_sem] c1 s1 a1 b1 z1 o1 i1 c2 s2 a2 b2 z2 o2 i2 u2 c3 s3 a3 b3 z3 o3 i3 u3 c4 s4 a4 b4 z4 o4 i4 u4 c5 s5 a5 b5 z5 o5 i5 u5 c6 s6 a6 b6 z6 o6 i6 u6 c7 s7 a7 b7 z7 o7 f7_0 f7_1 f7_2 f7_3 q7 fo7 r7 i7 c8 s8 a8 b8 z8 o8 f8_0 f8_1 f8_2 f8_3 q8 fo8 r8 i8 c9 s9 a9 b9 z9 o9 i9 u9 c10 s10 a10 b10 z10 o10 i10 u10 c11 s11 a11 b11 z11 o11 i11 u11 c12 s12 a12 b12 z12 o12 i12 u12 c13 s13 a13 b13 z13 o13 f13_0 f13_1 fo13 r13 i13 c14 s14 a14 b14 z14 o14 f14_0 f14_1 fo14 r14 i14 c15 s15 a15 b15 z15 o15 p15 i15 c16 s16 a16 b16 z16 o16 p16 i16 c17 s17 a17 b17 z17 o17 p17 i17 c18 s18 a18 b18 z18 o18 f18_0 fo18 r18 i18 c19 s19 a19 b19 z19 o19 f19_0 fo19 r19 i19 c21 s21 a21 b21 z21 o21 i21 u21 c22 s22 a22 b22 z22 o22 e22 u22 i22 c23 s23 a23 b23 z23 o23 e23 u23 i23 c24 s24 a24 b24 z24 o24 f24_0 f24_1 fo24 r24 i24 c25 s25 a25 b25 z25 o25 f25_0 f25_1 fo25 r25 i25 c26 s26 a26 b26 z26 o26 e26 u26 i26 c27 s27 a27 b27 z27 o27 f27_0 f27_1 f27_2 q27 fo27 r27 i27 c28 s28 a28 b28 z28 o28 f28_0 f28_1 f28_2 q28 fo28 r28 i28 c29 s29 a29 b29 z29 o29 i29 c30 s30 a30 b30 z30 o30 i30 c31 s31 a31 b31 z31 o31 e31 u31 i31 c32 s32 a32 b32 z32 o32 e32 u32 i32 c33 s33 a33 b33 z33 o33 f33_0 f33_1 fo33 r33 i33 c34 s34 a34 b34 z34 o34 f34_0 f34_1 fo34 r34 i34 c35 s35 a35 b35 z35 o35 i35 c36 s36 a36 b36 z36 o36 f36_0 f36_1 f36_2 q36 fo36 r36 i36 c37 s37 a37 b37 z37 o37 f37_0 f37_1 f37_2 f37_3 f37_4 q37 fo37 r37 i37 c38 s38 a38 b38 z38 o38 f38_0 f38_1 f38_2 f38_3 f38_4 q38 fo38 r38 i38 c39 s39 a39 b39 z39 o39 i39 u39 c41 s41 a41 b41 z41 o41 i41 c42 s42 a42 b42 z42 o42 i42 c43 s43 a43 b43 z43 o43 f43_0 f43_1 f43_2 f43_3 f43_4 q43 fo43 r43 i43 c45 s45 a45 b45 z45 o45 i45 c46 s46 a46 b46 z46 o46 f46_0 f46_1 q46 fo46 r46 i46 c47 s47 a47 b47 z47 o47 f47_0 f47_1 q47 fo47 r47 i47 c49 s49 a49 b49 z49 o49 i49 c50 s50 a50 b50 z50 o50 i50 c51 s51 a51 b51 z51 o51 i51 c52 s52 a52 b52 z52 o52 i52 c53 s53 a53 b53 z53 o53 i53 c54 s54 a54 b54 z54 o54 i54 c55 s55 a55 b55 z55 o55 e55 u55 i55 c57 s57 a57 b57 z57 o57 i57 c59 s59 a59 b59 z59 o59 i59 c60 s60 a60 b60 z60 o60 i60 c61 s61 a61 b61 z61 o61 i61 c62 s62 a62 b62 z62 o62 i62 c63 s63 a63 b63 z63 o63 f63_0 f63_1 fo63 r63 i63 c64 s64 a64 b64 z64 o64 f64_0 f64_1 fo64 r64 i64 c65 s65 a65 b65 z65 o65 e65 u65 i65 c66 s66 a66 b66 z66 o66 e66 u66 i66 c67 s67 a67 b67 z67 o67 f67_0 f67_1 f67_2 f67_3 fo67 r67 i67 c68 s68 a68 b68 z68 o68 f68_0 f68_1 f68_2 f68_3 fo68 r68 i68 c69 s69 a69 b69 z69 o69 f69_0 f69_1 q69 fo69 r69 i69 c70 s70 a70 b70 z70 o70 f70_0 f70_1 q70 fo70 r70 i70 c71 s71 a71 b71 z71 o71 e71 u71 i71 c72 s72 a72 b72 z72 o72 i72 c73 s73 a73 b73 z73 o73 i73 c74 s74 a74 b74 z74 o74 f74_0 f74_1 fo74 r74 i74 c75 s75 a75 b75 z75 o75 e75 u75 i75 c76 s76 a76 b76 z76 o76 f76_0 f76_1 f76_2 f76_3 fo76 r76 i76 c77 s77 a77 b77 z77 o77 f77_0 f77_1 f77_2 f77_3 fo77 r77 i77 c78 s78 a78 b78 z78 o78 f78_0 f78_1 q78 fo78 r78 i78 c79 s79 a79 b79 z79 o79 i79 c81 s81 a81 b81 z81 o81 i81 c82 s82 a82 b82 z82 o82 i82 c83 s83 a83 b83 z83 o83 p83 i83 c84 s84 a84 b84 z84 o84 f84_0 f84_1 f84_2 f84_3 f84_4 fo84 r84 i84 c85 s85 a85 b85 z85 o85 f85_0 f85_1 f85_2 f85_3 f85_4 fo85 r85 i85 c86 s86 a86 b86 z86 o86 i86 c88 s88 a88 b88 z88 o88 i88 c89 s89 a89 b89 z89 o89 i89 c91 s91 a91 b91 z91 o91 i91 c93 s93 a93 b93 z93 o93 i93 c94 s94 a94 b94 z94 o94 i94 c96 s96 a96 b96 z96 o96 i96 c97 s97 a97 b97 z97 o97 i97 c98 s98 a98 b98 z98 o98 i98 c99 s99 a99 b99 z99 o99 i99 c100 s100 a100 b100 z100 o100 i100 c101 s101 a101 b101 z101 o101 i101 c102 s102 a102 b102 z102 o102 i102 c104 s104 a104 b104 z104 o104 i104 c105 s105 a105 b105 z105 o105 i105 c107 s107 a107 b107 z107 o107 i107 c108 s108 a108 b108 z108 o108 i108 c110 s110 a110 b110 z110 o110 i110 c112 s112 a112 b112 z112 o112 i112 c113 s113 a113 b113 z113 o113 i113 c115 s115 a115 b115 z115 o115 i115 c116 s116 a116 b116 z116 o116 i116 c118 s118 a118 b118 z118 o118 i118 c119 s119 a119 b119 z119 o119 i119 c120 s120 a120 b120 z120 o120 i120 c122 s122 a122 b122 z122 o122 i122 c124 s124 a124 b124 z124 o124 i124 c125 s125 a125 b125 z125 o125 i125 c126 s126 a126 b126 z126 o126 f126_0 f126_1 f126_2 f126_3 fo126 r126 i126 c127 s127 a127 b127 z127 o127 f127_0 f127_1 f127_2 f127_3 fo127 r127 i127 c131 s131 a131 b131 z131 o131 i131 c132 s132 a132 b132 z132 o132 i132 u132 c133 s133 a133 b133 z133 o133 i133 u133 c134 s134 a134 b134 z134 o134 i134 u134 c135 s135 a135 b135 z135 o135 i135 c136 s136 a136 b136 z136 o136 p136 i136 c137 s137 a137 b137 z137 o137 i137 u137 c138 s138 a138 b138 z138 o138 i138 u138 c139 s139 a139 b139 z139 o139 f139_0 f139_1 f139_2 f139_3 f139_4 f139_5 f139_6 f139_7 f139_8 f139_9 f139_10 fo139 r139 i139 c140 s140 a140 b140 z140 o140 f140_0 f140_1 f140_2 f140_3 f140_4 f140_5 f140_6 f140_7 f140_8 f140_9 f140_10 fo140 r140 i140
attribute [local go_sem] List.replicate List.length_cons List.length_nil Nat.reduceAdd Nat.reduceSub List.cons_append List.nil_append List.append_nil List.set_cons_succ List.set_cons_zero List.getD_cons_succ List.getD_cons_zero Nat.zero_add List.getElem?_cons_succ List.getElem?_cons_zero List.foldl_cons List.foldl_nil Option.map_some Option.map_none List.drop_succ_cons List.drop_zero List.take_succ_cons List.take_zero List.map_cons List.map_nil List.all_cons List.all_nil  Bool.and_true Bool.true_and imp_self Nat.add_zero beq_self_eq_true Option.isSome_some true_and and_true if_true if_false ints_len
set_option linter.unusedSimpArgs false
set_option maxRecDepth 100000
set_option maxHeartbeats 4000000
attribute [local go_sem] ints_nil ints_take ints_drop ints_cat ints_snoc ints_cons List.length_take List.length_drop List.drop_zero decide_true decide_false List.getElem?_toArray Option.bind_some Bool.false_eq_true Bool.true_eq_false Bool.not_true Bool.not_false Int.toNat_natCast Int.cast_ofNat_Int forget swap grow growIn opt_or opt_orn opt_and beq_true beq_false rdAll rdOp rdTmp agree Option.getD_some Option.getD_none List.flatten_cons List.flatten_nil ownCut mp mpL mpO vl vlL matchH freshH setAll nodupB enterH List.contains_cons List.contains_nil Nat.reduceMul Nat.reduceLT Nat.reduceLeDiff Nat.reduceEqDiff
attribute [local go_sem] mails_len mails_nil mails_drop mails_take mails_snoc sms_len bxs_len pgs_len sms_nil bxs_nil sms_set bxs_set sms_snoc bxs_snoc
theorem racq_spec (c : Int) (l : List Int) (g : Int) (hl : l.length ≤ 1000000) (hc0 : c ≤ 9223372036854775807) :
  Ret Try.prog 28 [.agg [.int .i64 c, .sl false (ints l)], .int .i64 g] (.tup [.agg [.int .i64 (acqC c), .sl false (ints (acqW c l g))], .bool (decide (c > 0))]) := by
 refine Ret_of_body Try.func28 (by kernel_rfl) rfl ?_; rw [Try.ntmps28]
 refine Dd0 ?_
 refine TW_cond rfl (fun hc => ?_) (fun hc => ?_)
 ·have h : c > 0 := by simpa using hc
  have hw := wrap_i64 (n := c - 1) (by omega) (by omega)
  refine Dd1 @hw ?_
  (refine ⟨by simp, ?_⟩; simp only [go_sem, Try.results28])
  simp [acqC, acqW, h]
 ·have h : ¬ c > 0 := by simpa using hc
  refine Dd0 ?_
  refine TW_sub (Sub_bl 32713) ?_
  refine TW_open mixed (by kernel_rfl) (fun b => ⟨[.junk, .int .i64 g, .ptr 2 0, .junk, .ptr 4 0, .bool false, .junk, .junk, .junk, .junk, .junk, .junk, .junk, .junk, .junk, if b 0 = true then .ptr 2 0 else .junk, if b 1 = true then .int .i64 c else .junk, if b 2 = true then .bsl 17 else .junk, if b 3 = true then .ptr 2 1 else .junk, if b 4 = true then .sl false (ints l) else .junk, if b 5 = true then .bsl 20 else .junk, if b 6 = true then .int .i64 g else .junk, if b 7 = true then .bsl 22 else .junk, if b 8 = true then .bsl 23 else .junk, if b 9 = true then .agg [.int .i64 c, .bsl 23] else .junk], [.un, .un, .box [.int .i64 c, .sl false (ints l)], .un, if b 10 = true then .box [.int .i64 c, .bsl 23] else .box [.int .i64 0, .nils], .un, .un, .un, .un, .un, .un, .un, .un, .un, .un, .un, .un, if b 5 = true then .dead else if b 2 = true then .arr 3 1 [] else .un, .un, .un, if b 8 = true then .dead else if b 5 = true then .arr 3 1 (ints l) else .un, .un, if b 7 = true then .arr 3 1 [[.int .i64 g]] else .un, if b 8 = true then .arr 3 1 (ints (l ++ [g])) else .un, .un], 0⟩) rfl ?_ ?_
  ·skip
   (repeat refine Di ?_ (fun b hwW hbB hcC => ?_)); (exact trivial)
   ·exact Ds11 hbB (hwW.at 0 rfl) (hwW.at 1 rfl) (hwW.at 2 rfl) (hwW.at 3 rfl) (hwW.at 4 rfl) (hwW.at 5 rfl) (hwW.at 6 rfl) (hwW.at 7 rfl) (hwW.at 8 rfl) (hwW.at 9 rfl) (hwW.at 10 rfl)
   ·exact Ds11 hbB (hwW.at 0 rfl) (hwW.at 1 rfl) (hwW.at 2 rfl) (hwW.at 3 rfl) (hwW.at 4 rfl) (hwW.at 5 rfl) (hwW.at 6 rfl) (hwW.at 7 rfl) (hwW.at 8 rfl) (hwW.at 9 rfl) (hcC.l hbB 11 rfl)
   ·have w8 := hwW.at 8 rfl; have w5 := (hcC 8 _ rfl w8).at 5 rfl; exact Ds7 hbB (hwW.at 1 rfl) ((hcC 5 _ rfl w5).at 2 rfl) w5 ((hcC 8 _ rfl w8).at 7 rfl) w8 (hcC.l hbB 10 rfl) (hcC.l hbB 11 rfl)
   ·have w5 := hwW.at 5 rfl; exact Ds6 hbB ((hcC 5 _ rfl w5).at 2 rfl) w5 (hwW.at 7 rfl) (hcC.l hbB 9 rfl) (hcC.l hbB 10 rfl) (hcC.l hbB 11 rfl)
   ·exact Ds4 hbB (hwW.at 6 rfl) (hcC.l hbB 8 rfl) (hcC.l hbB 10 rfl) (hcC.l hbB 11 rfl)
   ·have l7 := hcC.l hbB 7 rfl; exact Ds4 hbB l7 (hcC.l l7 8 rfl) (hcC.l hbB 10 rfl) (hcC.l hbB 11 rfl)
   ·exact Ds5 hbB (hwW.at 2 rfl) (hwW.at 4 rfl) (hcC.l hbB 8 rfl) (hcC.l hbB 10 rfl) (hcC.l hbB 11 rfl)
   ·have l5 := hcC.l hbB 5 rfl; exact Ds5 hbB (hwW.at 3 rfl) l5 (hcC.l l5 8 rfl) (hcC.l hbB 10 rfl) (hcC.l hbB 11 rfl)
   ·have l4 := hcC.l hbB 4 rfl; have l5 := hcC.l l4 5 rfl; exact Ds5 hbB l4 l5 (hcC.l l5 8 rfl) (hcC.l hbB 10 rfl) (hcC.l hbB 11 rfl)
   ·have l5 := hcC.l hbB 5 rfl; exact Ds4 hbB l5 (hcC.l l5 8 rfl) (hcC.l hbB 10 rfl) (hcC.l hbB 11 rfl)
   ·exact Ds4 hbB (hwW.at 0 rfl) (hcC.l hbB 9 rfl) (hcC.l hbB 10 rfl) (hcC.l hbB 11 rfl)
   ·exact Ds3 hbB (hcC.l hbB 1 rfl) (hcC.l hbB 10 rfl) (hcC.l hbB 11 rfl)
  simp only [List.length_cons, List.length_nil, Nat.reduceAdd, Nat.reduceLT, decide_true, if_true]
  refine Dd0 ?_
  (refine ⟨by simp, ?_⟩; simp only [go_sem, Try.results28])
  simp [acqC, acqW, h]
theorem rrel0_spec (c : Int) (hc0 : 0 ≤ c ∧ c ≤ 1000000) :
  Ret Try.prog 30 [.agg [.int .i64 c, .sl false (ints [])]] (.tup [.agg [.int .i64 (relC c []), .sl false (ints [])], .int .i64 0]) := by
 have hw := wrap_i64 (n := c + 1) (by omega) (by omega)
 by_cases h : c = 1000000
 ·subst h
  refine Ret_of_body Try.func30 (by kernel_rfl) rfl ?_; rw [Try.ntmps30]
  refine Dd0 ?_
  refine TW_cond rfl (fun hc => ?_) (fun hc => ?_)
  ·refine Dd0 ?_
   refine TW_cond rfl (fun hc => ?_) (fun hc => ?_)
   ·simp at hc
   ·refine Dd0 ?_
    (refine ⟨by simp, ?_⟩; simp only [go_sem, Try.results30])
    simp [relC]
  ·simp at hc
 ·have hd : decide (c ≠ 1000000) = true := decide_eq_true h
  refine Ret_of_body Try.func30 (by kernel_rfl) rfl ?_; rw [Try.ntmps30]
  refine Dd0 ?_
  refine TW_cond rfl (fun hc => ?_) (fun hc => ?_)
  ·refine Dd1 @hd ?_
   refine TW_cond rfl (fun hc => ?_) (fun hc => ?_)
   ·refine Dd1 @hw ?_
    (refine ⟨by simp, ?_⟩; simp only [go_sem, Try.results30])
    simp [relC, h]
   ·simp at hc
    omega
  ·simp at hc
theorem rrel1_spec (c : Int) (l : List Int) (hl : l.length ≤ 1000000) (h : 0 < l.length) :
  Ret Try.prog 30 [.agg [.int .i64 c, .sl false (ints l)]] (.tup [.agg [.int .i64 (relC c l), .sl false (ints (l.drop 1))], .int .i64 (l.headD 0)]) := by
 have hg := ints_get l 0 h
 have hd : decide ((l.length : Int) = 0) = false := decide_eq_false (by omega)
 have hne : l ≠ [] := List.length_pos_iff.1 h
 have hh : l.headD 0 = l.getD 0 0 := by cases l <;> rfl
 refine Ret_of_body Try.func30 (by kernel_rfl) rfl ?_; rw [Try.ntmps30]
 refine Dd1 @hd ?_
 refine TW_cond rfl (fun hc => ?_) (fun hc => ?_)
 ·simp at hc
 ·refine Dd0 ?_
  refine TW_sub (Sub_bl 131057) ?_
  refine TW_open mixed (by kernel_rfl) (fun b => ⟨[.junk, .ptr 1 0, .ptr 2 0, if b 11 = true then .int .i64 (l.getD 0 0) else .int .i64 0, .junk, .junk, .junk, .junk, .junk, .junk, .junk, .junk, .junk, .junk, .junk, .junk, .junk, if b 0 = true then .ptr 1 0 else .junk, if b 1 = true then .int .i64 c else .junk, if b 2 = true then .ptr 1 1 else .junk, if b 3 = true then .sl false (ints l) else .junk, if b 4 = true then .sl false (ints (List.drop 1 l)) else .junk, if b 5 = true then .agg [.int .i64 c, .sl false (ints (List.drop 1 l))] else .junk, if b 6 = true then .ptr 1 1 else .junk, if b 7 = true then .sl false (ints l) else .junk, if b 8 = true then .cptr [.int .i64 (l.getD 0 0)] else .junk, if b 9 = true then .int .i64 (l.getD 0 0) else .junk], [.un, .box [.int .i64 c, .sl false (ints l)], if b 10 = true then .box [.int .i64 c, .sl false (ints (List.drop 1 l))] else .box [.int .i64 0, .nils], .un, .un, .un, .un, .un, .un, .un, .un, .un, .un, .un, .un, .un, .un, .un, .un, .un, .un, .un, .un, .un, .un, .un, .un], 0⟩) rfl ?_ ?_
  ·skip
   (repeat refine Di ?_ (fun b hwW hbB hcC => ?_)); (exact trivial)
   ·have hbB : b 11 = false := hbB; have w9 := hwW.at 9 rfl; have w10 := hwW.at 10 rfl; have w0 := hwW.at 0 rfl; have w1 := hwW.at 1 rfl; have w2 := hwW.at 2 rfl; have w3 := hwW.at 3 rfl; have w4 := hwW.at 4 rfl; have w5 := hwW.at 5 rfl; have w6 := hwW.at 6 rfl; have w7 := hwW.at 7 rfl; have w8 := hwW.at 8 rfl; simp only [vGuard, go_sem, hbB, upd, Bool.false_eq_true, w0, w1, w2, w3, w4, w5, w6, w7, w8, w9, w10, Int.toNat_zero, hg, Int.reduceToNat, List.take_length] <;> (try refine Or.inl ?_) <;> (repeat (refine And.intro (by first | omega | ((try simp only [go_sem, List.length_append, lim, lim2]) <;> omega) | assumption | exact ints_1 _ | exact rfl | (simp [ints]; done)) ?_)) <;> (first | rfl | first | omega | ((try simp only [go_sem, List.length_append, lim, lim2]) <;> omega) | assumption | exact ints_1 _ | exact rfl | (simp [ints]; done))
   ·have hbB : b 10 = false := hbB; have w5 := hwW.at 5 rfl; have w0 := hwW.at 0 rfl; have w1 := hwW.at 1 rfl; have w2 := hwW.at 2 rfl; have w3 := hwW.at 3 rfl; have w4 := hwW.at 4 rfl; have l11 := hcC.l hbB 11 rfl; simp only [vGuard, go_sem, hbB, upd, Bool.false_eq_true, w0, w1, w2, w3, w4, w5, l11, Int.toNat_zero, hg, Int.reduceToNat, List.take_length] <;> (try refine Or.inl ?_) <;> (repeat (refine And.intro (by first | omega | ((try simp only [go_sem, List.length_append, lim, lim2]) <;> omega) | assumption | exact ints_1 _ | exact rfl | (simp [ints]; done)) ?_)) <;> (first | rfl | first | omega | ((try simp only [go_sem, List.length_append, lim, lim2]) <;> omega) | assumption | exact ints_1 _ | exact rfl | (simp [ints]; done))
   ·have hbB : b 9 = false := hbB; have w8 := hwW.at 8 rfl; have l11 := hcC.l hbB 11 rfl; simp only [vGuard, go_sem, hbB, upd, Bool.false_eq_true, w8, l11, Int.toNat_zero, hg, Int.reduceToNat, List.take_length] <;> (try refine Or.inl ?_) <;> (repeat (refine And.intro (by first | omega | ((try simp only [go_sem, List.length_append, lim, lim2]) <;> omega) | assumption | exact ints_1 _ | exact rfl | (simp [ints]; done)) ?_)) <;> (first | rfl | first | omega | ((try simp only [go_sem, List.length_append, lim, lim2]) <;> omega) | assumption | exact ints_1 _ | exact rfl | (simp [ints]; done))
   ·have hbB : b 8 = false := hbB; have w7 := hwW.at 7 rfl; have l9 := hcC.l hbB 9 rfl; have l11 := hcC.l hbB 11 rfl; simp only [vGuard, go_sem, hbB, upd, Bool.false_eq_true, w7, l9, l11, Int.toNat_zero, hg, Int.reduceToNat, List.take_length] <;> (try refine Or.inl ?_) <;> (repeat (refine And.intro (by first | omega | ((try simp only [go_sem, List.length_append, lim, lim2]) <;> omega) | assumption | exact ints_1 _ | exact rfl | (simp [ints]; done)) ?_)) <;> (first | rfl | first | omega | ((try simp only [go_sem, List.length_append, lim, lim2]) <;> omega) | assumption | exact ints_1 _ | exact rfl | (simp [ints]; done))
   ·have hbB : b 7 = false := hbB; have w6 := hwW.at 6 rfl; have l8 := hcC.l hbB 8 rfl; have l11 := hcC.l hbB 11 rfl; simp only [vGuard, go_sem, hbB, upd, Bool.false_eq_true, w6, l8, l11, Int.toNat_zero, hg, Int.reduceToNat, List.take_length] <;> (try refine Or.inl ?_) <;> (repeat (refine And.intro (by first | omega | ((try simp only [go_sem, List.length_append, lim, lim2]) <;> omega) | assumption | exact ints_1 _ | exact rfl | (simp [ints]; done)) ?_)) <;> (first | rfl | first | omega | ((try simp only [go_sem, List.length_append, lim, lim2]) <;> omega) | assumption | exact ints_1 _ | exact rfl | (simp [ints]; done))
   ·have hbB : b 6 = false := hbB; have l7 := hcC.l hbB 7 rfl; have l11 := hcC.l hbB 11 rfl; simp only [vGuard, go_sem, hbB, upd, Bool.false_eq_true, l7, l11, Int.toNat_zero, hg, Int.reduceToNat, List.take_length] <;> (try refine Or.inl ?_) <;> (repeat (refine And.intro (by first | omega | ((try simp only [go_sem, List.length_append, lim, lim2]) <;> omega) | assumption | exact ints_1 _ | exact rfl | (simp [ints]; done)) ?_)) <;> (first | rfl | first | omega | ((try simp only [go_sem, List.length_append, lim, lim2]) <;> omega) | assumption | exact ints_1 _ | exact rfl | (simp [ints]; done))
   ·have hbB : b 5 = false := hbB; have w1 := hwW.at 1 rfl; have w4 := hwW.at 4 rfl; have l10 := hcC.l hbB 10 rfl; have l11 := hcC.l hbB 11 rfl; simp only [vGuard, go_sem, hbB, upd, Bool.false_eq_true, w1, w4, l10, l11, Int.toNat_zero, hg, Int.reduceToNat, List.take_length] <;> (try refine Or.inl ?_) <;> (repeat (refine And.intro (by first | omega | ((try simp only [go_sem, List.length_append, lim, lim2]) <;> omega) | assumption | exact ints_1 _ | exact rfl | (simp [ints]; done)) ?_)) <;> (first | rfl | first | omega | ((try simp only [go_sem, List.length_append, lim, lim2]) <;> omega) | assumption | exact ints_1 _ | exact rfl | (simp [ints]; done))
   ·have hbB : b 4 = false := hbB; have w3 := hwW.at 3 rfl; have l5 := hcC.l hbB 5 rfl; have l10 := hcC.l hbB 10 rfl; have l11 := hcC.l hbB 11 rfl; simp only [vGuard, go_sem, hbB, upd, Bool.false_eq_true, w3, l5, l10, l11, Int.toNat_zero, hg, Int.reduceToNat, List.take_length] <;> (try refine Or.inl ?_) <;> (repeat (refine And.intro (by first | omega | ((try simp only [go_sem, List.length_append, lim, lim2]) <;> omega) | assumption | exact ints_1 _ | exact rfl | (simp [ints]; done)) ?_)) <;> (first | rfl | first | omega | ((try simp only [go_sem, List.length_append, lim, lim2]) <;> omega) | assumption | exact ints_1 _ | exact rfl | (simp [ints]; done))
   ·have hbB : b 3 = false := hbB; have w2 := hwW.at 2 rfl; have l4 := hcC.l hbB 4 rfl; have l10 := hcC.l hbB 10 rfl; have l11 := hcC.l hbB 11 rfl; simp only [vGuard, go_sem, hbB, upd, Bool.false_eq_true, w2, l4, l10, l11, Int.toNat_zero, hg, Int.reduceToNat, List.take_length] <;> (try refine Or.inl ?_) <;> (repeat (refine And.intro (by first | omega | ((try simp only [go_sem, List.length_append, lim, lim2]) <;> omega) | assumption | exact ints_1 _ | exact rfl | (simp [ints]; done)) ?_)) <;> (first | rfl | first | omega | ((try simp only [go_sem, List.length_append, lim, lim2]) <;> omega) | assumption | exact ints_1 _ | exact rfl | (simp [ints]; done))
   ·have hbB : b 2 = false := hbB; have l3 := hcC.l hbB 3 rfl; have l4 := hcC.l l3 4 rfl; have l10 := hcC.l hbB 10 rfl; have l11 := hcC.l hbB 11 rfl; simp only [vGuard, go_sem, hbB, upd, Bool.false_eq_true, l3, l4, l10, l11, Int.toNat_zero, hg, Int.reduceToNat, List.take_length] <;> (try refine Or.inl ?_) <;> (repeat (refine And.intro (by first | omega | ((try simp only [go_sem, List.length_append, lim, lim2]) <;> omega) | assumption | exact ints_1 _ | exact rfl | (simp [ints]; done)) ?_)) <;> (first | rfl | first | omega | ((try simp only [go_sem, List.length_append, lim, lim2]) <;> omega) | assumption | exact ints_1 _ | exact rfl | (simp [ints]; done))
   ·have hbB : b 1 = false := hbB; have w0 := hwW.at 0 rfl; have l5 := hcC.l hbB 5 rfl; have l10 := hcC.l hbB 10 rfl; have l11 := hcC.l hbB 11 rfl; simp only [vGuard, go_sem, hbB, upd, Bool.false_eq_true, w0, l5, l10, l11, Int.toNat_zero, hg, Int.reduceToNat, List.take_length] <;> (try refine Or.inl ?_) <;> (repeat (refine And.intro (by first | omega | ((try simp only [go_sem, List.length_append, lim, lim2]) <;> omega) | assumption | exact ints_1 _ | exact rfl | (simp [ints]; done)) ?_)) <;> (first | rfl | first | omega | ((try simp only [go_sem, List.length_append, lim, lim2]) <;> omega) | assumption | exact ints_1 _ | exact rfl | (simp [ints]; done))
   ·have hbB : b 0 = false := hbB; have l1 := hcC.l hbB 1 rfl; have l10 := hcC.l hbB 10 rfl; have l11 := hcC.l hbB 11 rfl; simp only [vGuard, go_sem, hbB, upd, Bool.false_eq_true, l1, l10, l11, Int.toNat_zero, hg, Int.reduceToNat, List.take_length] <;> (try refine Or.inl ?_) <;> (repeat (refine And.intro (by first | omega | ((try simp only [go_sem, List.length_append, lim, lim2]) <;> omega) | assumption | exact ints_1 _ | exact rfl | (simp [ints]; done)) ?_)) <;> (first | rfl | first | omega | ((try simp only [go_sem, List.length_append, lim, lim2]) <;> omega) | assumption | exact ints_1 _ | exact rfl | (simp [ints]; done))
  simp only [List.length_cons, List.length_nil, Nat.reduceAdd, Nat.reduceLT, decide_true, if_true]
  refine Dd0 ?_
  (refine ⟨by simp, ?_⟩; simp only [go_sem, Try.results30])
  rw [relC, if_neg hne, hh]; exact ⟨rfl, rfl⟩
theorem rrel_spec (c : Int) (l : List Int) (hl : l.length ≤ 1000000) (hc0 : 0 ≤ c ∧ c ≤ 1000000) :
  Ret Try.prog 30 [.agg [.int .i64 c, .sl false (ints l)]] (.tup [.agg [.int .i64 (relC c l), .sl false (ints (l.drop 1))], .int .i64 (l.headD 0)]) := by
 cases l with
 | nil => exact rrel0_spec c hc0
 | cons y m => exact rrel1_spec c (y :: m) hl (Nat.succ_pos _)
theorem ssame_spec (c d : Int) (l m : List Int) (hl : l.length ≤ 1000000) (hm : m.length ≤ 1000000) :
  Ret Try.prog 34 [.agg [.int .i64 c, .sl false (ints l)], .agg [.int .i64 d, .sl false (ints m)]] (.bool (decide (c = d) && decide (l = m))) := by
 by_cases h : c = d
 ·have hd : decide (c = d) = true := decide_eq_true h
  refine Ret_of_body Try.func34 (by kernel_rfl) rfl ?_; rw [Try.ntmps34]
  refine Dd1 @hd ?_
  refine Dsc0 (ints_spec false false l m hl hm) ?_
  refine Dd0 ?_
  (refine ⟨by simp, ?_⟩; simp only [go_sem, Try.results34])
  rw [hd, Bool.true_and]
 ·have hd : decide (c = d) = false := decide_eq_false h
  refine Ret_of_body Try.func34 (by kernel_rfl) rfl ?_; rw [Try.ntmps34]
  refine Dd1 @hd ?_
  (refine ⟨by simp, ?_⟩; simp only [go_sem, Try.results34])
  exact (Bool.false_and _).symm
theorem rat_some (f : Bool) (P : List (List (Int × Int))) (i k : Nat) (n : Int) (hi : i < P.length) (hk0 : k < (pgN P i).length) :
  Ret Try.prog 15 [.sl f (pgs P), .agg [.int .i64 i, .int .i64 k, .int .i64 n]] (.tup [.agg [.int .i64 (atN (pgN P i) k).1, .int .i64 (atN (pgN P i) k).2], .bool true]) := by
 have hd1 : decide ((i : Int) < 0) = false := decide_eq_false (by omega)
 have hd2 : decide ((i : Int) ≥ (P.length : Int)) = false := decide_eq_false (by omega)
 have hd3 : decide ((k : Int) < 0) = false := decide_eq_false (by omega)
 have hd4 : decide ((k : Int) ≥ ((pgN P i).length : Int)) = false := decide_eq_false (by omega)
 have hrr := pgs_1 P
 have hr2 := mails_2 (pgN P i)
 have hg := pgs_get P i hi
 have hg2 := mails_getN (pgN P i) k hk0
 refine Ret_of_body Try.func15 (by kernel_rfl) rfl ?_; rw [Try.ntmps15]
 refine Dd2 @hd1 @hd2 ?_
 refine TW_cond rfl (fun hc => ?_) (fun hc => ?_)
 ·simp at hc
 ·refine Dd0 ?_
  refine TW_sub (Sub_bl 131014) ?_
  refine TW_open mixed (by kernel_rfl) (fun b => ⟨[.sl f (pgs P), .junk, .junk, .ptr 3 0, .ptr 4 0, .bool false, .junk, .junk, .junk, .junk, .junk, .junk, .junk, .junk, .junk, .junk, .junk, if b 0 = true then .ptr 3 1 else .junk, if b 1 = true then .int .i64 (↑k : Int) else .junk, if b 2 = true then .bool false else .junk, if b 3 = true then .bool false else .junk, if b 4 = true then .ptr 3 1 else .junk, if b 5 = true then .int .i64 (↑k : Int) else .junk, if b 6 = true then .sl f (pgs P) else .junk, if b 7 = true then .ptr 3 0 else .junk, if b 8 = true then .int .i64 (↑i : Int) else .junk, if b 9 = true then .cptr [.sl false (mails (pgN P i))] else .junk, if b 10 = true then .sl false (mails (pgN P i)) else .junk, if b 11 = true then .int .i64 (↑(pgN P i).length : Int) else .junk, if b 12 = true then .bool false else .junk, if b 13 = true then .bool false else .junk, .junk, .junk, .junk, .junk, .junk, .junk, .junk, .junk, .junk, .junk], [.un, .un, .un, .box [.int .i64 (↑i : Int), .int .i64 (↑k : Int), .int .i64 n], .box [.int .i64 0, .int .i64 0], .un, .un, .un, .un, .un, .un, .un, .un, .un, .un, .un, .un, .un, .un, .un, .un, .un, .un, .un, .un, .un, .un, .un, .un, .un, .un, .un, .un, .un, .un, .un, .un, .un, .un, .un, .un], 0⟩) rfl ?_ ?_
  ·skip
   (repeat refine Di ?_ (fun b hwW hbB hcC => ?_)); (exact trivial)
   ·have w12 := hwW.at 12 rfl; exact Ds6 hbB (hwW.at 3 rfl) ((hcC 12 _ rfl w12).at 11 rfl) w12 @hd3 @hd4 @hg
   ·exact Ds7 hbB (hwW.at 3 rfl) (hwW.at 5 rfl) (hwW.at 11 rfl) (hcC.l hbB 13 rfl) @hd3 @hd4 @hg
   ·exact Ds6 hbB (hwW.at 3 rfl) (hwW.at 10 rfl) (hcC.l hbB 12 rfl) @hd3 @hd4 @hg
   ·exact Ds6 hbB (hwW.at 3 rfl) (hwW.at 9 rfl) (hcC.l hbB 11 rfl) @hd3 @hd4 @hg
   ·have l10 := hcC.l hbB 10 rfl; exact Ds8 hbB (hwW.at 3 rfl) (hwW.at 6 rfl) (hwW.at 8 rfl) l10 (hcC.l l10 11 rfl) @hd3 @hd4 @hg
   ·have l9 := hcC.l hbB 9 rfl; have l10 := hcC.l l9 10 rfl; exact Ds7 hbB (hwW.at 3 rfl) (hwW.at 7 rfl) l9 (hcC.l l10 11 rfl) @hd3 @hd4 @hg
   ·have l8 := hcC.l hbB 8 rfl; have l9 := hcC.l l8 9 rfl; have l10 := hcC.l l9 10 rfl; exact Ds6 hbB (hwW.at 3 rfl) l8 (hcC.l l10 11 rfl) @hd3 @hd4 @hg
   ·have l9 := hcC.l hbB 9 rfl; have l10 := hcC.l l9 10 rfl; exact Ds6 hbB (hwW.at 3 rfl) l9 (hcC.l l10 11 rfl) @hd3 @hd4 @hg
   ·exact Ds6 hbB (hwW.at 3 rfl) (hwW.at 4 rfl) (hcC.l hbB 12 rfl) @hd3 @hd4 @hg
   ·exact Ds5 hbB (hwW.at 3 rfl) (hcC.l hbB 5 rfl) @hd3 @hd4 @hg
   ·exact Ds14 hbB (hwW.at 2 rfl) (hcC.l hbB 4 rfl) (hcC.l hbB 5 rfl) (hcC.l hbB 6 rfl) (hcC.l hbB 7 rfl) (hcC.l hbB 8 rfl) (hcC.l hbB 9 rfl) (hcC.l hbB 10 rfl) (hcC.l hbB 11 rfl) (hcC.l hbB 12 rfl) (hcC.l hbB 13 rfl) @hd3 @hd4 @hg
   ·have l3 := hcC.l hbB 3 rfl; exact Ds6 hbB (hwW.at 1 rfl) l3 (hcC.l l3 11 rfl) @hd3 @hd4 @hg
   ·have l2 := hcC.l hbB 2 rfl; have l3 := hcC.l l2 3 rfl; exact Ds6 hbB (hwW.at 0 rfl) l2 (hcC.l l3 11 rfl) @hd3 @hd4 @hg
   ·have l1 := hcC.l hbB 1 rfl; have l2 := hcC.l l1 2 rfl; have l3 := hcC.l l2 3 rfl; exact Ds5 hbB l1 (hcC.l l3 11 rfl) @hd3 @hd4 @hg
  simp only [List.length_cons, List.length_nil, Nat.reduceAdd, Nat.reduceLT, decide_true, if_true]
  refine Dd0 ?_
  refine TW_cond rfl (fun hc => ?_) (fun hc => ?_)
  ·simp at hc
  ·refine Dd0 ?_
   refine TW_sub (Sub_bl 4294967238) ?_
   refine TW_open mixed (by kernel_rfl) (fun b => ⟨[.sl f (pgs P), .junk, .junk, .ptr 3 0, .ptr 4 0, if b 10 = true then .bool true else .bool false, .junk, .junk, .junk, .junk, .junk, .junk, .junk, .junk, .junk, .junk, .junk, .junk, .junk, .junk, .junk, .junk, .junk, .junk, .junk, .junk, .junk, .junk, .junk, .junk, .junk, .junk, if b 0 = true then .sl f (pgs P) else .junk, if b 1 = true then .ptr 3 0 else .junk, if b 2 = true then .int .i64 (↑i : Int) else .junk, if b 3 = true then .cptr [.sl false (mails (pgN P i))] else .junk, if b 4 = true then .sl false (mails (pgN P i)) else .junk, if b 5 = true then .ptr 3 1 else .junk, if b 6 = true then .int .i64 (↑k : Int) else .junk, if b 7 = true then .cptr [.int .i64 (atN (pgN P i) k).fst, .int .i64 (atN (pgN P i) k).snd] else .junk, if b 8 = true then .agg [.int .i64 (atN (pgN P i) k).fst, .int .i64 (atN (pgN P i) k).snd] else .junk], [.un, .un, .un, .box [.int .i64 (↑i : Int), .int .i64 (↑k : Int), .int .i64 n], if b 9 = true then .box [.int .i64 (atN (pgN P i) k).fst, .int .i64 (atN (pgN P i) k).snd] else .box [.int .i64 0, .int .i64 0], .un, .un, .un, .un, .un, .un, .un, .un, .un, .un, .un, .un, .un, .un, .un, .un, .un, .un, .un, .un, .un, .un, .un, .un, .un, .un, .un, .un, .un, .un, .un, .un, .un, .un, .un, .un], 0⟩) rfl ?_ ?_
   ·skip
    (repeat refine Di ?_ (fun b hwW hbB hcC => ?_)); (exact trivial)
    ·exact Ds12 hbB (hwW.at 0 rfl) (hwW.at 1 rfl) (hwW.at 2 rfl) (hwW.at 3 rfl) (hwW.at 4 rfl) (hwW.at 5 rfl) (hwW.at 6 rfl) (hwW.at 7 rfl) (hwW.at 8 rfl) (hwW.at 9 rfl) @hg @hg2
    ·exact Ds12 hbB (hwW.at 0 rfl) (hwW.at 1 rfl) (hwW.at 2 rfl) (hwW.at 3 rfl) (hwW.at 4 rfl) (hwW.at 5 rfl) (hwW.at 6 rfl) (hwW.at 7 rfl) (hwW.at 8 rfl) (hcC.l hbB 10 rfl) @hg @hg2
    ·exact Ds5 hbB (hwW.at 7 rfl) (hcC.l hbB 9 rfl) (hcC.l hbB 10 rfl) @hg @hg2
    ·exact Ds7 hbB (hwW.at 4 rfl) (hwW.at 6 rfl) (hcC.l hbB 8 rfl) (hcC.l hbB 9 rfl) (hcC.l hbB 10 rfl) @hg @hg2
    ·exact Ds6 hbB (hwW.at 5 rfl) (hcC.l hbB 7 rfl) (hcC.l hbB 9 rfl) (hcC.l hbB 10 rfl) @hg @hg2
    ·exact Ds5 hbB (hcC.l hbB 6 rfl) (hcC.l hbB 9 rfl) (hcC.l hbB 10 rfl) @hg @hg2
    ·exact Ds6 hbB (hwW.at 3 rfl) (hcC.l hbB 7 rfl) (hcC.l hbB 9 rfl) (hcC.l hbB 10 rfl) @hg @hg2
    ·exact Ds7 hbB (hwW.at 0 rfl) (hwW.at 2 rfl) (hcC.l hbB 4 rfl) (hcC.l hbB 9 rfl) (hcC.l hbB 10 rfl) @hg @hg2
    ·exact Ds6 hbB (hwW.at 1 rfl) (hcC.l hbB 3 rfl) (hcC.l hbB 9 rfl) (hcC.l hbB 10 rfl) @hg @hg2
    ·exact Ds5 hbB (hcC.l hbB 2 rfl) (hcC.l hbB 9 rfl) (hcC.l hbB 10 rfl) @hg @hg2
    ·exact Ds5 hbB (hcC.l hbB 3 rfl) (hcC.l hbB 9 rfl) (hcC.l hbB 10 rfl) @hg @hg2
   simp only [List.length_cons, List.length_nil, Nat.reduceAdd, Nat.reduceLT, decide_true, if_true]
   refine Dd0 ?_
   (refine ⟨by simp, ?_⟩; simp only [go_sem, Try.results15])
theorem rat_none (f : Bool) (P : List (List (Int × Int))) (p k : Int) (n : Int) (h : ¬ (0 ≤ p ∧ p < P.length ∧ 0 ≤ k ∧ k < (pgN P p.toNat).length)) :
  Ret Try.prog 15 [.sl f (pgs P), .agg [.int .i64 p, .int .i64 k, .int .i64 n]] (.tup [.agg [.int .i64 0, .int .i64 0], .bool false]) := by
 have hrr := pgs_1 P
 by_cases h1 : p < 0
 ·have hd1 : decide (p < 0) = true := decide_eq_true h1
  refine Ret_of_body Try.func15 (by kernel_rfl) rfl ?_; rw [Try.ntmps15]
  refine Dd1 @hd1 ?_
  refine TW_cond rfl (fun hc => ?_) (fun hc => ?_)
  ·refine Dd0 ?_
   (refine ⟨by simp, ?_⟩; simp only [go_sem, Try.results15])
  ·simp at hc
 ·have hd1 : decide (p < 0) = false := decide_eq_false h1
  by_cases h2 : p ≥ P.length
  ·have hd2 : decide (p ≥ (P.length : Int)) = true := decide_eq_true h2
   refine Ret_of_body Try.func15 (by kernel_rfl) rfl ?_; rw [Try.ntmps15]
   refine Dd2 @hd1 @hd2 ?_
   refine TW_cond rfl (fun hc => ?_) (fun hc => ?_)
   ·refine Dd0 ?_
    (refine ⟨by simp, ?_⟩; simp only [go_sem, Try.results15])
   ·simp at hc
  ·have hd2 : decide (p ≥ (P.length : Int)) = false := decide_eq_false h2
   obtain ⟨i, rfl⟩ : ∃ i : Nat, p = i := ⟨p.toNat, by omega⟩
   have hi : i < P.length := by omega
   have hg := pgs_get P i hi
   rw [Int.toNat_natCast] at h
   by_cases h3 : k < 0
   ·have hd3 : decide (k < 0) = true := decide_eq_true h3
    refine Ret_of_body Try.func15 (by kernel_rfl) rfl ?_; rw [Try.ntmps15]
    refine Dd2 @hd1 @hd2 ?_
    refine TW_cond rfl (fun hc => ?_) (fun hc => ?_)
    ·simp at hc
    ·refine Dd0 ?_
     refine TW_sub (Sub_bl 131014) ?_
     refine TW_open mixed (by kernel_rfl) (fun b => ⟨[.sl f (pgs P), .junk, .junk, .ptr 3 0, .ptr 4 0, .bool false, .junk, .junk, .junk, .junk, .junk, .junk, .junk, .junk, .junk, .junk, .junk, if b 0 = true then .ptr 3 1 else .junk, if b 1 = true then .int .i64 k else .junk, if b 2 = true then .bool true else .junk, if b 3 = true then .bool true else .junk, if b 4 = true then .tup [] else .junk, if b 5 = true then .tup [] else .junk, if b 6 = true then .tup [] else .junk, if b 7 = true then .tup [] else .junk, if b 8 = true then .tup [] else .junk, if b 9 = true then .tup [] else .junk, if b 10 = true then .tup [] else .junk, if b 11 = true then .tup [] else .junk, if b 12 = true then .tup [] else .junk, if b 13 = true then .bool true else .junk, .junk, .junk, .junk, .junk, .junk, .junk, .junk, .junk, .junk, .junk], [.un, .un, .un, .box [.int .i64 (↑i : Int), .int .i64 k, .int .i64 n], .box [.int .i64 0, .int .i64 0], .un, .un, .un, .un, .un, .un, .un, .un, .un, .un, .un, .un, .un, .un, .un, .un, .un, .un, .un, .un, .un, .un, .un, .un, .un, .un, .un, .un, .un, .un, .un, .un, .un, .un, .un, .un], 0⟩) rfl ?_ ?_
     ·skip
      (repeat refine Di ?_ (fun b hwW hbB hcC => ?_)); (exact trivial)
      ·have w12 := hwW.at 12 rfl; exact Ds4 hbB (hwW.at 3 rfl) ((hcC 12 _ rfl w12).at 11 rfl) w12 @hd3
      ·exact Ds5 hbB (hwW.at 3 rfl) (hwW.at 5 rfl) (hwW.at 11 rfl) (hcC.l hbB 13 rfl) @hd3
      ·exact Ds4 hbB (hwW.at 3 rfl) (hwW.at 10 rfl) (hcC.l hbB 12 rfl) @hd3
      ·exact Ds4 hbB (hwW.at 3 rfl) (hwW.at 9 rfl) (hcC.l hbB 11 rfl) @hd3
      ·have l10 := hcC.l hbB 10 rfl; exact Ds6 hbB (hwW.at 3 rfl) (hwW.at 6 rfl) (hwW.at 8 rfl) l10 (hcC.l l10 11 rfl) @hd3
      ·have l9 := hcC.l hbB 9 rfl; have l10 := hcC.l l9 10 rfl; exact Ds5 hbB (hwW.at 3 rfl) (hwW.at 7 rfl) l9 (hcC.l l10 11 rfl) @hd3
      ·have l8 := hcC.l hbB 8 rfl; have l9 := hcC.l l8 9 rfl; have l10 := hcC.l l9 10 rfl; exact Ds4 hbB (hwW.at 3 rfl) l8 (hcC.l l10 11 rfl) @hd3
      ·have l9 := hcC.l hbB 9 rfl; have l10 := hcC.l l9 10 rfl; exact Ds4 hbB (hwW.at 3 rfl) l9 (hcC.l l10 11 rfl) @hd3
      ·exact Ds4 hbB (hwW.at 3 rfl) (hwW.at 4 rfl) (hcC.l hbB 12 rfl) @hd3
      ·exact Ds3 hbB (hwW.at 3 rfl) (hcC.l hbB 5 rfl) @hd3
      ·exact Ds12 hbB (hwW.at 2 rfl) (hcC.l hbB 4 rfl) (hcC.l hbB 5 rfl) (hcC.l hbB 6 rfl) (hcC.l hbB 7 rfl) (hcC.l hbB 8 rfl) (hcC.l hbB 9 rfl) (hcC.l hbB 10 rfl) (hcC.l hbB 11 rfl) (hcC.l hbB 12 rfl) (hcC.l hbB 13 rfl) @hd3
      ·have l3 := hcC.l hbB 3 rfl; exact Ds4 hbB (hwW.at 1 rfl) l3 (hcC.l l3 11 rfl) @hd3
      ·have l2 := hcC.l hbB 2 rfl; have l3 := hcC.l l2 3 rfl; exact Ds4 hbB (hwW.at 0 rfl) l2 (hcC.l l3 11 rfl) @hd3
      ·have l1 := hcC.l hbB 1 rfl; have l2 := hcC.l l1 2 rfl; have l3 := hcC.l l2 3 rfl; exact Ds3 hbB l1 (hcC.l l3 11 rfl) @hd3
     simp only [List.length_cons, List.length_nil, Nat.reduceAdd, Nat.reduceLT, decide_true, if_true]
     refine Dd0 ?_
     refine TW_cond rfl (fun hc => ?_) (fun hc => ?_)
     ·refine Dd0 ?_
      (refine ⟨by simp, ?_⟩; simp only [go_sem, Try.results15])
     ·simp at hc
   ·have hd3 : decide (k < 0) = false := decide_eq_false h3
    have hd4 : decide (k ≥ ((pgN P i).length : Int)) = true := decide_eq_true (by omega)
    refine Ret_of_body Try.func15 (by kernel_rfl) rfl ?_; rw [Try.ntmps15]
    refine Dd2 @hd1 @hd2 ?_
    refine TW_cond rfl (fun hc => ?_) (fun hc => ?_)
    ·simp at hc
    ·refine Dd0 ?_
     refine TW_sub (Sub_bl 131014) ?_
     refine TW_open mixed (by kernel_rfl) (fun b => ⟨[.sl f (pgs P), .junk, .junk, .ptr 3 0, .ptr 4 0, .bool false, .junk, .junk, .junk, .junk, .junk, .junk, .junk, .junk, .junk, .junk, .junk, if b 0 = true then .ptr 3 1 else .junk, if b 1 = true then .int .i64 k else .junk, if b 2 = true then .bool false else .junk, if b 3 = true then .bool false else .junk, if b 4 = true then .ptr 3 1 else .junk, if b 5 = true then .int .i64 k else .junk, if b 6 = true then .sl f (pgs P) else .junk, if b 7 = true then .ptr 3 0 else .junk, if b 8 = true then .int .i64 (↑i : Int) else .junk, if b 9 = true then .cptr [.sl false (mails (pgN P i))] else .junk, if b 10 = true then .sl false (mails (pgN P i)) else .junk, if b 11 = true then .int .i64 (↑(pgN P i).length : Int) else .junk, if b 12 = true then .bool true else .junk, if b 13 = true then .bool true else .junk, .junk, .junk, .junk, .junk, .junk, .junk, .junk, .junk, .junk, .junk], [.un, .un, .un, .box [.int .i64 (↑i : Int), .int .i64 k, .int .i64 n], .box [.int .i64 0, .int .i64 0], .un, .un, .un, .un, .un, .un, .un, .un, .un, .un, .un, .un, .un, .un, .un, .un, .un, .un, .un, .un, .un, .un, .un, .un, .un, .un, .un, .un, .un, .un, .un, .un, .un, .un, .un, .un], 0⟩) rfl ?_ ?_
     ·skip
      (repeat refine Di ?_ (fun b hwW hbB hcC => ?_)); (exact trivial)
      ·have w12 := hwW.at 12 rfl; exact Ds6 hbB (hwW.at 3 rfl) ((hcC 12 _ rfl w12).at 11 rfl) w12 @hd3 @hd4 @hg
      ·exact Ds7 hbB (hwW.at 3 rfl) (hwW.at 5 rfl) (hwW.at 11 rfl) (hcC.l hbB 13 rfl) @hd3 @hd4 @hg
      ·exact Ds6 hbB (hwW.at 3 rfl) (hwW.at 10 rfl) (hcC.l hbB 12 rfl) @hd3 @hd4 @hg
      ·exact Ds6 hbB (hwW.at 3 rfl) (hwW.at 9 rfl) (hcC.l hbB 11 rfl) @hd3 @hd4 @hg
      ·have l10 := hcC.l hbB 10 rfl; exact Ds8 hbB (hwW.at 3 rfl) (hwW.at 6 rfl) (hwW.at 8 rfl) l10 (hcC.l l10 11 rfl) @hd3 @hd4 @hg
      ·have l9 := hcC.l hbB 9 rfl; have l10 := hcC.l l9 10 rfl; exact Ds7 hbB (hwW.at 3 rfl) (hwW.at 7 rfl) l9 (hcC.l l10 11 rfl) @hd3 @hd4 @hg
      ·have l8 := hcC.l hbB 8 rfl; have l9 := hcC.l l8 9 rfl; have l10 := hcC.l l9 10 rfl; exact Ds6 hbB (hwW.at 3 rfl) l8 (hcC.l l10 11 rfl) @hd3 @hd4 @hg
      ·have l9 := hcC.l hbB 9 rfl; have l10 := hcC.l l9 10 rfl; exact Ds6 hbB (hwW.at 3 rfl) l9 (hcC.l l10 11 rfl) @hd3 @hd4 @hg
      ·exact Ds6 hbB (hwW.at 3 rfl) (hwW.at 4 rfl) (hcC.l hbB 12 rfl) @hd3 @hd4 @hg
      ·exact Ds5 hbB (hwW.at 3 rfl) (hcC.l hbB 5 rfl) @hd3 @hd4 @hg
      ·exact Ds14 hbB (hwW.at 2 rfl) (hcC.l hbB 4 rfl) (hcC.l hbB 5 rfl) (hcC.l hbB 6 rfl) (hcC.l hbB 7 rfl) (hcC.l hbB 8 rfl) (hcC.l hbB 9 rfl) (hcC.l hbB 10 rfl) (hcC.l hbB 11 rfl) (hcC.l hbB 12 rfl) (hcC.l hbB 13 rfl) @hd3 @hd4 @hg
      ·have l3 := hcC.l hbB 3 rfl; exact Ds6 hbB (hwW.at 1 rfl) l3 (hcC.l l3 11 rfl) @hd3 @hd4 @hg
      ·have l2 := hcC.l hbB 2 rfl; have l3 := hcC.l l2 3 rfl; exact Ds6 hbB (hwW.at 0 rfl) l2 (hcC.l l3 11 rfl) @hd3 @hd4 @hg
      ·have l1 := hcC.l hbB 1 rfl; have l2 := hcC.l l1 2 rfl; have l3 := hcC.l l2 3 rfl; exact Ds5 hbB l1 (hcC.l l3 11 rfl) @hd3 @hd4 @hg
     simp only [List.length_cons, List.length_nil, Nat.reduceAdd, Nat.reduceLT, decide_true, if_true]
     refine Dd0 ?_
     refine TW_cond rfl (fun hc => ?_) (fun hc => ?_)
     ·refine Dd0 ?_
      (refine ⟨by simp, ?_⟩; simp only [go_sem, Try.results15])
     ·simp at hc
theorem semmed_spec (sm : List (Int × List Int)) (bx : List Bx) (i : Nat) (c : Int) (l : List Int) (hi : i < sm.length) (hl : sm.length ≤ 1000000) :
  Ret Try.prog 29 [.agg [.sl false (sms sm), .sl false (bxs bx)], .int .i64 i, .agg [.int .i64 c, .sl false (ints l)]] (.agg [.sl false (sms (sm.set i (c, l))), .sl false (bxs bx)]) := by
 have hrr := sms_2 sm
 have hg := sms_get sm i hi
 refine Ret_of_body Try.func29 (by kernel_rfl) rfl ?_; rw [Try.ntmps29]
 refine Dd0 ?_
 refine TW_sub (Sub_bl 21) ?_
 refine TW_open mixed (by kernel_rfl) (fun b => ⟨[.junk, .int .i64 (↑i : Int), .junk, .ptr 3 0, .junk, .ptr 5 0, .ptr 6 0, if b 7 = true then .ptr 7 0 else .junk, if b 0 = true then .bsl 8 else .junk, if b 1 = true then .ptr 3 0 else .junk, if b 2 = true then .sl false (sms sm) else .junk, if b 3 = true then .bsl 11 else .junk, if b 4 = true then .ptr 3 1 else .junk, if b 5 = true then .sl false (bxs bx) else .junk, if b 6 = true then .agg [.bsl 11, .sl false (bxs bx)] else .junk, .junk, .junk, .junk, .junk, .junk, .junk], [.un, .un, .un, .box [.sl false (sms sm), .sl false (bxs bx)], .un, .box [.int .i64 c, .sl false (ints l)], .box [.nils, .nils], if b 8 = true then .box [.bsl 11, .sl false (bxs bx)] else if b 7 = true then .box [.nils, .nils] else .un, if b 3 = true then .dead else if b 0 = true then .arr 64 2 [] else .un, .un, .un, if b 3 = true then .arr 64 2 (sms sm) else .un, .un, .un, .un, .un, .un, .un, .un, .un, .un], 0⟩) rfl ?_ ?_
 ·skip
  (repeat refine Di ?_ (fun b hwW hbB hcC => ?_)); (exact trivial)
  ·exact Ds8 hbB (hwW.at 0 rfl) (hwW.at 1 rfl) (hwW.at 2 rfl) (hwW.at 3 rfl) (hwW.at 4 rfl) (hwW.at 5 rfl) (hwW.at 6 rfl) (hwW.at 7 rfl)
  ·exact Ds1 hbB (hcC.l hbB 8 rfl)
  ·have w3 := hwW.at 3 rfl; exact Ds4 hbB ((hcC 3 _ rfl w3).at 0 rfl) w3 (hwW.at 5 rfl) (hcC.l hbB 8 rfl)
  ·exact Ds3 hbB (hwW.at 4 rfl) (hcC.l hbB 6 rfl) (hcC.l hbB 8 rfl)
  ·exact Ds2 hbB (hcC.l hbB 5 rfl) (hcC.l hbB 8 rfl)
  ·exact Ds4 hbB (hwW.at 0 rfl) (hwW.at 2 rfl) (hcC.l hbB 6 rfl) (hcC.l hbB 8 rfl)
  ·exact Ds3 hbB (hwW.at 1 rfl) (hcC.l hbB 3 rfl) (hcC.l hbB 8 rfl)
  ·have l2 := hcC.l hbB 2 rfl; exact Ds3 hbB l2 (hcC.l l2 3 rfl) (hcC.l hbB 8 rfl)
  ·exact Ds2 hbB (hcC.l hbB 3 rfl) (hcC.l hbB 8 rfl)
 simp only [List.length_cons, List.length_nil, Nat.reduceAdd, Nat.reduceLT, decide_true, if_true]
 refine Dd1 @hg ?_
 (refine ⟨by simp, ?_⟩; simp only [go_sem, Try.results29])
theorem boxed_spec (sm : List (Int × List Int)) (bx : List Bx) (i : Nat) (x : Bx) (hi : i < bx.length) (hl : bx.length ≤ 1000000) :
  Ret Try.prog 32 [.agg [.sl false (sms sm), .sl false (bxs bx)], .int .i64 i, bxa x] (.agg [.sl false (sms sm), .sl false (bxs (bx.set i x))]) := by
 have hrr := bxs_4 bx
 have hg := bxs_get bx i hi
 unfold bxa
 refine Ret_of_body Try.func32 (by kernel_rfl) rfl ?_; rw [Try.ntmps32]
 refine Dd0 ?_
 refine TW_sub (Sub_bl 21) ?_
 refine TW_open mixed (by kernel_rfl) (fun b => ⟨[.junk, .int .i64 (↑i : Int), .junk, .ptr 3 0, .junk, .ptr 5 0, .ptr 6 0, if b 7 = true then .ptr 7 0 else .junk, if b 0 = true then .ptr 3 0 else .junk, if b 1 = true then .sl false (sms sm) else .junk, if b 2 = true then .bsl 10 else .junk, if b 3 = true then .ptr 3 1 else .junk, if b 4 = true then .sl false (bxs bx) else .junk, if b 5 = true then .bsl 13 else .junk, if b 6 = true then .agg [.sl false (sms sm), .bsl 13] else .junk, .junk, .junk, .junk, .junk, .junk, .junk], [.un, .un, .un, .box [.sl false (sms sm), .sl false (bxs bx)], .un, .box [.int .i64 x.r, .sl false (ints x.m), .sl false (mails x.s), .sl false (ints x.w)], .box [.nils, .nils], if b 8 = true then .box [.sl false (sms sm), .bsl 13] else if b 7 = true then .box [.nils, .nils] else .un, .un, .un, if b 5 = true then .dead else if b 2 = true then .arr 68 4 [] else .un, .un, .un, if b 5 = true then .arr 68 4 (bxs bx) else .un, .un, .un, .un, .un, .un, .un, .un], 0⟩) rfl ?_ ?_
 ·skip
  (repeat refine Di ?_ (fun b hwW hbB hcC => ?_)); (exact trivial)
  ·exact Ds8 hbB (hwW.at 0 rfl) (hwW.at 1 rfl) (hwW.at 2 rfl) (hwW.at 3 rfl) (hwW.at 4 rfl) (hwW.at 5 rfl) (hwW.at 6 rfl) (hwW.at 7 rfl)
  ·exact Ds1 hbB (hcC.l hbB 8 rfl)
  ·have w5 := hwW.at 5 rfl; exact Ds4 hbB (hwW.at 1 rfl) ((hcC 5 _ rfl w5).at 2 rfl) w5 (hcC.l hbB 8 rfl)
  ·exact Ds4 hbB (hwW.at 2 rfl) (hwW.at 4 rfl) (hcC.l hbB 6 rfl) (hcC.l hbB 8 rfl)
  ·exact Ds3 hbB (hwW.at 3 rfl) (hcC.l hbB 5 rfl) (hcC.l hbB 8 rfl)
  ·have l4 := hcC.l hbB 4 rfl; exact Ds3 hbB l4 (hcC.l l4 5 rfl) (hcC.l hbB 8 rfl)
  ·exact Ds2 hbB (hcC.l hbB 5 rfl) (hcC.l hbB 8 rfl)
  ·exact Ds3 hbB (hwW.at 0 rfl) (hcC.l hbB 6 rfl) (hcC.l hbB 8 rfl)
  ·exact Ds2 hbB (hcC.l hbB 1 rfl) (hcC.l hbB 8 rfl)
 simp only [List.length_cons, List.length_nil, Nat.reduceAdd, Nat.reduceLT, decide_true, if_true]
 refine Dd1 @hg ?_
 (refine ⟨by simp, ?_⟩; simp only [go_sem, Try.results32])
def inr (a n : Int) : Bool := decide (a ≥ 0) && decide (a < n)
def mayI (s x p q : Nat) (op a : Int) : Bool :=
 if op = 1 ∨ op = 2 ∨ op = 8 ∨ op = 10 then true else if op = 3 then inr a p else if op = 4 ∨ op = 5 then inr a s else if op = 6 ∨ op = 7 then inr a x else if op = 9 then inr a q else false
theorem rmay_spec (f3 : Bool) (sm : List (Int × List Int)) (bx : List Bx) (P : List (List (Int × Int))) (i : Nat) (k n op a : Int) (hi : i < P.length) :
  Ret Try.prog 27 [.agg [.sl false (sms sm), .sl false (bxs bx)], .sl f3 (pgs P), .agg [.int .i64 i, .int .i64 k, .int .i64 n], .agg [.int .i64 op, .int .i64 a]] (.bool (mayI sm.length bx.length P.length (pgN P i).length op a)) := by
 have hrr := pgs_1 P
 have hg := pgs_get P i hi
 unfold mayI
 refine Ret_of_body Try.func27 (by kernel_rfl) rfl ?_; rw [Try.ntmps27]
 refine Dd0 ?_
 refine TW_cond rfl (fun hc => ?_) (fun hc => ?_)
 ·have h : op = 1 := by simpa using hc
  refine Dd0 ?_
  refine TW_cond rfl (fun hc => ?_) (fun hc => ?_)
  ·refine Dd0 ?_
   (refine ⟨by simp, ?_⟩; simp only [go_sem, Try.results27])
   rw [if_pos (.inl h)]
  ·rename_i hx; simp at hc hx; omega
 ·refine Dd0 ?_
  refine TW_cond rfl (fun hc => ?_) (fun hc => ?_)
  ·have h : op = 2 := by simpa using hc
   refine Dd0 ?_
   refine TW_cond rfl (fun hc => ?_) (fun hc => ?_)
   ·refine Dd0 ?_
    (refine ⟨by simp, ?_⟩; simp only [go_sem, Try.results27])
    rw [if_pos (.inr (.inl h))]
   ·rename_i hx; simp at hc hx; omega
  ·refine Dd0 ?_
   refine TW_cond rfl (fun hc => ?_) (fun hc => ?_)
   ·have h : op = 8 := by simpa using hc
    refine Dd0 ?_
    refine TW_cond rfl (fun hc => ?_) (fun hc => ?_)
    ·refine Dd0 ?_
     (refine ⟨by simp, ?_⟩; simp only [go_sem, Try.results27])
     rw [if_pos (.inr (.inr (.inl h)))]
    ·rename_i hx; simp at hc hx; omega
   ·refine Dd0 ?_
    refine TW_cond rfl (fun hc => ?_) (fun hc => ?_)
    ·have h : op = 10 := by simpa using hc
     refine Dd0 ?_
     (refine ⟨by simp, ?_⟩; simp only [go_sem, Try.results27])
     rw [if_pos (.inr (.inr (.inr h)))]
    ·have h0 : ¬ (op = 1 ∨ op = 2 ∨ op = 8 ∨ op = 10) := by rename_i h1 h2 h3; simp at hc h1 h2 h3; omega
     rw [if_neg h0]
     refine Dd0 ?_
     refine TW_cond rfl (fun hc => ?_) (fun hc => ?_)
     ·have h : op = 3 := by simpa using hc
      repeat (first | ((with_reducible first | refine O1 rfl (fun N hN => ?_) | refine O2 rfl rfl rfl (fun N hN => ?_)); simp only [go_sem]; (try refine Or.inl ?_); (repeat (refine And.intro (by first | omega | ((try simp only [go_sem, List.length_append, lim, lim2]) <;> omega) | assumption | exact ints_1 _ | exact rfl | (simp [ints]; done)) ?_)); (first | refine hN _ ?_ | (intro _ _; refine hN _ ?_)); clear hN N) | with_reducible (first | apply Ea | apply Eb | apply Ec | apply Ed | apply Ee | apply Ef | apply Eg | apply Eh | apply Ei | apply Ej | apply Ek | apply El | apply Em | refine En rfl ?_ | apply Eo | apply Ep | apply Eq1 | apply Er | apply Es) | ((with_reducible first | refine O3 rfl rfl rfl rfl ?_ | refine O4 rfl rfl rfl ?_); simp only [go_sem]) | ((first | ((with_reducible apply D1); exact rfl) | ((with_reducible apply D2); iterate 4 exact rfl)); (intro tq N hH hR hN; (first | (simp only [go_sem] at hR; simp only [hR, hH, go_sem] at hN ⊢) | simp only [hH, go_sem] at hN ⊢); (try refine Or.inl ?_); (repeat (refine And.intro (by first | omega | ((try simp only [go_sem, List.length_append, lim, lim2]) <;> omega) | assumption | exact ints_1 _ | exact rfl | (simp [ints]; done)) ?_)); exact hN _ rfl); (try simp only [go_sem, Bool.not_not])) | ((first | ((with_reducible apply D5); exact rfl; iterate 4 exact rfl) | ((with_reducible apply D6); exact rfl; iterate 4 exact rfl) | ((with_reducible apply D7); iterate 4 exact rfl)); (try simp only [go_sem, Bool.not_not])) | ((first | ((with_reducible apply D3); iterate 4 exact rfl) | ((with_reducible apply D4); iterate 4 exact rfl)); (intro tq N hcq hH hR hN; (try simp only [beq_true, beq_false, Bool.not_eq_true', Bool.not_eq_false', Bool.and_eq_true, Bool.true_and, Bool.and_true, Bool.not_true, Bool.not_false, if_true] at hcq); have hd := hcq; (try simp only [decide_eq_true_eq, decide_eq_false_iff_not, Bool.or_eq_false_iff, Bool.and_eq_true] at hd); (first | (simp only [hcq, AV.opt_true, Bool.and_eq_true, Bool.true_and, Bool.and_true, Bool.not_true, Bool.not_false, if_true, go_sem] at hR; simp only [hR, hH, hcq, AV.opt_true, Bool.and_eq_true, Bool.true_and, Bool.and_true, Bool.not_true, Bool.not_false, if_true, go_sem] at hN ⊢) | simp only [hH, hcq, AV.opt_true, Bool.and_eq_true, Bool.true_and, Bool.and_true, Bool.not_true, Bool.not_false, if_true, go_sem] at hN ⊢); (try refine Or.inl ?_); (repeat (refine And.intro (by first | omega | ((try simp only [go_sem, List.length_append, lim, lim2]) <;> omega) | assumption | exact ints_1 _ | exact rfl | (simp [ints]; done)) ?_)); exact hN _ rfl); (try simp only [go_sem, Bool.not_not])) | (with_reducible first | apply D8 | apply D9 | refine Tq mixed (by kernel_rfl) (by kernel_rfl) ?_))
      (refine ⟨by simp, ?_⟩; simp only [go_sem, Try.results27])
      rw [if_pos h]; rfl
     ·have h3 : ¬ op = 3 := by simpa using hc
      rw [if_neg h3]
      refine Dd0 ?_
      refine TW_cond rfl (fun hc => ?_) (fun hc => ?_)
      ·have h : op = 4 := by simpa using hc
       refine Dd0 ?_
       refine TW_cond rfl (fun hc => ?_) (fun hc => ?_)
       ·repeat (first | ((with_reducible first | refine O1 rfl (fun N hN => ?_) | refine O2 rfl rfl rfl (fun N hN => ?_)); simp only [go_sem]; (try refine Or.inl ?_); (repeat (refine And.intro (by first | omega | ((try simp only [go_sem, List.length_append, lim, lim2]) <;> omega) | assumption | exact ints_1 _ | exact rfl | (simp [ints]; done)) ?_)); (first | refine hN _ ?_ | (intro _ _; refine hN _ ?_)); clear hN N) | with_reducible (first | apply Ea | apply Eb | apply Ec | apply Ed | apply Ee | apply Ef | apply Eg | apply Eh | apply Ei | apply Ej | apply Ek | apply El | apply Em | refine En rfl ?_ | apply Eo | apply Ep | apply Eq1 | apply Er | apply Es) | ((with_reducible first | refine O3 rfl rfl rfl rfl ?_ | refine O4 rfl rfl rfl ?_); simp only [go_sem]) | ((first | ((with_reducible apply D1); exact rfl) | ((with_reducible apply D2); iterate 4 exact rfl)); (intro tq N hH hR hN; (first | (simp only [go_sem] at hR; simp only [hR, hH, go_sem] at hN ⊢) | simp only [hH, go_sem] at hN ⊢); (try refine Or.inl ?_); (repeat (refine And.intro (by first | omega | ((try simp only [go_sem, List.length_append, lim, lim2]) <;> omega) | assumption | exact ints_1 _ | exact rfl | (simp [ints]; done)) ?_)); exact hN _ rfl); (try simp only [go_sem, Bool.not_not])) | ((first | ((with_reducible apply D5); exact rfl; iterate 4 exact rfl) | ((with_reducible apply D6); exact rfl; iterate 4 exact rfl) | ((with_reducible apply D7); iterate 4 exact rfl)); (try simp only [go_sem, Bool.not_not])) | ((first | ((with_reducible apply D3); iterate 4 exact rfl) | ((with_reducible apply D4); iterate 4 exact rfl)); (intro tq N hcq hH hR hN; (try simp only [beq_true, beq_false, Bool.not_eq_true', Bool.not_eq_false', Bool.and_eq_true, Bool.true_and, Bool.and_true, Bool.not_true, Bool.not_false, if_true] at hcq); have hd := hcq; (try simp only [decide_eq_true_eq, decide_eq_false_iff_not, Bool.or_eq_false_iff, Bool.and_eq_true] at hd); (first | (simp only [hcq, AV.opt_true, Bool.and_eq_true, Bool.true_and, Bool.and_true, Bool.not_true, Bool.not_false, if_true, go_sem] at hR; simp only [hR, hH, hcq, AV.opt_true, Bool.and_eq_true, Bool.true_and, Bool.and_true, Bool.not_true, Bool.not_false, if_true, go_sem] at hN ⊢) | simp only [hH, hcq, AV.opt_true, Bool.and_eq_true, Bool.true_and, Bool.and_true, Bool.not_true, Bool.not_false, if_true, go_sem] at hN ⊢); (try refine Or.inl ?_); (repeat (refine And.intro (by first | omega | ((try simp only [go_sem, List.length_append, lim, lim2]) <;> omega) | assumption | exact ints_1 _ | exact rfl | (simp [ints]; done)) ?_)); exact hN _ rfl); (try simp only [go_sem, Bool.not_not])) | (with_reducible first | apply D8 | apply D9 | refine Tq mixed (by kernel_rfl) (by kernel_rfl) ?_))
        (refine ⟨by simp, ?_⟩; simp only [go_sem, Try.results27])
        rw [if_pos (.inl h)]; rfl
       ·rename_i hx; simp at hc hx; omega
      ·refine Dd0 ?_
       refine TW_cond rfl (fun hc => ?_) (fun hc => ?_)
       ·have h : op = 5 := by simpa using hc
        repeat (first | ((with_reducible first | refine O1 rfl (fun N hN => ?_) | refine O2 rfl rfl rfl (fun N hN => ?_)); simp only [go_sem]; (try refine Or.inl ?_); (repeat (refine And.intro (by first | omega | ((try simp only [go_sem, List.length_append, lim, lim2]) <;> omega) | assumption | exact ints_1 _ | exact rfl | (simp [ints]; done)) ?_)); (first | refine hN _ ?_ | (intro _ _; refine hN _ ?_)); clear hN N) | with_reducible (first | apply Ea | apply Eb | apply Ec | apply Ed | apply Ee | apply Ef | apply Eg | apply Eh | apply Ei | apply Ej | apply Ek | apply El | apply Em | refine En rfl ?_ | apply Eo | apply Ep | apply Eq1 | apply Er | apply Es) | ((with_reducible first | refine O3 rfl rfl rfl rfl ?_ | refine O4 rfl rfl rfl ?_); simp only [go_sem]) | ((first | ((with_reducible apply D1); exact rfl) | ((with_reducible apply D2); iterate 4 exact rfl)); (intro tq N hH hR hN; (first | (simp only [go_sem] at hR; simp only [hR, hH, go_sem] at hN ⊢) | simp only [hH, go_sem] at hN ⊢); (try refine Or.inl ?_); (repeat (refine And.intro (by first | omega | ((try simp only [go_sem, List.length_append, lim, lim2]) <;> omega) | assumption | exact ints_1 _ | exact rfl | (simp [ints]; done)) ?_)); exact hN _ rfl); (try simp only [go_sem, Bool.not_not])) | ((first | ((with_reducible apply D5); exact rfl; iterate 4 exact rfl) | ((with_reducible apply D6); exact rfl; iterate 4 exact rfl) | ((with_reducible apply D7); iterate 4 exact rfl)); (try simp only [go_sem, Bool.not_not])) | ((first | ((with_reducible apply D3); iterate 4 exact rfl) | ((with_reducible apply D4); iterate 4 exact rfl)); (intro tq N hcq hH hR hN; (try simp only [beq_true, beq_false, Bool.not_eq_true', Bool.not_eq_false', Bool.and_eq_true, Bool.true_and, Bool.and_true, Bool.not_true, Bool.not_false, if_true] at hcq); have hd := hcq; (try simp only [decide_eq_true_eq, decide_eq_false_iff_not, Bool.or_eq_false_iff, Bool.and_eq_true] at hd); (first | (simp only [hcq, AV.opt_true, Bool.and_eq_true, Bool.true_and, Bool.and_true, Bool.not_true, Bool.not_false, if_true, go_sem] at hR; simp only [hR, hH, hcq, AV.opt_true, Bool.and_eq_true, Bool.true_and, Bool.and_true, Bool.not_true, Bool.not_false, if_true, go_sem] at hN ⊢) | simp only [hH, hcq, AV.opt_true, Bool.and_eq_true, Bool.true_and, Bool.and_true, Bool.not_true, Bool.not_false, if_true, go_sem] at hN ⊢); (try refine Or.inl ?_); (repeat (refine And.intro (by first | omega | ((try simp only [go_sem, List.length_append, lim, lim2]) <;> omega) | assumption | exact ints_1 _ | exact rfl | (simp [ints]; done)) ?_)); exact hN _ rfl); (try simp only [go_sem, Bool.not_not])) | (with_reducible first | apply D8 | apply D9 | refine Tq mixed (by kernel_rfl) (by kernel_rfl) ?_))
        (refine ⟨by simp, ?_⟩; simp only [go_sem, Try.results27])
        rw [if_pos (.inr h)]; rfl
       ·have h45 : ¬ (op = 4 ∨ op = 5) := by rename_i hx; simp at hc hx; omega
        rw [if_neg h45]
        refine Dd0 ?_
        refine TW_cond rfl (fun hc => ?_) (fun hc => ?_)
        ·have h : op = 6 := by simpa using hc
         refine Dd0 ?_
         refine TW_cond rfl (fun hc => ?_) (fun hc => ?_)
         ·repeat (first | ((with_reducible first | refine O1 rfl (fun N hN => ?_) | refine O2 rfl rfl rfl (fun N hN => ?_)); simp only [go_sem]; (try refine Or.inl ?_); (repeat (refine And.intro (by first | omega | ((try simp only [go_sem, List.length_append, lim, lim2]) <;> omega) | assumption | exact ints_1 _ | exact rfl | (simp [ints]; done)) ?_)); (first | refine hN _ ?_ | (intro _ _; refine hN _ ?_)); clear hN N) | with_reducible (first | apply Ea | apply Eb | apply Ec | apply Ed | apply Ee | apply Ef | apply Eg | apply Eh | apply Ei | apply Ej | apply Ek | apply El | apply Em | refine En rfl ?_ | apply Eo | apply Ep | apply Eq1 | apply Er | apply Es) | ((with_reducible first | refine O3 rfl rfl rfl rfl ?_ | refine O4 rfl rfl rfl ?_); simp only [go_sem]) | ((first | ((with_reducible apply D1); exact rfl) | ((with_reducible apply D2); iterate 4 exact rfl)); (intro tq N hH hR hN; (first | (simp only [go_sem] at hR; simp only [hR, hH, go_sem] at hN ⊢) | simp only [hH, go_sem] at hN ⊢); (try refine Or.inl ?_); (repeat (refine And.intro (by first | omega | ((try simp only [go_sem, List.length_append, lim, lim2]) <;> omega) | assumption | exact ints_1 _ | exact rfl | (simp [ints]; done)) ?_)); exact hN _ rfl); (try simp only [go_sem, Bool.not_not])) | ((first | ((with_reducible apply D5); exact rfl; iterate 4 exact rfl) | ((with_reducible apply D6); exact rfl; iterate 4 exact rfl) | ((with_reducible apply D7); iterate 4 exact rfl)); (try simp only [go_sem, Bool.not_not])) | ((first | ((with_reducible apply D3); iterate 4 exact rfl) | ((with_reducible apply D4); iterate 4 exact rfl)); (intro tq N hcq hH hR hN; (try simp only [beq_true, beq_false, Bool.not_eq_true', Bool.not_eq_false', Bool.and_eq_true, Bool.true_and, Bool.and_true, Bool.not_true, Bool.not_false, if_true] at hcq); have hd := hcq; (try simp only [decide_eq_true_eq, decide_eq_false_iff_not, Bool.or_eq_false_iff, Bool.and_eq_true] at hd); (first | (simp only [hcq, AV.opt_true, Bool.and_eq_true, Bool.true_and, Bool.and_true, Bool.not_true, Bool.not_false, if_true, go_sem] at hR; simp only [hR, hH, hcq, AV.opt_true, Bool.and_eq_true, Bool.true_and, Bool.and_true, Bool.not_true, Bool.not_false, if_true, go_sem] at hN ⊢) | simp only [hH, hcq, AV.opt_true, Bool.and_eq_true, Bool.true_and, Bool.and_true, Bool.not_true, Bool.not_false, if_true, go_sem] at hN ⊢); (try refine Or.inl ?_); (repeat (refine And.intro (by first | omega | ((try simp only [go_sem, List.length_append, lim, lim2]) <;> omega) | assumption | exact ints_1 _ | exact rfl | (simp [ints]; done)) ?_)); exact hN _ rfl); (try simp only [go_sem, Bool.not_not])) | (with_reducible first | apply D8 | apply D9 | refine Tq mixed (by kernel_rfl) (by kernel_rfl) ?_))
          (refine ⟨by simp, ?_⟩; simp only [go_sem, Try.results27])
          rw [if_pos (.inl h)]; rfl
         ·rename_i hx; simp at hc hx; omega
        ·refine Dd0 ?_
         refine TW_cond rfl (fun hc => ?_) (fun hc => ?_)
         ·have h : op = 7 := by simpa using hc
          repeat (first | ((with_reducible first | refine O1 rfl (fun N hN => ?_) | refine O2 rfl rfl rfl (fun N hN => ?_)); simp only [go_sem]; (try refine Or.inl ?_); (repeat (refine And.intro (by first | omega | ((try simp only [go_sem, List.length_append, lim, lim2]) <;> omega) | assumption | exact ints_1 _ | exact rfl | (simp [ints]; done)) ?_)); (first | refine hN _ ?_ | (intro _ _; refine hN _ ?_)); clear hN N) | with_reducible (first | apply Ea | apply Eb | apply Ec | apply Ed | apply Ee | apply Ef | apply Eg | apply Eh | apply Ei | apply Ej | apply Ek | apply El | apply Em | refine En rfl ?_ | apply Eo | apply Ep | apply Eq1 | apply Er | apply Es) | ((with_reducible first | refine O3 rfl rfl rfl rfl ?_ | refine O4 rfl rfl rfl ?_); simp only [go_sem]) | ((first | ((with_reducible apply D1); exact rfl) | ((with_reducible apply D2); iterate 4 exact rfl)); (intro tq N hH hR hN; (first | (simp only [go_sem] at hR; simp only [hR, hH, go_sem] at hN ⊢) | simp only [hH, go_sem] at hN ⊢); (try refine Or.inl ?_); (repeat (refine And.intro (by first | omega | ((try simp only [go_sem, List.length_append, lim, lim2]) <;> omega) | assumption | exact ints_1 _ | exact rfl | (simp [ints]; done)) ?_)); exact hN _ rfl); (try simp only [go_sem, Bool.not_not])) | ((first | ((with_reducible apply D5); exact rfl; iterate 4 exact rfl) | ((with_reducible apply D6); exact rfl; iterate 4 exact rfl) | ((with_reducible apply D7); iterate 4 exact rfl)); (try simp only [go_sem, Bool.not_not])) | ((first | ((with_reducible apply D3); iterate 4 exact rfl) | ((with_reducible apply D4); iterate 4 exact rfl)); (intro tq N hcq hH hR hN; (try simp only [beq_true, beq_false, Bool.not_eq_true', Bool.not_eq_false', Bool.and_eq_true, Bool.true_and, Bool.and_true, Bool.not_true, Bool.not_false, if_true] at hcq); have hd := hcq; (try simp only [decide_eq_true_eq, decide_eq_false_iff_not, Bool.or_eq_false_iff, Bool.and_eq_true] at hd); (first | (simp only [hcq, AV.opt_true, Bool.and_eq_true, Bool.true_and, Bool.and_true, Bool.not_true, Bool.not_false, if_true, go_sem] at hR; simp only [hR, hH, hcq, AV.opt_true, Bool.and_eq_true, Bool.true_and, Bool.and_true, Bool.not_true, Bool.not_false, if_true, go_sem] at hN ⊢) | simp only [hH, hcq, AV.opt_true, Bool.and_eq_true, Bool.true_and, Bool.and_true, Bool.not_true, Bool.not_false, if_true, go_sem] at hN ⊢); (try refine Or.inl ?_); (repeat (refine And.intro (by first | omega | ((try simp only [go_sem, List.length_append, lim, lim2]) <;> omega) | assumption | exact ints_1 _ | exact rfl | (simp [ints]; done)) ?_)); exact hN _ rfl); (try simp only [go_sem, Bool.not_not])) | (with_reducible first | apply D8 | apply D9 | refine Tq mixed (by kernel_rfl) (by kernel_rfl) ?_))
          (refine ⟨by simp, ?_⟩; simp only [go_sem, Try.results27])
          rw [if_pos (.inr h)]; rfl
         ·have h67 : ¬ (op = 6 ∨ op = 7) := by rename_i hx; simp at hc hx; omega
          rw [if_neg h67]
          refine Dd0 ?_
          refine TW_cond rfl (fun hc => ?_) (fun hc => ?_)
          ·have h : op = 9 := by simpa using hc
           repeat (first | ((with_reducible first | refine O1 rfl (fun N hN => ?_) | refine O2 rfl rfl rfl (fun N hN => ?_)); simp only [go_sem, hg]; (try refine Or.inl ?_); (repeat (refine And.intro (by first | omega | ((try simp only [go_sem, hg, List.length_append, lim, lim2]) <;> omega) | assumption | exact ints_1 _ | exact rfl | (simp [ints]; done)) ?_)); (first | refine hN _ ?_ | (intro _ _; refine hN _ ?_)); clear hN N) | with_reducible (first | apply Ea | apply Eb | apply Ec | apply Ed | apply Ee | apply Ef | apply Eg | apply Eh | apply Ei | apply Ej | apply Ek | apply El | apply Em | refine En rfl ?_ | apply Eo | apply Ep | apply Eq1 | apply Er | apply Es) | ((with_reducible first | refine O3 rfl rfl rfl rfl ?_ | refine O4 rfl rfl rfl ?_); simp only [go_sem, hg]) | ((first | ((with_reducible apply D1); exact rfl) | ((with_reducible apply D2); iterate 4 exact rfl)); (intro tq N hH hR hN; (first | (simp only [go_sem, hg] at hR; simp only [hR, hH, go_sem, hg] at hN ⊢) | simp only [hH, go_sem, hg] at hN ⊢); (try refine Or.inl ?_); (repeat (refine And.intro (by first | omega | ((try simp only [go_sem, hg, List.length_append, lim, lim2]) <;> omega) | assumption | exact ints_1 _ | exact rfl | (simp [ints]; done)) ?_)); exact hN _ rfl); (try simp only [go_sem, hg, Bool.not_not])) | ((first | ((with_reducible apply D5); exact rfl; iterate 4 exact rfl) | ((with_reducible apply D6); exact rfl; iterate 4 exact rfl) | ((with_reducible apply D7); iterate 4 exact rfl)); (try simp only [go_sem, hg, Bool.not_not])) | ((first | ((with_reducible apply D3); iterate 4 exact rfl) | ((with_reducible apply D4); iterate 4 exact rfl)); (intro tq N hcq hH hR hN; (try simp only [beq_true, beq_false, Bool.not_eq_true', Bool.not_eq_false', Bool.and_eq_true, Bool.true_and, Bool.and_true, Bool.not_true, Bool.not_false, if_true] at hcq); have hd := hcq; (try simp only [decide_eq_true_eq, decide_eq_false_iff_not, Bool.or_eq_false_iff, Bool.and_eq_true] at hd); (first | (simp only [hcq, AV.opt_true, Bool.and_eq_true, Bool.true_and, Bool.and_true, Bool.not_true, Bool.not_false, if_true, go_sem, hg] at hR; simp only [hR, hH, hcq, AV.opt_true, Bool.and_eq_true, Bool.true_and, Bool.and_true, Bool.not_true, Bool.not_false, if_true, go_sem, hg] at hN ⊢) | simp only [hH, hcq, AV.opt_true, Bool.and_eq_true, Bool.true_and, Bool.and_true, Bool.not_true, Bool.not_false, if_true, go_sem, hg] at hN ⊢); (try refine Or.inl ?_); (repeat (refine And.intro (by first | omega | ((try simp only [go_sem, hg, List.length_append, lim, lim2]) <;> omega) | assumption | exact ints_1 _ | exact rfl | (simp [ints]; done)) ?_)); exact hN _ rfl); (try simp only [go_sem, hg, Bool.not_not])) | (with_reducible first | apply D8 | apply D9 | refine Tq mixed (by kernel_rfl) (by kernel_rfl) ?_))
           (refine ⟨by simp, ?_⟩; simp only [go_sem, Try.results27])
           rw [if_pos h]; rfl
          ·have h9 : ¬ op = 9 := by simpa using hc
           rw [if_neg h9]
           refine Dd0 ?_
           (refine ⟨by simp, ?_⟩; simp only [go_sem, Try.results27])
theorem rdo1 (f : Bool) (sm : List (Int × List Int)) (bx : List Bx) (P : List (List (Int × Int))) (i k : Nat) (n g : Int) (a : Int) (hi : i < P.length) (hk0 : k < (pgN P i).length) (hb : (pgN P i).length ≤ 9223372036854775807) (hat0 : atN (pgN P i) k = (1, a)) (hmay : mayI sm.length bx.length P.length (pgN P i).length 1 a = true)  :
  Ret Try.prog 13 [.agg [.sl false (sms sm), .sl false (bxs bx)], .sl f (pgs P), .agg [.int .i64 i, .int .i64 k, .int .i64 n], .int .i64 g] (.tup [.agg [.sl false (sms sm), .sl false (bxs bx)], .agg [.int .i64 i, .int .i64 ((k : Int) + 1), .int .i64 (IntKind.i64.wrap (n + a))], .agg [.int .i64 1, .int .i64 0, .int .i64 0, .bool false, .int .i64 0], .int .i64 0]) := by
 have hA := rat_some f P i k n hi hk0
 rw [hat0] at hA
 have hMy := rmay_spec f sm bx P i k n 1 a hi
 rw [hmay] at hMy
 have hw := wrap_i64 (n := (k : Int) + 1) (by omega) (by omega)
 refine Ret_of_body Try.func13 (by kernel_rfl) rfl ?_; rw [Try.ntmps13]
 refine Dd0 ?_
 refine Dpu0 (hA) ?_
 refine Dd0 ?_
 refine TW_cond rfl (fun hc => ?_) (fun hc => ?_)
 ·simp at hc
 ·refine Dd0 ?_
  ((with_reducible first | refine O1 rfl (fun N hN => ?_) | refine O2 rfl rfl rfl (fun N hN => ?_)); simp only [go_sem]; refine vCall.sc _ _ (hMy) ?ha57 rfl (hN _ ?hk57); (case ha57 => (first | (simp only [go_sem]; done) | (simp only [go_sem] <;> (first | omega | ((try simp only [go_sem, List.length_append, lim, lim2]) <;> omega) | assumption | exact ints_1 _ | exact rfl | (simp [ints]; done))) | (simp [ints]; done))); clear hN N; apply Ops_eq; (simp only [go_sem]; rfl))
  refine Dd0 ?_
  refine TW_cond rfl (fun hc => ?_) (fun hc => ?_)
  ·simp at hc
  ·refine Dd1 @hw ?_
   refine TW_cond rfl (fun hc => ?_) (fun hc => ?_)
   ·refine Dd0 ?_
    refine TW_sub (Sub_bl 215679573337205118357336120696157045389097155380324579848828881973487) ?_
    refine TW_open mixed (by kernel_rfl) (fun b => ⟨[.junk, .junk, .junk, .junk, .ptr 4 0, .junk, .junk, .junk, .ptr 8 0, .ptr 9 0, .ptr 10 0, .int .i64 0, .junk, .junk, .ptr 14 0, .junk, .junk, .junk, .junk, .junk, .junk, .junk, .junk, .junk, .junk, .junk, .junk, .junk, .junk, .junk, .junk, .junk, .junk, .junk, .junk, .junk, .junk, .junk, .junk, .junk, .junk, .junk, .junk, .junk, .junk, .junk, .junk, .junk, .junk, .junk, .junk, .junk, .junk, .junk, .junk, .junk, .junk, .junk, .junk, .junk, .junk, .junk, .junk, .junk, .junk, .junk, .junk, .junk, .junk, .junk, .junk, .junk, .junk, .junk, .junk, .junk, .junk, .junk, .junk, .junk, .junk, .junk, .junk, .junk, .junk, .junk, .junk, .junk, .junk, .junk, .junk, .junk, .junk, .junk, .junk, .junk, .junk, .junk, .junk, .junk, .junk, .junk, .junk, .junk, .junk, .junk, .junk, .junk, .junk, .junk, .junk, .junk, .junk, .junk, .junk, .junk, .junk, .junk, .junk, .junk, .junk, .junk, .junk, .junk, .junk, .junk, .junk, .junk, .junk, .junk, .junk, .junk, .junk, .junk, .junk, .junk, .junk, .junk, .junk, .junk, .junk, .junk, .junk, .junk, .junk, .junk, .junk, .junk, .junk, .junk, .junk, .junk, .junk, .junk, .junk, .junk, .junk, .junk, .junk, .junk, .junk, .junk, .junk, .junk, .junk, .junk, .junk, .junk, .junk, .junk, .junk, .junk, .junk, .junk, .junk, .junk, .junk, .junk, .junk, .junk, .junk, .junk, .junk, .junk, .junk, .junk, .junk, .junk, .junk, .junk, .junk, .junk, .junk, .junk, .junk, .junk, .junk, .junk, .junk, .junk, .junk, .junk, .junk, .junk, .junk, .junk, .junk, .junk, .junk, .junk, .junk, .junk, .junk, .junk, .junk, .junk, .junk, .junk, .junk, .junk, .junk, .junk, .junk, .junk, .junk, .junk, .junk, if b 0 = true then .agg [.sl false (sms sm), .sl false (bxs bx)] else .junk, if b 1 = true then .agg [.int .i64 (↑i : Int), .int .i64 ((↑k : Int) + 1), .int .i64 (IntKind.i64.wrap (n + a))] else .junk, if b 2 = true then .agg [.int .i64 1, .int .i64 0, .int .i64 0, .bool false, .int .i64 0] else .junk], [.un, .un, .un, .un, .box [.sl false (sms sm), .sl false (bxs bx)], .un, .box [.int .i64 (↑i : Int), .int .i64 (↑k : Int), .int .i64 n], .un, if b 3 = true then .box [.sl false (sms sm), .sl false (bxs bx)] else .box [.nils, .nils], if b 4 = true then .box [.int .i64 (↑i : Int), .int .i64 ((↑k : Int) + 1), .int .i64 (IntKind.i64.wrap (n + a))] else .box [.int .i64 0, .int .i64 0, .int .i64 0], if b 5 = true then .box [.int .i64 1, .int .i64 0, .int .i64 0, .bool false, .int .i64 0] else .box [.int .i64 0, .int .i64 0, .int .i64 0, .bool false, .int .i64 0], .un, .box [.int .i64 1, .int .i64 a], .un, .box [.int .i64 (↑i : Int), .int .i64 ((↑k : Int) + 1), .int .i64 (IntKind.i64.wrap (n + a))], .un, .un, .un, .un, .un, .un, .un, .un, .un, .un, .un, .un, .un, .un, .un, .un, .un, .un, .un, .un, .un, .un, .un, .un, .un, .un, .un, .un, .un, .un, .un, .un, .un, .un, .un, .un, .un, .un, .un, .un, .un, .un, .un, .un, .un, .un, .un, .un, .un, .un, .un, .un, .un, .un, .un, .un, .un, .un, .un, .un, .un, .un, .un, .un, .un, .un, .un, .un, .un, .un, .un, .un, .un, .un, .un, .un, .un, .un, .un, .un, .un, .un, .un, .un, .un, .un, .un, .un, .un, .un, .un, .un, .un, .un, .un, .un, .un, .un, .un, .un, .un, .un, .un, .un, .un, .un, .un, .un, .un, .un, .un, .un, .un, .un, .un, .un, .un, .un, .un, .un, .un, .un, .un, .un, .un, .un, .un, .un, .un, .un, .un, .un, .un, .un, .un, .un, .un, .un, .un, .un, .un, .un, .un, .un, .un, .un, .un, .un, .un, .un, .un, .un, .un, .un, .un, .un, .un, .un, .un, .un, .un, .un, .un, .un, .un, .un, .un, .un, .un, .un, .un, .un, .un, .un, .un, .un, .un, .un, .un, .un, .un, .un, .un, .un, .un, .un, .un, .un, .un, .un, .un, .un, .un, .un, .un, .un, .un, .un, .un, .un, .un, .un, .un, .un, .un, .un, .un, .un, .un, .un, .un, .un, .un, .un, .un], 0⟩) rfl ?_ ?_
    ·skip
     (repeat refine Di ?_ (fun b hwW hbB hcC => ?_)); (exact trivial)
     ·exact Ds6 hbB (hwW.at 0 rfl) (hwW.at 1 rfl) (hwW.at 2 rfl) (hwW.at 3 rfl) (hwW.at 4 rfl) (hwW.at 5 rfl)
     ·exact Ds6 hbB (hwW.at 0 rfl) (hwW.at 1 rfl) (hwW.at 2 rfl) (hwW.at 3 rfl) (hwW.at 4 rfl) (hcC.l hbB 6 rfl)
     ·exact Ds5 hbB (hwW.at 0 rfl) (hwW.at 1 rfl) (hwW.at 3 rfl) (hcC.l hbB 5 rfl) (hcC.l hbB 6 rfl)
     ·exact Ds4 hbB (hwW.at 0 rfl) (hcC.l hbB 4 rfl) (hcC.l hbB 5 rfl) (hcC.l hbB 6 rfl)
     ·exact Ds2 hbB (hcC.l hbB 5 rfl) (hcC.l hbB 6 rfl)
     ·exact Ds3 hbB (hcC.l hbB 4 rfl) (hcC.l hbB 5 rfl) (hcC.l hbB 6 rfl)
     ·exact Ds4 hbB (hcC.l hbB 3 rfl) (hcC.l hbB 4 rfl) (hcC.l hbB 5 rfl) (hcC.l hbB 6 rfl)
    simp only [List.length_cons, List.length_nil, Nat.reduceAdd, Nat.reduceLT, decide_true, if_true]
    refine Dd0 ?_
    (refine ⟨by simp, ?_⟩; simp only [go_sem, Try.results13])
   ·simp at hc
theorem rdo2 (f : Bool) (sm : List (Int × List Int)) (bx : List Bx) (P : List (List (Int × Int))) (i k : Nat) (n g : Int) (a : Int) (hi : i < P.length) (hk0 : k < (pgN P i).length) (hb : (pgN P i).length ≤ 9223372036854775807) (hat0 : atN (pgN P i) k = (2, a)) (hmay : mayI sm.length bx.length P.length (pgN P i).length 2 a = true)  :
  Ret Try.prog 13 [.agg [.sl false (sms sm), .sl false (bxs bx)], .sl f (pgs P), .agg [.int .i64 i, .int .i64 k, .int .i64 n], .int .i64 g] (.tup [.agg [.sl false (sms sm), .sl false (bxs bx)], .agg [.int .i64 i, .int .i64 ((k : Int) + 1), .int .i64 n], .agg [.int .i64 2, .int .i64 0, .int .i64 0, .bool false, .int .i64 0], .int .i64 0]) := by
 have hA := rat_some f P i k n hi hk0
 rw [hat0] at hA
 have hMy := rmay_spec f sm bx P i k n 2 a hi
 rw [hmay] at hMy
 have hw := wrap_i64 (n := (k : Int) + 1) (by omega) (by omega)
 refine Ret_of_body Try.func13 (by kernel_rfl) rfl ?_; rw [Try.ntmps13]
 refine Dd0 ?_
 refine Dpu0 (hA) ?_
 refine Dd0 ?_
 refine TW_cond rfl (fun hc => ?_) (fun hc => ?_)
 ·simp at hc
 ·refine Dd0 ?_
  ((with_reducible first | refine O1 rfl (fun N hN => ?_) | refine O2 rfl rfl rfl (fun N hN => ?_)); simp only [go_sem]; refine vCall.sc _ _ (hMy) ?ha58 rfl (hN _ ?hk58); (case ha58 => (first | (simp only [go_sem]; done) | (simp only [go_sem] <;> (first | omega | ((try simp only [go_sem, List.length_append, lim, lim2]) <;> omega) | assumption | exact ints_1 _ | exact rfl | (simp [ints]; done))) | (simp [ints]; done))); clear hN N; apply Ops_eq; (simp only [go_sem]; rfl))
  refine Dd0 ?_
  refine TW_cond rfl (fun hc => ?_) (fun hc => ?_)
  ·simp at hc
  ·refine Dd1 @hw ?_
   refine TW_cond rfl (fun hc => ?_) (fun hc => ?_)
   ·simp at hc
   ·refine Dd0 ?_
    refine TW_cond rfl (fun hc => ?_) (fun hc => ?_)
    ·refine Dd0 ?_
     refine TW_sub (Sub_bl 73750947497752141991) ?_
     refine TW_open mixed (by kernel_rfl) (fun b => ⟨[.junk, .junk, .junk, .int .i64 g, .ptr 4 0, .junk, .ptr 6 0, .junk, .ptr 8 0, .ptr 9 0, .ptr 10 0, .int .i64 0, .ptr 12 0, .junk, .ptr 14 0, .junk, .junk, .junk, .junk, .junk, .junk, .junk, .junk, .junk, .junk, .junk, .junk, .junk, .junk, .junk, .junk, .junk, .junk, .junk, .junk, .junk, .junk, .junk, .junk, .junk, .junk, .junk, .junk, .junk, .junk, .junk, .junk, .junk, .junk, .junk, .junk, .junk, .junk, .junk, .junk, .int .i64 2, .junk, .junk, .junk, .junk, .junk, .junk, .junk, .junk, .junk, .junk, if b 0 = true then .agg [.sl false (sms sm), .sl false (bxs bx)] else .junk, if b 1 = true then .agg [.int .i64 (↑i : Int), .int .i64 ((↑k : Int) + 1), .int .i64 n] else .junk, if b 2 = true then .agg [.int .i64 2, .int .i64 0, .int .i64 0, .bool false, .int .i64 0] else .junk, .junk, .junk, .junk, .junk, .junk, .junk, .junk, .junk, .junk, .junk, .junk, .junk, .junk, .junk, .junk, .junk, .junk, .junk, .junk, .junk, .junk, .junk, .junk, .junk, .junk, .junk, .junk, .junk, .junk, .junk, .junk, .junk, .junk, .junk, .junk, .junk, .junk, .junk, .junk, .junk, .junk, .junk, .junk, .junk, .junk, .junk, .junk, .junk, .junk, .junk, .junk, .junk, .junk, .junk, .junk, .junk, .junk, .junk, .junk, .junk, .junk, .junk, .junk, .junk, .junk, .junk, .junk, .junk, .junk, .junk, .junk, .junk, .junk, .junk, .junk, .junk, .junk, .junk, .junk, .junk, .junk, .junk, .junk, .junk, .junk, .junk, .junk, .junk, .junk, .junk, .junk, .junk, .junk, .junk, .junk, .junk, .junk, .junk, .junk, .junk, .junk, .junk, .junk, .junk, .junk, .junk, .junk, .junk, .junk, .junk, .junk, .junk, .junk, .junk, .junk, .junk, .junk, .junk, .junk, .junk, .junk, .junk, .junk, .junk, .junk, .junk, .junk, .junk, .junk, .junk, .junk, .junk, .junk, .junk, .junk, .junk, .junk, .junk, .junk, .junk, .junk, .junk, .junk, .junk, .junk, .junk, .junk, .junk, .junk, .junk, .junk, .junk, .junk, .junk, .junk, .junk, .junk, .junk, .junk, .junk, .junk], [.un, .un, .un, .un, .box [.sl false (sms sm), .sl false (bxs bx)], .un, .box [.int .i64 (↑i : Int), .int .i64 (↑k : Int), .int .i64 n], .un, if b 3 = true then .box [.sl false (sms sm), .sl false (bxs bx)] else .box [.nils, .nils], if b 4 = true then .box [.int .i64 (↑i : Int), .int .i64 ((↑k : Int) + 1), .int .i64 n] else .box [.int .i64 0, .int .i64 0, .int .i64 0], if b 5 = true then .box [.int .i64 2, .int .i64 0, .int .i64 0, .bool false, .int .i64 0] else .box [.int .i64 0, .int .i64 0, .int .i64 0, .bool false, .int .i64 0], .un, .box [.int .i64 2, .int .i64 a], .un, .box [.int .i64 (↑i : Int), .int .i64 ((↑k : Int) + 1), .int .i64 n], .un, .un, .un, .un, .un, .un, .un, .un, .un, .un, .un, .un, .un, .un, .un, .un, .un, .un, .un, .un, .un, .un, .un, .un, .un, .un, .un, .un, .un, .un, .un, .un, .un, .un, .un, .un, .un, .un, .un, .un, .un, .un, .un, .un, .un, .un, .un, .un, .un, .un, .un, .un, .un, .un, .un, .un, .un, .un, .un, .un, .un, .un, .un, .un, .un, .un, .un, .un, .un, .un, .un, .un, .un, .un, .un, .un, .un, .un, .un, .un, .un, .un, .un, .un, .un, .un, .un, .un, .un, .un, .un, .un, .un, .un, .un, .un, .un, .un, .un, .un, .un, .un, .un, .un, .un, .un, .un, .un, .un, .un, .un, .un, .un, .un, .un, .un, .un, .un, .un, .un, .un, .un, .un, .un, .un, .un, .un, .un, .un, .un, .un, .un, .un, .un, .un, .un, .un, .un, .un, .un, .un, .un, .un, .un, .un, .un, .un, .un, .un, .un, .un, .un, .un, .un, .un, .un, .un, .un, .un, .un, .un, .un, .un, .un, .un, .un, .un, .un, .un, .un, .un, .un, .un, .un, .un, .un, .un, .un, .un, .un, .un, .un, .un, .un, .un, .un, .un, .un, .un, .un, .un, .un, .un, .un, .un, .un, .un, .un, .un, .un, .un, .un, .un, .un, .un, .un, .un, .un, .un, .un, .un, .un, .un, .un, .un], 0⟩) rfl ?_ ?_
     ·skip
      (repeat refine Di ?_ (fun b hwW hbB hcC => ?_)); (exact trivial)
      ·exact Ds6 hbB (hwW.at 0 rfl) (hwW.at 1 rfl) (hwW.at 2 rfl) (hwW.at 3 rfl) (hwW.at 4 rfl) (hwW.at 5 rfl)
      ·exact Ds6 hbB (hwW.at 0 rfl) (hwW.at 1 rfl) (hwW.at 2 rfl) (hwW.at 3 rfl) (hwW.at 4 rfl) (hcC.l hbB 6 rfl)
      ·exact Ds5 hbB (hwW.at 0 rfl) (hwW.at 1 rfl) (hwW.at 3 rfl) (hcC.l hbB 5 rfl) (hcC.l hbB 6 rfl)
      ·exact Ds4 hbB (hwW.at 0 rfl) (hcC.l hbB 4 rfl) (hcC.l hbB 5 rfl) (hcC.l hbB 6 rfl)
      ·exact Ds2 hbB (hcC.l hbB 5 rfl) (hcC.l hbB 6 rfl)
      ·exact Ds3 hbB (hcC.l hbB 4 rfl) (hcC.l hbB 5 rfl) (hcC.l hbB 6 rfl)
      ·exact Ds4 hbB (hcC.l hbB 3 rfl) (hcC.l hbB 4 rfl) (hcC.l hbB 5 rfl) (hcC.l hbB 6 rfl)
     simp only [List.length_cons, List.length_nil, Nat.reduceAdd, Nat.reduceLT, decide_true, if_true]
     refine Dd0 ?_
     (refine ⟨by simp, ?_⟩; simp only [go_sem, Try.results13])
    ·simp at hc
theorem rdo3 (f : Bool) (sm : List (Int × List Int)) (bx : List Bx) (P : List (List (Int × Int))) (i k : Nat) (n g : Int) (a : Int) (hi : i < P.length) (hk0 : k < (pgN P i).length) (hb : (pgN P i).length ≤ 9223372036854775807) (hat0 : atN (pgN P i) k = (3, a)) (hmay : mayI sm.length bx.length P.length (pgN P i).length 3 a = true)  :
  Ret Try.prog 13 [.agg [.sl false (sms sm), .sl false (bxs bx)], .sl f (pgs P), .agg [.int .i64 i, .int .i64 k, .int .i64 n], .int .i64 g] (.tup [.agg [.sl false (sms sm), .sl false (bxs bx)], .agg [.int .i64 i, .int .i64 ((k : Int) + 1), .int .i64 n], .agg [.int .i64 3, .int .i64 a, .int .i64 0, .bool false, .int .i64 0], .int .i64 0]) := by
 have hA := rat_some f P i k n hi hk0
 rw [hat0] at hA
 have hMy := rmay_spec f sm bx P i k n 3 a hi
 rw [hmay] at hMy
 have hw := wrap_i64 (n := (k : Int) + 1) (by omega) (by omega)
 refine Ret_of_body Try.func13 (by kernel_rfl) rfl ?_; rw [Try.ntmps13]
 refine Dd0 ?_
 refine Dpu0 (hA) ?_
 refine Dd0 ?_
 refine TW_cond rfl (fun hc => ?_) (fun hc => ?_)
 ·simp at hc
 ·refine Dd0 ?_
  ((with_reducible first | refine O1 rfl (fun N hN => ?_) | refine O2 rfl rfl rfl (fun N hN => ?_)); simp only [go_sem]; refine vCall.sc _ _ (hMy) ?ha59 rfl (hN _ ?hk59); (case ha59 => (first | (simp only [go_sem]; done) | (simp only [go_sem] <;> (first | omega | ((try simp only [go_sem, List.length_append, lim, lim2]) <;> omega) | assumption | exact ints_1 _ | exact rfl | (simp [ints]; done))) | (simp [ints]; done))); clear hN N; apply Ops_eq; (simp only [go_sem]; rfl))
  refine Dd0 ?_
  refine TW_cond rfl (fun hc => ?_) (fun hc => ?_)
  ·simp at hc
  ·refine Dd1 @hw ?_
   refine TW_cond rfl (fun hc => ?_) (fun hc => ?_)
   ·simp at hc
   ·refine Dd0 ?_
    refine TW_cond rfl (fun hc => ?_) (fun hc => ?_)
    ·simp at hc
    ·refine Dd0 ?_
     refine TW_cond rfl (fun hc => ?_) (fun hc => ?_)
     ·refine Dd0 ?_
      refine TW_sub (Sub_bl 2361147212637736542375) ?_
      refine TW_open mixed (by kernel_rfl) (fun b => ⟨[.junk, .junk, .junk, .int .i64 g, .ptr 4 0, .junk, .ptr 6 0, .junk, .ptr 8 0, .ptr 9 0, .ptr 10 0, .int .i64 0, .ptr 12 0, .junk, .ptr 14 0, .junk, .junk, .junk, .junk, .junk, .junk, .junk, .junk, .junk, .junk, .junk, .junk, .junk, .junk, .junk, .junk, .junk, .junk, .junk, .junk, .junk, .junk, .junk, .junk, .junk, .junk, .junk, .junk, .junk, .junk, .junk, .junk, .junk, .junk, .junk, .junk, .junk, .junk, .junk, .junk, .int .i64 3, .junk, .junk, .junk, .junk, .junk, .junk, .junk, .junk, .junk, .junk, .junk, .junk, .junk, .junk, .junk, if b 0 = true then .agg [.sl false (sms sm), .sl false (bxs bx)] else .junk, if b 1 = true then .agg [.int .i64 (↑i : Int), .int .i64 ((↑k : Int) + 1), .int .i64 n] else .junk, if b 2 = true then .ptr 12 1 else .junk, if b 3 = true then .int .i64 a else .junk, if b 4 = true then .agg [.int .i64 3, .int .i64 a, .int .i64 0, .bool false, .int .i64 0] else .junk, .junk, .junk, .junk, .junk, .junk, .junk, .junk, .junk, .junk, .junk, .junk, .junk, .junk, .junk, .junk, .junk, .junk, .junk, .junk, .junk, .junk, .junk, .junk, .junk, .junk, .junk, .junk, .junk, .junk, .junk, .junk, .junk, .junk, .junk, .junk, .junk, .junk, .junk, .junk, .junk, .junk, .junk, .junk, .junk, .junk, .junk, .junk, .junk, .junk, .junk, .junk, .junk, .junk, .junk, .junk, .junk, .junk, .junk, .junk, .junk, .junk, .junk, .junk, .junk, .junk, .junk, .junk, .junk, .junk, .junk, .junk, .junk, .junk, .junk, .junk, .junk, .junk, .junk, .junk, .junk, .junk, .junk, .junk, .junk, .junk, .junk, .junk, .junk, .junk, .junk, .junk, .junk, .junk, .junk, .junk, .junk, .junk, .junk, .junk, .junk, .junk, .junk, .junk, .junk, .junk, .junk, .junk, .junk, .junk, .junk, .junk, .junk, .junk, .junk, .junk, .junk, .junk, .junk, .junk, .junk, .junk, .junk, .junk, .junk, .junk, .junk, .junk, .junk, .junk, .junk, .junk, .junk, .junk, .junk, .junk, .junk, .junk, .junk, .junk, .junk, .junk, .junk, .junk, .junk, .junk, .junk, .junk, .junk, .junk, .junk, .junk, .junk, .junk, .junk], [.un, .un, .un, .un, .box [.sl false (sms sm), .sl false (bxs bx)], .un, .box [.int .i64 (↑i : Int), .int .i64 (↑k : Int), .int .i64 n], .un, if b 5 = true then .box [.sl false (sms sm), .sl false (bxs bx)] else .box [.nils, .nils], if b 6 = true then .box [.int .i64 (↑i : Int), .int .i64 ((↑k : Int) + 1), .int .i64 n] else .box [.int .i64 0, .int .i64 0, .int .i64 0], if b 7 = true then .box [.int .i64 3, .int .i64 a, .int .i64 0, .bool false, .int .i64 0] else .box [.int .i64 0, .int .i64 0, .int .i64 0, .bool false, .int .i64 0], .un, .box [.int .i64 3, .int .i64 a], .un, .box [.int .i64 (↑i : Int), .int .i64 ((↑k : Int) + 1), .int .i64 n], .un, .un, .un, .un, .un, .un, .un, .un, .un, .un, .un, .un, .un, .un, .un, .un, .un, .un, .un, .un, .un, .un, .un, .un, .un, .un, .un, .un, .un, .un, .un, .un, .un, .un, .un, .un, .un, .un, .un, .un, .un, .un, .un, .un, .un, .un, .un, .un, .un, .un, .un, .un, .un, .un, .un, .un, .un, .un, .un, .un, .un, .un, .un, .un, .un, .un, .un, .un, .un, .un, .un, .un, .un, .un, .un, .un, .un, .un, .un, .un, .un, .un, .un, .un, .un, .un, .un, .un, .un, .un, .un, .un, .un, .un, .un, .un, .un, .un, .un, .un, .un, .un, .un, .un, .un, .un, .un, .un, .un, .un, .un, .un, .un, .un, .un, .un, .un, .un, .un, .un, .un, .un, .un, .un, .un, .un, .un, .un, .un, .un, .un, .un, .un, .un, .un, .un, .un, .un, .un, .un, .un, .un, .un, .un, .un, .un, .un, .un, .un, .un, .un, .un, .un, .un, .un, .un, .un, .un, .un, .un, .un, .un, .un, .un, .un, .un, .un, .un, .un, .un, .un, .un, .un, .un, .un, .un, .un, .un, .un, .un, .un, .un, .un, .un, .un, .un, .un, .un, .un, .un, .un, .un, .un, .un, .un, .un, .un, .un, .un, .un, .un, .un, .un, .un, .un, .un, .un, .un, .un, .un, .un, .un, .un, .un, .un], 0⟩) rfl ?_ ?_
      ·skip
       (repeat refine Di ?_ (fun b hwW hbB hcC => ?_)); (exact trivial)
       ·exact Ds8 hbB (hwW.at 0 rfl) (hwW.at 1 rfl) (hwW.at 2 rfl) (hwW.at 3 rfl) (hwW.at 4 rfl) (hwW.at 5 rfl) (hwW.at 6 rfl) (hwW.at 7 rfl)
       ·exact Ds8 hbB (hwW.at 0 rfl) (hwW.at 1 rfl) (hwW.at 2 rfl) (hwW.at 3 rfl) (hwW.at 4 rfl) (hwW.at 5 rfl) (hwW.at 6 rfl) (hcC.l hbB 8 rfl)
       ·exact Ds5 hbB (hwW.at 0 rfl) (hwW.at 1 rfl) (hwW.at 5 rfl) (hcC.l hbB 7 rfl) (hcC.l hbB 8 rfl)
       ·exact Ds4 hbB (hwW.at 0 rfl) (hcC.l hbB 6 rfl) (hcC.l hbB 7 rfl) (hcC.l hbB 8 rfl)
       ·exact Ds3 hbB (hwW.at 3 rfl) (hcC.l hbB 7 rfl) (hcC.l hbB 8 rfl)
       ·exact Ds4 hbB (hwW.at 2 rfl) (hcC.l hbB 4 rfl) (hcC.l hbB 7 rfl) (hcC.l hbB 8 rfl)
       ·exact Ds3 hbB (hcC.l hbB 3 rfl) (hcC.l hbB 7 rfl) (hcC.l hbB 8 rfl)
       ·exact Ds3 hbB (hcC.l hbB 6 rfl) (hcC.l hbB 7 rfl) (hcC.l hbB 8 rfl)
       ·exact Ds4 hbB (hcC.l hbB 5 rfl) (hcC.l hbB 6 rfl) (hcC.l hbB 7 rfl) (hcC.l hbB 8 rfl)
      simp only [List.length_cons, List.length_nil, Nat.reduceAdd, Nat.reduceLT, decide_true, if_true]
      refine Dd0 ?_
      (refine ⟨by simp, ?_⟩; simp only [go_sem, Try.results13])
     ·simp at hc
theorem rdo8 (f : Bool) (sm : List (Int × List Int)) (bx : List Bx) (P : List (List (Int × Int))) (i k : Nat) (n g : Int) (a : Int) (hi : i < P.length) (hk0 : k < (pgN P i).length) (hb : (pgN P i).length ≤ 9223372036854775807) (hat0 : atN (pgN P i) k = (8, a)) (hmay : mayI sm.length bx.length P.length (pgN P i).length 8 a = true)  :
  Ret Try.prog 13 [.agg [.sl false (sms sm), .sl false (bxs bx)], .sl f (pgs P), .agg [.int .i64 i, .int .i64 k, .int .i64 n], .int .i64 g] (.tup [.agg [.sl false (sms sm), .sl false (bxs bx)], .agg [.int .i64 i, .int .i64 ((k : Int) + 1), .int .i64 n], .agg [.int .i64 5, .int .i64 a, .int .i64 0, .bool false, .int .i64 0], .int .i64 0]) := by
 have hA := rat_some f P i k n hi hk0
 rw [hat0] at hA
 have hMy := rmay_spec f sm bx P i k n 8 a hi
 rw [hmay] at hMy
 have hw := wrap_i64 (n := (k : Int) + 1) (by omega) (by omega)
 refine Ret_of_body Try.func13 (by kernel_rfl) rfl ?_; rw [Try.ntmps13]
 refine Dd0 ?_
 refine Dpu0 (hA) ?_
 refine Dd0 ?_
 refine TW_cond rfl (fun hc => ?_) (fun hc => ?_)
 ·simp at hc
 ·refine Dd0 ?_
  ((with_reducible first | refine O1 rfl (fun N hN => ?_) | refine O2 rfl rfl rfl (fun N hN => ?_)); simp only [go_sem]; refine vCall.sc _ _ (hMy) ?ha60 rfl (hN _ ?hk60); (case ha60 => (first | (simp only [go_sem]; done) | (simp only [go_sem] <;> (first | omega | ((try simp only [go_sem, List.length_append, lim, lim2]) <;> omega) | assumption | exact ints_1 _ | exact rfl | (simp [ints]; done))) | (simp [ints]; done))); clear hN N; apply Ops_eq; (simp only [go_sem]; rfl))
  refine Dd0 ?_
  refine TW_cond rfl (fun hc => ?_) (fun hc => ?_)
  ·simp at hc
  ·refine Dd1 @hw ?_
   refine TW_cond rfl (fun hc => ?_) (fun hc => ?_)
   ·simp at hc
   ·refine Dd0 ?_
    refine TW_cond rfl (fun hc => ?_) (fun hc => ?_)
    ·simp at hc
    ·refine Dd0 ?_
     refine TW_cond rfl (fun hc => ?_) (fun hc => ?_)
     ·simp at hc
     ·refine Dd0 ?_
      refine TW_cond rfl (fun hc => ?_) (fun hc => ?_)
      ·simp at hc
      ·refine Dd0 ?_
       refine TW_cond rfl (fun hc => ?_) (fun hc => ?_)
       ·simp at hc
       ·refine Dd0 ?_
        refine TW_cond rfl (fun hc => ?_) (fun hc => ?_)
        ·simp at hc
        ·refine Dd0 ?_
         refine TW_cond rfl (fun hc => ?_) (fun hc => ?_)
         ·simp at hc
         ·refine Dd0 ?_
          refine TW_cond rfl (fun hc => ?_) (fun hc => ?_)
          ·refine Dd0 ?_
           refine TW_sub (Sub_bl 51422017416287688817342786954917203280710495765020573710655663) ?_
           refine TW_open mixed (by kernel_rfl) (fun b => ⟨[.junk, .junk, .junk, .junk, .ptr 4 0, .junk, .ptr 6 0, .junk, .ptr 8 0, .ptr 9 0, .ptr 10 0, .int .i64 0, .ptr 12 0, .junk, .ptr 14 0, .junk, .junk, .junk, .junk, .junk, .junk, .junk, .junk, .junk, .junk, .junk, .junk, .junk, .junk, .junk, .junk, .junk, .junk, .junk, .junk, .junk, .junk, .junk, .junk, .junk, .junk, .junk, .junk, .junk, .junk, .junk, .junk, .junk, .junk, .junk, .junk, .junk, .junk, .junk, .junk, .int .i64 8, .junk, .junk, .junk, .junk, .junk, .junk, .junk, .junk, .junk, .junk, .junk, .junk, .junk, .junk, .junk, .junk, .junk, .junk, .junk, .junk, .junk, .junk, .junk, .junk, .junk, .junk, .junk, .junk, .junk, .junk, .junk, .junk, .junk, .junk, .junk, .junk, .junk, .junk, .junk, .junk, .junk, .junk, .junk, .junk, .junk, .junk, .junk, .junk, .junk, .junk, .junk, .junk, .junk, .junk, .junk, .junk, .junk, .junk, .junk, .junk, .junk, .junk, .junk, .junk, .junk, .junk, .junk, .junk, .junk, .junk, .junk, .junk, .junk, .junk, .junk, .junk, .junk, .junk, .junk, .junk, .junk, .junk, .junk, .junk, .junk, .junk, .junk, .junk, .junk, .junk, .junk, .junk, .junk, .junk, .junk, .junk, .junk, .junk, .junk, .junk, .junk, .junk, .junk, .junk, .junk, .junk, .junk, .junk, .junk, .junk, .junk, .junk, .junk, .junk, .junk, .junk, .junk, .junk, .junk, .junk, .junk, .junk, .junk, .junk, .junk, .junk, .junk, .junk, .junk, .junk, .junk, .junk, .junk, .junk, .junk, .junk, .junk, .junk, .junk, .junk, .junk, .junk, .junk, .junk, .junk, .junk, .junk, .junk, .junk, if b 0 = true then .agg [.sl false (sms sm), .sl false (bxs bx)] else .junk, if b 1 = true then .agg [.int .i64 (↑i : Int), .int .i64 ((↑k : Int) + 1), .int .i64 n] else .junk, if b 2 = true then .ptr 12 1 else .junk, if b 3 = true then .int .i64 a else .junk, if b 4 = true then .agg [.int .i64 5, .int .i64 a, .int .i64 0, .bool false, .int .i64 0] else .junk, .junk, .junk, .junk, .junk, .junk, .junk, .junk, .junk, .junk, .junk, .junk, .junk, .junk, .junk, .junk, .junk, .junk, .junk, .junk, .junk], [.un, .un, .un, .un, .box [.sl false (sms sm), .sl false (bxs bx)], .un, .box [.int .i64 (↑i : Int), .int .i64 (↑k : Int), .int .i64 n], .un, if b 5 = true then .box [.sl false (sms sm), .sl false (bxs bx)] else .box [.nils, .nils], if b 6 = true then .box [.int .i64 (↑i : Int), .int .i64 ((↑k : Int) + 1), .int .i64 n] else .box [.int .i64 0, .int .i64 0, .int .i64 0], if b 7 = true then .box [.int .i64 5, .int .i64 a, .int .i64 0, .bool false, .int .i64 0] else .box [.int .i64 0, .int .i64 0, .int .i64 0, .bool false, .int .i64 0], .un, .box [.int .i64 8, .int .i64 a], .un, .box [.int .i64 (↑i : Int), .int .i64 ((↑k : Int) + 1), .int .i64 n], .un, .un, .un, .un, .un, .un, .un, .un, .un, .un, .un, .un, .un, .un, .un, .un, .un, .un, .un, .un, .un, .un, .un, .un, .un, .un, .un, .un, .un, .un, .un, .un, .un, .un, .un, .un, .un, .un, .un, .un, .un, .un, .un, .un, .un, .un, .un, .un, .un, .un, .un, .un, .un, .un, .un, .un, .un, .un, .un, .un, .un, .un, .un, .un, .un, .un, .un, .un, .un, .un, .un, .un, .un, .un, .un, .un, .un, .un, .un, .un, .un, .un, .un, .un, .un, .un, .un, .un, .un, .un, .un, .un, .un, .un, .un, .un, .un, .un, .un, .un, .un, .un, .un, .un, .un, .un, .un, .un, .un, .un, .un, .un, .un, .un, .un, .un, .un, .un, .un, .un, .un, .un, .un, .un, .un, .un, .un, .un, .un, .un, .un, .un, .un, .un, .un, .un, .un, .un, .un, .un, .un, .un, .un, .un, .un, .un, .un, .un, .un, .un, .un, .un, .un, .un, .un, .un, .un, .un, .un, .un, .un, .un, .un, .un, .un, .un, .un, .un, .un, .un, .un, .un, .un, .un, .un, .un, .un, .un, .un, .un, .un, .un, .un, .un, .un, .un, .un, .un, .un, .un, .un, .un, .un, .un, .un, .un, .un, .un, .un, .un, .un, .un, .un, .un, .un, .un, .un, .un, .un, .un, .un, .un, .un, .un, .un], 0⟩) rfl ?_ ?_
           ·skip
            (repeat refine Di ?_ (fun b hwW hbB hcC => ?_)); (exact trivial)
            ·exact Ds8 hbB (hwW.at 0 rfl) (hwW.at 1 rfl) (hwW.at 2 rfl) (hwW.at 3 rfl) (hwW.at 4 rfl) (hwW.at 5 rfl) (hwW.at 6 rfl) (hwW.at 7 rfl)
            ·exact Ds8 hbB (hwW.at 0 rfl) (hwW.at 1 rfl) (hwW.at 2 rfl) (hwW.at 3 rfl) (hwW.at 4 rfl) (hwW.at 5 rfl) (hwW.at 6 rfl) (hcC.l hbB 8 rfl)
            ·exact Ds5 hbB (hwW.at 0 rfl) (hwW.at 1 rfl) (hwW.at 5 rfl) (hcC.l hbB 7 rfl) (hcC.l hbB 8 rfl)
            ·exact Ds4 hbB (hwW.at 0 rfl) (hcC.l hbB 6 rfl) (hcC.l hbB 7 rfl) (hcC.l hbB 8 rfl)
            ·exact Ds3 hbB (hwW.at 3 rfl) (hcC.l hbB 7 rfl) (hcC.l hbB 8 rfl)
            ·exact Ds4 hbB (hwW.at 2 rfl) (hcC.l hbB 4 rfl) (hcC.l hbB 7 rfl) (hcC.l hbB 8 rfl)
            ·exact Ds3 hbB (hcC.l hbB 3 rfl) (hcC.l hbB 7 rfl) (hcC.l hbB 8 rfl)
            ·exact Ds3 hbB (hcC.l hbB 6 rfl) (hcC.l hbB 7 rfl) (hcC.l hbB 8 rfl)
            ·exact Ds4 hbB (hcC.l hbB 5 rfl) (hcC.l hbB 6 rfl) (hcC.l hbB 7 rfl) (hcC.l hbB 8 rfl)
           simp only [List.length_cons, List.length_nil, Nat.reduceAdd, Nat.reduceLT, decide_true, if_true]
           refine Dd0 ?_
           (refine ⟨by simp, ?_⟩; simp only [go_sem, Try.results13])
          ·simp at hc
theorem rdo10 (f : Bool) (sm : List (Int × List Int)) (bx : List Bx) (P : List (List (Int × Int))) (i k : Nat) (n g : Int) (a : Int) (hi : i < P.length) (hk0 : k < (pgN P i).length) (hb : (pgN P i).length ≤ 9223372036854775807) (hat0 : atN (pgN P i) k = (10, a)) (hmay : mayI sm.length bx.length P.length (pgN P i).length 10 a = true)  :
  Ret Try.prog 13 [.agg [.sl false (sms sm), .sl false (bxs bx)], .sl f (pgs P), .agg [.int .i64 i, .int .i64 k, .int .i64 n], .int .i64 g] (.tup [.agg [.sl false (sms sm), .sl false (bxs bx)], .agg [.int .i64 i, .int .i64 (k : Int), .int .i64 n], .agg [.int .i64 6, .int .i64 0, .int .i64 0, .bool false, .int .i64 0], .int .i64 0]) := by
 have hA := rat_some f P i k n hi hk0
 rw [hat0] at hA
 have hMy := rmay_spec f sm bx P i k n 10 a hi
 rw [hmay] at hMy
 have hw := wrap_i64 (n := (k : Int) + 1) (by omega) (by omega)
 refine Ret_of_body Try.func13 (by kernel_rfl) rfl ?_; rw [Try.ntmps13]
 refine Dd0 ?_
 refine Dpu0 (hA) ?_
 refine Dd0 ?_
 refine TW_cond rfl (fun hc => ?_) (fun hc => ?_)
 ·simp at hc
 ·refine Dd0 ?_
  ((with_reducible first | refine O1 rfl (fun N hN => ?_) | refine O2 rfl rfl rfl (fun N hN => ?_)); simp only [go_sem]; refine vCall.sc _ _ (hMy) ?ha61 rfl (hN _ ?hk61); (case ha61 => (first | (simp only [go_sem]; done) | (simp only [go_sem] <;> (first | omega | ((try simp only [go_sem, List.length_append, lim, lim2]) <;> omega) | assumption | exact ints_1 _ | exact rfl | (simp [ints]; done))) | (simp [ints]; done))); clear hN N; apply Ops_eq; (simp only [go_sem]; rfl))
  refine Dd0 ?_
  refine TW_cond rfl (fun hc => ?_) (fun hc => ?_)
  ·simp at hc
  ·refine Dd1 @hw ?_
   refine TW_cond rfl (fun hc => ?_) (fun hc => ?_)
   ·simp at hc
   ·refine Dd0 ?_
    refine TW_cond rfl (fun hc => ?_) (fun hc => ?_)
    ·simp at hc
    ·refine Dd0 ?_
     refine TW_cond rfl (fun hc => ?_) (fun hc => ?_)
     ·simp at hc
     ·refine Dd0 ?_
      refine TW_cond rfl (fun hc => ?_) (fun hc => ?_)
      ·simp at hc
      ·refine Dd0 ?_
       refine TW_cond rfl (fun hc => ?_) (fun hc => ?_)
       ·simp at hc
       ·refine Dd0 ?_
        refine TW_cond rfl (fun hc => ?_) (fun hc => ?_)
        ·simp at hc
        ·refine Dd0 ?_
         refine TW_cond rfl (fun hc => ?_) (fun hc => ?_)
         ·simp at hc
         ·refine Dd0 ?_
          refine TW_cond rfl (fun hc => ?_) (fun hc => ?_)
          ·simp at hc
          ·refine Dd0 ?_
           refine TW_cond rfl (fun hc => ?_) (fun hc => ?_)
           ·simp at hc
           ·refine Dd0 ?_
            refine TW_cond rfl (fun hc => ?_) (fun hc => ?_)
            ·refine Dd0 ?_
             refine TW_sub (Sub_bl 26959946667150639794667015087019630673637144422540572481103610228911) ?_
             refine TW_open mixed (by kernel_rfl) (fun b => ⟨[.junk, .junk, .junk, .junk, .ptr 4 0, .junk, .ptr 6 0, .junk, .ptr 8 0, .ptr 9 0, .ptr 10 0, .int .i64 0, .junk, .junk, .ptr 14 0, .junk, .junk, .junk, .junk, .junk, .junk, .junk, .junk, .junk, .junk, .junk, .junk, .junk, .junk, .junk, .junk, .junk, .junk, .junk, .junk, .junk, .junk, .junk, .junk, .junk, .junk, .junk, .junk, .junk, .junk, .junk, .junk, .junk, .junk, .junk, .junk, .junk, .junk, .junk, .junk, .junk, .junk, .junk, .junk, .junk, .junk, .junk, .junk, .junk, .junk, .junk, .junk, .junk, .junk, .junk, .junk, .junk, .junk, .junk, .junk, .junk, .junk, .junk, .junk, .junk, .junk, .junk, .junk, .junk, .junk, .junk, .junk, .junk, .junk, .junk, .junk, .junk, .junk, .junk, .junk, .junk, .junk, .junk, .junk, .junk, .junk, .junk, .junk, .junk, .junk, .junk, .junk, .junk, .junk, .junk, .junk, .junk, .junk, .junk, .junk, .junk, .junk, .junk, .junk, .junk, .junk, .junk, .junk, .junk, .junk, .junk, .junk, .junk, .junk, .junk, .junk, .junk, .junk, .junk, .junk, .junk, .junk, .junk, .junk, .junk, .junk, .junk, .junk, .junk, .junk, .junk, .junk, .junk, .junk, .junk, .junk, .junk, .junk, .junk, .junk, .junk, .junk, .junk, .junk, .junk, .junk, .junk, .junk, .junk, .junk, .junk, .junk, .junk, .junk, .junk, .junk, .junk, .junk, .junk, .junk, .junk, .junk, .junk, .junk, .junk, .junk, .junk, .junk, .junk, .junk, .junk, .junk, .junk, .junk, .junk, .junk, .junk, .junk, .junk, .junk, .junk, .junk, .junk, .junk, .junk, .junk, .junk, .junk, .junk, .junk, .junk, .junk, .junk, .junk, .junk, .junk, .junk, .junk, .junk, .junk, .junk, .junk, .junk, .junk, .junk, .junk, .junk, .junk, .junk, if b 0 = true then .agg [.sl false (sms sm), .sl false (bxs bx)] else .junk, if b 1 = true then .agg [.int .i64 (↑i : Int), .int .i64 (↑k : Int), .int .i64 n] else .junk, if b 2 = true then .agg [.int .i64 6, .int .i64 0, .int .i64 0, .bool false, .int .i64 0] else .junk, .junk, .junk, .junk], [.un, .un, .un, .un, .box [.sl false (sms sm), .sl false (bxs bx)], .un, .box [.int .i64 (↑i : Int), .int .i64 (↑k : Int), .int .i64 n], .un, if b 3 = true then .box [.sl false (sms sm), .sl false (bxs bx)] else .box [.nils, .nils], if b 4 = true then .box [.int .i64 (↑i : Int), .int .i64 (↑k : Int), .int .i64 n] else .box [.int .i64 0, .int .i64 0, .int .i64 0], if b 5 = true then .box [.int .i64 6, .int .i64 0, .int .i64 0, .bool false, .int .i64 0] else .box [.int .i64 0, .int .i64 0, .int .i64 0, .bool false, .int .i64 0], .un, .box [.int .i64 10, .int .i64 a], .un, .box [.int .i64 (↑i : Int), .int .i64 ((↑k : Int) + 1), .int .i64 n], .un, .un, .un, .un, .un, .un, .un, .un, .un, .un, .un, .un, .un, .un, .un, .un, .un, .un, .un, .un, .un, .un, .un, .un, .un, .un, .un, .un, .un, .un, .un, .un, .un, .un, .un, .un, .un, .un, .un, .un, .un, .un, .un, .un, .un, .un, .un, .un, .un, .un, .un, .un, .un, .un, .un, .un, .un, .un, .un, .un, .un, .un, .un, .un, .un, .un, .un, .un, .un, .un, .un, .un, .un, .un, .un, .un, .un, .un, .un, .un, .un, .un, .un, .un, .un, .un, .un, .un, .un, .un, .un, .un, .un, .un, .un, .un, .un, .un, .un, .un, .un, .un, .un, .un, .un, .un, .un, .un, .un, .un, .un, .un, .un, .un, .un, .un, .un, .un, .un, .un, .un, .un, .un, .un, .un, .un, .un, .un, .un, .un, .un, .un, .un, .un, .un, .un, .un, .un, .un, .un, .un, .un, .un, .un, .un, .un, .un, .un, .un, .un, .un, .un, .un, .un, .un, .un, .un, .un, .un, .un, .un, .un, .un, .un, .un, .un, .un, .un, .un, .un, .un, .un, .un, .un, .un, .un, .un, .un, .un, .un, .un, .un, .un, .un, .un, .un, .un, .un, .un, .un, .un, .un, .un, .un, .un, .un, .un, .un, .un, .un, .un, .un, .un, .un, .un, .un, .un, .un, .un, .un, .un, .un, .un, .un, .un], 0⟩) rfl ?_ ?_
             ·skip
              (repeat refine Di ?_ (fun b hwW hbB hcC => ?_)); (exact trivial)
              ·exact Ds6 hbB (hwW.at 0 rfl) (hwW.at 1 rfl) (hwW.at 2 rfl) (hwW.at 3 rfl) (hwW.at 4 rfl) (hwW.at 5 rfl)
              ·exact Ds6 hbB (hwW.at 0 rfl) (hwW.at 1 rfl) (hwW.at 2 rfl) (hwW.at 3 rfl) (hwW.at 4 rfl) (hcC.l hbB 6 rfl)
              ·exact Ds5 hbB (hwW.at 0 rfl) (hwW.at 1 rfl) (hwW.at 3 rfl) (hcC.l hbB 5 rfl) (hcC.l hbB 6 rfl)
              ·exact Ds4 hbB (hwW.at 0 rfl) (hcC.l hbB 4 rfl) (hcC.l hbB 5 rfl) (hcC.l hbB 6 rfl)
              ·exact Ds2 hbB (hcC.l hbB 5 rfl) (hcC.l hbB 6 rfl)
              ·exact Ds3 hbB (hcC.l hbB 4 rfl) (hcC.l hbB 5 rfl) (hcC.l hbB 6 rfl)
              ·exact Ds4 hbB (hcC.l hbB 3 rfl) (hcC.l hbB 4 rfl) (hcC.l hbB 5 rfl) (hcC.l hbB 6 rfl)
             simp only [List.length_cons, List.length_nil, Nat.reduceAdd, Nat.reduceLT, decide_true, if_true]
             refine Dd0 ?_
             (refine ⟨by simp, ?_⟩; simp only [go_sem, Try.results13])
            ·simp at hc
theorem rdo9a (f : Bool) (sm : List (Int × List Int)) (bx : List Bx) (P : List (List (Int × Int))) (i k : Nat) (n g : Int) (a : Int) (hi : i < P.length) (hk0 : k < (pgN P i).length) (hb : (pgN P i).length ≤ 9223372036854775807) (hat0 : atN (pgN P i) k = (9, a)) (hmay : mayI sm.length bx.length P.length (pgN P i).length 9 a = true) (hn : n = 0) :
  Ret Try.prog 13 [.agg [.sl false (sms sm), .sl false (bxs bx)], .sl f (pgs P), .agg [.int .i64 i, .int .i64 k, .int .i64 n], .int .i64 g] (.tup [.agg [.sl false (sms sm), .sl false (bxs bx)], .agg [.int .i64 i, .int .i64 ((k : Int) + 1), .int .i64 n], .agg [.int .i64 1, .int .i64 0, .int .i64 0, .bool false, .int .i64 0], .int .i64 0]) := by
 have hA := rat_some f P i k n hi hk0
 rw [hat0] at hA
 have hMy := rmay_spec f sm bx P i k n 9 a hi
 rw [hmay] at hMy
 have hw := wrap_i64 (n := (k : Int) + 1) (by omega) (by omega)
 have hd : decide (n ≠ 0) = false := decide_eq_false (by simp [hn])
 refine Ret_of_body Try.func13 (by kernel_rfl) rfl ?_; rw [Try.ntmps13]
 refine Dd0 ?_
 refine Dpu0 (hA) ?_
 refine Dd0 ?_
 refine TW_cond rfl (fun hc => ?_) (fun hc => ?_)
 ·simp at hc
 ·refine Dd0 ?_
  ((with_reducible first | refine O1 rfl (fun N hN => ?_) | refine O2 rfl rfl rfl (fun N hN => ?_)); simp only [go_sem]; refine vCall.sc _ _ (hMy) ?ha62 rfl (hN _ ?hk62); (case ha62 => (first | (simp only [go_sem]; done) | (simp only [go_sem] <;> (first | omega | ((try simp only [go_sem, List.length_append, lim, lim2]) <;> omega) | assumption | exact ints_1 _ | exact rfl | (simp [ints]; done))) | (simp [ints]; done))); clear hN N; apply Ops_eq; (simp only [go_sem]; rfl))
  refine Dd0 ?_
  refine TW_cond rfl (fun hc => ?_) (fun hc => ?_)
  ·simp at hc
  ·refine Dd1 @hw ?_
   refine TW_cond rfl (fun hc => ?_) (fun hc => ?_)
   ·simp at hc
   ·refine Dd0 ?_
    refine TW_cond rfl (fun hc => ?_) (fun hc => ?_)
    ·simp at hc
    ·refine Dd0 ?_
     refine TW_cond rfl (fun hc => ?_) (fun hc => ?_)
     ·simp at hc
     ·refine Dd0 ?_
      refine TW_cond rfl (fun hc => ?_) (fun hc => ?_)
      ·simp at hc
      ·refine Dd0 ?_
       refine TW_cond rfl (fun hc => ?_) (fun hc => ?_)
       ·simp at hc
       ·refine Dd0 ?_
        refine TW_cond rfl (fun hc => ?_) (fun hc => ?_)
        ·simp at hc
        ·refine Dd0 ?_
         refine TW_cond rfl (fun hc => ?_) (fun hc => ?_)
         ·simp at hc
         ·refine Dd0 ?_
          refine TW_cond rfl (fun hc => ?_) (fun hc => ?_)
          ·simp at hc
          ·refine Dd0 ?_
           refine TW_cond rfl (fun hc => ?_) (fun hc => ?_)
           ·refine Dd1 @hd ?_
            refine TW_cond rfl (fun hc => ?_) (fun hc => ?_)
            ·simp at hc
             omega
            ·refine Dd0 ?_
             refine TW_sub (Sub_bl 215679573337205118357336120696157045389097155380324579848828881973487) ?_
             refine TW_open mixed (by kernel_rfl) (fun b => ⟨[.junk, .junk, .junk, .junk, .ptr 4 0, .junk, .junk, .junk, .ptr 8 0, .ptr 9 0, .ptr 10 0, .int .i64 0, .junk, .junk, .ptr 14 0, .junk, .junk, .junk, .junk, .junk, .junk, .junk, .junk, .junk, .junk, .junk, .junk, .junk, .junk, .junk, .junk, .junk, .junk, .junk, .junk, .junk, .junk, .junk, .junk, .junk, .junk, .junk, .junk, .junk, .junk, .junk, .junk, .junk, .junk, .junk, .junk, .junk, .junk, .junk, .junk, .junk, .junk, .junk, .junk, .junk, .junk, .junk, .junk, .junk, .junk, .junk, .junk, .junk, .junk, .junk, .junk, .junk, .junk, .junk, .junk, .junk, .junk, .junk, .junk, .junk, .junk, .junk, .junk, .junk, .junk, .junk, .junk, .junk, .junk, .junk, .junk, .junk, .junk, .junk, .junk, .junk, .junk, .junk, .junk, .junk, .junk, .junk, .junk, .junk, .junk, .junk, .junk, .junk, .junk, .junk, .junk, .junk, .junk, .junk, .junk, .junk, .junk, .junk, .junk, .junk, .junk, .junk, .junk, .junk, .junk, .junk, .junk, .junk, .junk, .junk, .junk, .junk, .junk, .junk, .junk, .junk, .junk, .junk, .junk, .junk, .junk, .junk, .junk, .junk, .junk, .junk, .junk, .junk, .junk, .junk, .junk, .junk, .junk, .junk, .junk, .junk, .junk, .junk, .junk, .junk, .junk, .junk, .junk, .junk, .junk, .junk, .junk, .junk, .junk, .junk, .junk, .junk, .junk, .junk, .junk, .junk, .junk, .junk, .junk, .junk, .junk, .junk, .junk, .junk, .junk, .junk, .junk, .junk, .junk, .junk, .junk, .junk, .junk, .junk, .junk, .junk, .junk, .junk, .junk, .junk, .junk, .junk, .junk, .junk, .junk, .junk, .junk, .junk, .junk, .junk, .junk, .junk, .junk, .junk, .junk, .junk, .junk, .junk, .junk, .junk, .junk, .junk, .junk, .junk, .junk, .junk, .junk, if b 0 = true then .agg [.sl false (sms sm), .sl false (bxs bx)] else .junk, if b 1 = true then .agg [.int .i64 (↑i : Int), .int .i64 ((↑k : Int) + 1), .int .i64 n] else .junk, if b 2 = true then .agg [.int .i64 1, .int .i64 0, .int .i64 0, .bool false, .int .i64 0] else .junk], [.un, .un, .un, .un, .box [.sl false (sms sm), .sl false (bxs bx)], .un, .box [.int .i64 (↑i : Int), .int .i64 (↑k : Int), .int .i64 n], .un, if b 3 = true then .box [.sl false (sms sm), .sl false (bxs bx)] else .box [.nils, .nils], if b 4 = true then .box [.int .i64 (↑i : Int), .int .i64 ((↑k : Int) + 1), .int .i64 n] else .box [.int .i64 0, .int .i64 0, .int .i64 0], if b 5 = true then .box [.int .i64 1, .int .i64 0, .int .i64 0, .bool false, .int .i64 0] else .box [.int .i64 0, .int .i64 0, .int .i64 0, .bool false, .int .i64 0], .un, .box [.int .i64 9, .int .i64 a], .un, .box [.int .i64 (↑i : Int), .int .i64 ((↑k : Int) + 1), .int .i64 n], .un, .un, .un, .un, .un, .un, .un, .un, .un, .un, .un, .un, .un, .un, .un, .un, .un, .un, .un, .un, .un, .un, .un, .un, .un, .un, .un, .un, .un, .un, .un, .un, .un, .un, .un, .un, .un, .un, .un, .un, .un, .un, .un, .un, .un, .un, .un, .un, .un, .un, .un, .un, .un, .un, .un, .un, .un, .un, .un, .un, .un, .un, .un, .un, .un, .un, .un, .un, .un, .un, .un, .un, .un, .un, .un, .un, .un, .un, .un, .un, .un, .un, .un, .un, .un, .un, .un, .un, .un, .un, .un, .un, .un, .un, .un, .un, .un, .un, .un, .un, .un, .un, .un, .un, .un, .un, .un, .un, .un, .un, .un, .un, .un, .un, .un, .un, .un, .un, .un, .un, .un, .un, .un, .un, .un, .un, .un, .un, .un, .un, .un, .un, .un, .un, .un, .un, .un, .un, .un, .un, .un, .un, .un, .un, .un, .un, .un, .un, .un, .un, .un, .un, .un, .un, .un, .un, .un, .un, .un, .un, .un, .un, .un, .un, .un, .un, .un, .un, .un, .un, .un, .un, .un, .un, .un, .un, .un, .un, .un, .un, .un, .un, .un, .un, .un, .un, .un, .un, .un, .un, .un, .un, .un, .un, .un, .un, .un, .un, .un, .un, .un, .un, .un, .un, .un, .un, .un, .un, .un, .un, .un, .un, .un, .un, .un], 0⟩) rfl ?_ ?_
             ·skip
              (repeat refine Di ?_ (fun b hwW hbB hcC => ?_)); (exact trivial)
              ·exact Ds6 hbB (hwW.at 0 rfl) (hwW.at 1 rfl) (hwW.at 2 rfl) (hwW.at 3 rfl) (hwW.at 4 rfl) (hwW.at 5 rfl)
              ·exact Ds6 hbB (hwW.at 0 rfl) (hwW.at 1 rfl) (hwW.at 2 rfl) (hwW.at 3 rfl) (hwW.at 4 rfl) (hcC.l hbB 6 rfl)
              ·exact Ds5 hbB (hwW.at 0 rfl) (hwW.at 1 rfl) (hwW.at 3 rfl) (hcC.l hbB 5 rfl) (hcC.l hbB 6 rfl)
              ·exact Ds4 hbB (hwW.at 0 rfl) (hcC.l hbB 4 rfl) (hcC.l hbB 5 rfl) (hcC.l hbB 6 rfl)
              ·exact Ds2 hbB (hcC.l hbB 5 rfl) (hcC.l hbB 6 rfl)
              ·exact Ds3 hbB (hcC.l hbB 4 rfl) (hcC.l hbB 5 rfl) (hcC.l hbB 6 rfl)
              ·exact Ds4 hbB (hcC.l hbB 3 rfl) (hcC.l hbB 4 rfl) (hcC.l hbB 5 rfl) (hcC.l hbB 6 rfl)
             simp only [List.length_cons, List.length_nil, Nat.reduceAdd, Nat.reduceLT, decide_true, if_true]
             refine Dd0 ?_
             (refine ⟨by simp, ?_⟩; simp only [go_sem, Try.results13])
           ·simp at hc
theorem rdo9b (f : Bool) (sm : List (Int × List Int)) (bx : List Bx) (P : List (List (Int × Int))) (i k : Nat) (n g : Int) (a : Int) (hi : i < P.length) (hk0 : k < (pgN P i).length) (hb : (pgN P i).length ≤ 9223372036854775807) (hat0 : atN (pgN P i) k = (9, a)) (hmay : mayI sm.length bx.length P.length (pgN P i).length 9 a = true) (hn : n ≠ 0) :
  Ret Try.prog 13 [.agg [.sl false (sms sm), .sl false (bxs bx)], .sl f (pgs P), .agg [.int .i64 i, .int .i64 k, .int .i64 n], .int .i64 g] (.tup [.agg [.sl false (sms sm), .sl false (bxs bx)], .agg [.int .i64 i, .int .i64 a, .int .i64 (IntKind.i64.wrap (n - 1))], .agg [.int .i64 1, .int .i64 0, .int .i64 0, .bool false, .int .i64 0], .int .i64 0]) := by
 have hA := rat_some f P i k n hi hk0
 rw [hat0] at hA
 have hMy := rmay_spec f sm bx P i k n 9 a hi
 rw [hmay] at hMy
 have hw := wrap_i64 (n := (k : Int) + 1) (by omega) (by omega)
 refine Ret_of_body Try.func13 (by kernel_rfl) rfl ?_; rw [Try.ntmps13]
 refine Dd0 ?_
 refine Dpu0 (hA) ?_
 refine Dd0 ?_
 refine TW_cond rfl (fun hc => ?_) (fun hc => ?_)
 ·simp at hc
 ·refine Dd0 ?_
  ((with_reducible first | refine O1 rfl (fun N hN => ?_) | refine O2 rfl rfl rfl (fun N hN => ?_)); simp only [go_sem]; refine vCall.sc _ _ (hMy) ?ha63 rfl (hN _ ?hk63); (case ha63 => (first | (simp only [go_sem]; done) | (simp only [go_sem] <;> (first | omega | ((try simp only [go_sem, List.length_append, lim, lim2]) <;> omega) | assumption | exact ints_1 _ | exact rfl | (simp [ints]; done))) | (simp [ints]; done))); clear hN N; apply Ops_eq; (simp only [go_sem]; rfl))
  refine Dd0 ?_
  refine TW_cond rfl (fun hc => ?_) (fun hc => ?_)
  ·simp at hc
  ·refine Dd1 @hw ?_
   refine TW_cond rfl (fun hc => ?_) (fun hc => ?_)
   ·simp at hc
   ·refine Dd0 ?_
    refine TW_cond rfl (fun hc => ?_) (fun hc => ?_)
    ·simp at hc
    ·refine Dd0 ?_
     refine TW_cond rfl (fun hc => ?_) (fun hc => ?_)
     ·simp at hc
     ·refine Dd0 ?_
      refine TW_cond rfl (fun hc => ?_) (fun hc => ?_)
      ·simp at hc
      ·refine Dd0 ?_
       refine TW_cond rfl (fun hc => ?_) (fun hc => ?_)
       ·simp at hc
       ·refine Dd0 ?_
        refine TW_cond rfl (fun hc => ?_) (fun hc => ?_)
        ·simp at hc
        ·refine Dd0 ?_
         refine TW_cond rfl (fun hc => ?_) (fun hc => ?_)
         ·simp at hc
         ·refine Dd0 ?_
          refine TW_cond rfl (fun hc => ?_) (fun hc => ?_)
          ·simp at hc
          ·refine Dd0 ?_
           refine TW_cond rfl (fun hc => ?_) (fun hc => ?_)
           ·refine Dd0 ?_
            refine TW_cond rfl (fun hc => ?_) (fun hc => ?_)
            ·refine Dd0 ?_
             refine TW_sub (Sub_bl 215679573337205118357336120696157045389097155380324579848828881973487) ?_
             refine TW_open mixed (by kernel_rfl) (fun b => ⟨[.junk, .junk, .junk, .junk, .ptr 4 0, .junk, .junk, .junk, .ptr 8 0, .ptr 9 0, .ptr 10 0, .int .i64 0, .junk, .junk, .ptr 14 0, .junk, .junk, .junk, .junk, .junk, .junk, .junk, .junk, .junk, .junk, .junk, .junk, .junk, .junk, .junk, .junk, .junk, .junk, .junk, .junk, .junk, .junk, .junk, .junk, .junk, .junk, .junk, .junk, .junk, .junk, .junk, .junk, .junk, .junk, .junk, .junk, .junk, .junk, .junk, .junk, .junk, .junk, .junk, .junk, .junk, .junk, .junk, .junk, .junk, .junk, .junk, .junk, .junk, .junk, .junk, .junk, .junk, .junk, .junk, .junk, .junk, .junk, .junk, .junk, .junk, .junk, .junk, .junk, .junk, .junk, .junk, .junk, .junk, .junk, .junk, .junk, .junk, .junk, .junk, .junk, .junk, .junk, .junk, .junk, .junk, .junk, .junk, .junk, .junk, .junk, .junk, .junk, .junk, .junk, .junk, .junk, .junk, .junk, .junk, .junk, .junk, .junk, .junk, .junk, .junk, .junk, .junk, .junk, .junk, .junk, .junk, .junk, .junk, .junk, .junk, .junk, .junk, .junk, .junk, .junk, .junk, .junk, .junk, .junk, .junk, .junk, .junk, .junk, .junk, .junk, .junk, .junk, .junk, .junk, .junk, .junk, .junk, .junk, .junk, .junk, .junk, .junk, .junk, .junk, .junk, .junk, .junk, .junk, .junk, .junk, .junk, .junk, .junk, .junk, .junk, .junk, .junk, .junk, .junk, .junk, .junk, .junk, .junk, .junk, .junk, .junk, .junk, .junk, .junk, .junk, .junk, .junk, .junk, .junk, .junk, .junk, .junk, .junk, .junk, .junk, .junk, .junk, .junk, .junk, .junk, .junk, .junk, .junk, .junk, .junk, .junk, .junk, .junk, .junk, .junk, .junk, .junk, .junk, .junk, .junk, .junk, .junk, .junk, .junk, .junk, .junk, .junk, .junk, .junk, .junk, .junk, .junk, if b 0 = true then .agg [.sl false (sms sm), .sl false (bxs bx)] else .junk, if b 1 = true then .agg [.int .i64 (↑i : Int), .int .i64 a, .int .i64 (IntKind.i64.wrap (n - 1))] else .junk, if b 2 = true then .agg [.int .i64 1, .int .i64 0, .int .i64 0, .bool false, .int .i64 0] else .junk], [.un, .un, .un, .un, .box [.sl false (sms sm), .sl false (bxs bx)], .un, .box [.int .i64 (↑i : Int), .int .i64 (↑k : Int), .int .i64 n], .un, if b 3 = true then .box [.sl false (sms sm), .sl false (bxs bx)] else .box [.nils, .nils], if b 4 = true then .box [.int .i64 (↑i : Int), .int .i64 a, .int .i64 (IntKind.i64.wrap (n - 1))] else .box [.int .i64 0, .int .i64 0, .int .i64 0], if b 5 = true then .box [.int .i64 1, .int .i64 0, .int .i64 0, .bool false, .int .i64 0] else .box [.int .i64 0, .int .i64 0, .int .i64 0, .bool false, .int .i64 0], .un, .box [.int .i64 9, .int .i64 a], .un, .box [.int .i64 (↑i : Int), .int .i64 a, .int .i64 (IntKind.i64.wrap (n - 1))], .un, .un, .un, .un, .un, .un, .un, .un, .un, .un, .un, .un, .un, .un, .un, .un, .un, .un, .un, .un, .un, .un, .un, .un, .un, .un, .un, .un, .un, .un, .un, .un, .un, .un, .un, .un, .un, .un, .un, .un, .un, .un, .un, .un, .un, .un, .un, .un, .un, .un, .un, .un, .un, .un, .un, .un, .un, .un, .un, .un, .un, .un, .un, .un, .un, .un, .un, .un, .un, .un, .un, .un, .un, .un, .un, .un, .un, .un, .un, .un, .un, .un, .un, .un, .un, .un, .un, .un, .un, .un, .un, .un, .un, .un, .un, .un, .un, .un, .un, .un, .un, .un, .un, .un, .un, .un, .un, .un, .un, .un, .un, .un, .un, .un, .un, .un, .un, .un, .un, .un, .un, .un, .un, .un, .un, .un, .un, .un, .un, .un, .un, .un, .un, .un, .un, .un, .un, .un, .un, .un, .un, .un, .un, .un, .un, .un, .un, .un, .un, .un, .un, .un, .un, .un, .un, .un, .un, .un, .un, .un, .un, .un, .un, .un, .un, .un, .un, .un, .un, .un, .un, .un, .un, .un, .un, .un, .un, .un, .un, .un, .un, .un, .un, .un, .un, .un, .un, .un, .un, .un, .un, .un, .un, .un, .un, .un, .un, .un, .un, .un, .un, .un, .un, .un, .un, .un, .un, .un, .un, .un, .un, .un, .un, .un, .un], 0⟩) rfl ?_ ?_
             ·skip
              (repeat refine Di ?_ (fun b hwW hbB hcC => ?_)); (exact trivial)
              ·exact Ds6 hbB (hwW.at 0 rfl) (hwW.at 1 rfl) (hwW.at 2 rfl) (hwW.at 3 rfl) (hwW.at 4 rfl) (hwW.at 5 rfl)
              ·exact Ds6 hbB (hwW.at 0 rfl) (hwW.at 1 rfl) (hwW.at 2 rfl) (hwW.at 3 rfl) (hwW.at 4 rfl) (hcC.l hbB 6 rfl)
              ·exact Ds5 hbB (hwW.at 0 rfl) (hwW.at 1 rfl) (hwW.at 3 rfl) (hcC.l hbB 5 rfl) (hcC.l hbB 6 rfl)
              ·exact Ds4 hbB (hwW.at 0 rfl) (hcC.l hbB 4 rfl) (hcC.l hbB 5 rfl) (hcC.l hbB 6 rfl)
              ·exact Ds2 hbB (hcC.l hbB 5 rfl) (hcC.l hbB 6 rfl)
              ·exact Ds3 hbB (hcC.l hbB 4 rfl) (hcC.l hbB 5 rfl) (hcC.l hbB 6 rfl)
              ·exact Ds4 hbB (hcC.l hbB 3 rfl) (hcC.l hbB 4 rfl) (hcC.l hbB 5 rfl) (hcC.l hbB 6 rfl)
             simp only [List.length_cons, List.length_nil, Nat.reduceAdd, Nat.reduceLT, decide_true, if_true]
             refine Dd0 ?_
             (refine ⟨by simp, ?_⟩; simp only [go_sem, Try.results13])
            ·simp at hc
             omega
           ·simp at hc

end Go.Proofs.YtodfkdnkgedgeaaT
