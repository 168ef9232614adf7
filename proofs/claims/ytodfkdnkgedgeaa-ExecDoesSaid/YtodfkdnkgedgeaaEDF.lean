/- Walks over the program's functions, on values without memory, and what they come to. No condition. -/
import Derived.Test.YtodfkdnkgedgeaaTw25
import Derived.Test.YtodfkdnkgedgeaaBase
import Derived.Test.YtodfkdnkgedgeaaTw19
import Derived.Test.YtodfkdnkgedgeaaQA
import Derived.Test.YtodfkdnkgedgeaaQB
import Derived.Test.YtodfkdnkgedgeaaEDE
set_option linter.unusedVariables false
set_option linter.unusedSimpArgs false
namespace Go.Proofs.YtodfkdnkgedgeaaT
open Go Go.Proofs Go.RowKit Go.Proofs.YtodfkdnkgedgeaaT.Ty
attribute [local go_sem] vOp vCut eqv put hset ev vNew enterSt AV.solid AV.cells AV.leaf AV.pure AV.pures AV.scalar AV.scalars ofVal ofLeaf vLoad takeA vStore vBin vBuiltin elems vSlice intAt fillA fillR splice dense fills frz frzL names namesL fix frzH frzHL le leL vRes oneRes
attribute [local go_sem] c1 s1 a1 b1 z1 o1 i1 c2 s2 a2 b2 z2 o2 i2 u2 c3 s3 a3 b3 z3 o3 i3 u3 c4 s4 a4 b4 z4 o4 i4 u4 c5 s5 a5 b5 z5 o5 i5 u5 c6 s6 a6 b6 z6 o6 i6 u6 c7 s7 a7 b7 z7 o7 f7_0 f7_1 f7_2 f7_3 q7 fo7 r7 i7 c8 s8 a8 b8 z8 o8 f8_0 f8_1 f8_2 f8_3 q8 fo8 r8 i8 c9 s9 a9 b9 z9 o9 i9 u9 c10 s10 a10 b10 z10 o10 i10 u10 c11 s11 a11 b11 z11 o11 i11 u11 c12 s12 a12 b12 z12 o12 i12 u12 c13 s13 a13 b13 z13 o13 f13_0 f13_1 fo13 r13 i13 c14 s14 a14 b14 z14 o14 f14_0 f14_1 fo14 r14 i14 c15 s15 a15 b15 z15 o15 p15 i15 c16 s16 a16 b16 z16 o16 p16 i16 c17 s17 a17 b17 z17 o17 p17 i17 c18 s18 a18 b18 z18 o18 f18_0 fo18 r18 i18 c19 s19 a19 b19 z19 o19 f19_0 fo19 r19 i19 c21 s21 a21 b21 z21 o21 i21 u21 c22 s22 a22 b22 z22 o22 e22 u22 i22 c23 s23 a23 b23 z23 o23 e23 u23 i23 c24 s24 a24 b24 z24 o24 f24_0 f24_1 fo24 r24 i24 c25 s25 a25 b25 z25 o25 f25_0 f25_1 fo25 r25 i25 c26 s26 a26 b26 z26 o26 e26 u26 i26 c27 s27 a27 b27 z27 o27 f27_0 f27_1 f27_2 q27 fo27 r27 i27 c28 s28 a28 b28 z28 o28 f28_0 f28_1 f28_2 q28 fo28 r28 i28 c29 s29 a29 b29 z29 o29 i29 c30 s30 a30 b30 z30 o30 i30 c31 s31 a31 b31 z31 o31 e31 u31 i31 c32 s32 a32 b32 z32 o32 e32 u32 i32 c33 s33 a33 b33 z33 o33 f33_0 f33_1 fo33 r33 i33 c34 s34 a34 b34 z34 o34 f34_0 f34_1 fo34 r34 i34 c35 s35 a35 b35 z35 o35 i35 c36 s36 a36 b36 z36 o36 f36_0 f36_1 f36_2 q36 fo36 r36 i36 c37 s37 a37 b37 z37 o37 f37_0 f37_1 f37_2 f37_3 f37_4 q37 fo37 r37 i37 c38 s38 a38 b38 z38 o38 f38_0 f38_1 f38_2 f38_3 f38_4 q38 fo38 r38 i38 c39 s39 a39 b39 z39 o39 i39 u39 c41 s41 a41 b41 z41 o41 i41 c42 s42 a42 b42 z42 o42 i42 c43 s43 a43 b43 z43 o43 f43_0 f43_1 f43_2 f43_3 f43_4 q43 fo43 r43 i43 c45 s45 a45 b45 z45 o45 i45 c46 s46 a46 b46 z46 o46 f46_0 f46_1 q46 fo46 r46 i46 c47 s47 a47 b47 z47 o47 f47_0 f47_1 q47 fo47 r47 i47 c49 s49 a49 b49 z49 o49 i49 c50 s50 a50 b50 z50 o50 i50 c51 s51 a51 b51 z51 o51 i51 c52 s52 a52 b52 z52 o52 i52 c53 s53 a53 b53 z53 o53 i53 c54 s54 a54 b54 z54 o54 i54 c55 s55 a55 b55 z55 o55 e55 u55 i55 c57 s57 a57 b57 z57 o57 i57 c59 s59 a59 b59 z59 o59 i59 c60 s60 a60 b60 z60 o60 i60 c61 s61 a61 b61 z61 o61 i61 c62 s62 a62 b62 z62 o62 i62 c63 s63 a63 b63 z63 o63 f63_0 f63_1 fo63 r63 i63 c64 s64 a64 b64 z64 o64 f64_0 f64_1 fo64 r64 i64 c65 s65 a65 b65 z65 o65 e65 u65 i65 c66 s66 a66 b66 z66 o66 e66 u66 i66 c67 s67 a67 b67 z67 o67 f67_0 f67_1 f67_2 f67_3 fo67 r67 i67 c68 s68 a68 b68 z68 o68 f68_0 f68_1 f68_2 f68_3 fo68 r68 i68 c69 s69 a69 b69 z69 o69 f69_0 f69_1 q69 fo69 r69 i69 c70 s70 a70 b70 z70 o70 f70_0 f70_1 q70 fo70 r70 i70 c71 s71 a71 b71 z71 o71 e71 u71 i71 c72 s72 a72 b72 z72 o72 i72 c73 s73 a73 b73 z73 o73 i73 c74 s74 a74 b74 z74 o74 f74_0 f74_1 fo74 r74 i74 c75 s75 a75 b75 z75 o75 e75 u75 i75 c76 s76 a76 b76 z76 o76 f76_0 f76_1 f76_2 f76_3 fo76 r76 i76 c77 s77 a77 b77 z77 o77 f77_0 f77_1 f77_2 f77_3 fo77 r77 i77 c78 s78 a78 b78 z78 o78 f78_0 f78_1 q78 fo78 r78 i78 c79 s79 a79 b79 z79 o79 i79 c81 s81 a81 b81 z81 o81 i81 c82 s82 a82 b82 z82 o82 i82 c83 s83 a83 b83 z83 o83 p83 i83 c84 s84 a84 b84 z84 o84 f84_0 f84_1 f84_2 f84_3 f84_4 fo84 r84 i84 c85 s85 a85 b85 z85 o85 f85_0 f85_1 f85_2 f85_3 f85_4 fo85 r85 i85 c86 s86 a86 b86 z86 o86 i86 c88 s88 a88 b88 z88 o88 i88 c89 s89 a89 b89 z89 o89 i89 c91 s91 a91 b91 z91 o91 i91 c93 s93 a93 b93 z93 o93 i93 c94 s94 a94 b94 z94 o94 i94 c96 s96 a96 b96 z96 o96 i96 c97 s97 a97 b97 z97 o97 i97 c98 s98 a98 b98 z98 o98 i98 c99 s99 a99 b99 z99 o99 i99 c100 s100 a100 b100 z100 o100 i100 c101 s101 a101 b101 z101 o101 i101 c102 s102 a102 b102 z102 o102 i102 c104 s104 a104 b104 z104 o104 i104 c105 s105 a105 b105 z105 o105 i105 c107 s107 a107 b107 z107 o107 i107 c108 s108 a108 b108 z108 o108 i108 c110 s110 a110 b110 z110 o110 i110 c112 s112 a112 b112 z112 o112 i112 c113 s113 a113 b113 z113 o113 i113 c115 s115 a115 b115 z115 o115 i115 c116 s116 a116 b116 z116 o116 i116 c118 s118 a118 b118 z118 o118 i118 c119 s119 a119 b119 z119 o119 i119 c120 s120 a120 b120 z120 o120 i120 c122 s122 a122 b122 z122 o122 i122 c124 s124 a124 b124 z124 o124 i124 c125 s125 a125 b125 z125 o125 i125 c126 s126 a126 b126 z126 o126 f126_0 f126_1 f126_2 f126_3 fo126 r126 i126 c127 s127 a127 b127 z127 o127 f127_0 f127_1 f127_2 f127_3 fo127 r127 i127 c131 s131 a131 b131 z131 o131 i131 c132 s132 a132 b132 z132 o132 i132 u132 c133 s133 a133 b133 z133 o133 i133 u133 c134 s134 a134 b134 z134 o134 i134 u134 c135 s135 a135 b135 z135 o135 i135 c136 s136 a136 b136 z136 o136 p136 i136 c137 s137 a137 b137 z137 o137 i137 u137 c138 s138 a138 b138 z138 o138 i138 u138 c139 s139 a139 b139 z139 o139 f139_0 f139_1 f139_2 f139_3 f139_4 f139_5 f139_6 f139_7 f139_8 f139_9 f139_10 fo139 r139 i139 c140 s140 a140 b140 z140 o140 f140_0 f140_1 f140_2 f140_3 f140_4 f140_5 f140_6 f140_7 f140_8 f140_9 f140_10 fo140 r140 i140
attribute [local go_sem] List.replicate List.length_cons List.length_nil Nat.reduceAdd Nat.reduceSub List.cons_append List.nil_append List.append_nil List.set_cons_succ List.set_cons_zero List.getD_cons_succ List.getD_cons_zero Nat.zero_add List.getElem?_cons_succ List.getElem?_cons_zero List.foldl_cons List.foldl_nil Option.map_some Option.map_none List.drop_succ_cons List.drop_zero List.take_succ_cons List.take_zero List.map_cons List.map_nil List.all_cons List.all_nil  Bool.and_true Bool.true_and imp_self Nat.add_zero beq_self_eq_true Option.isSome_some true_and and_true if_true if_false ints_len
set_option linter.unusedSimpArgs false
set_option maxRecDepth 100000
set_option maxHeartbeats 4000000
attribute [local go_sem] ints_nil ints_take ints_drop ints_cat ints_snoc ints_cons List.length_take List.length_drop List.drop_zero decide_true decide_false List.getElem?_toArray Option.bind_some Bool.false_eq_true Bool.true_eq_false Bool.not_true Bool.not_false Int.toNat_natCast Int.cast_ofNat_Int forget swap grow growIn opt_or opt_orn opt_and beq_true beq_false rdAll rdOp rdTmp agree Option.getD_some Option.getD_none List.flatten_cons List.flatten_nil ownCut mp mpL mpO vl vlL matchH freshH setAll nodupB enterH List.contains_cons List.contains_nil Nat.reduceMul Nat.reduceLT Nat.reduceLeDiff Nat.reduceEqDiff
attribute [local go_sem] mails_len mails_nil mails_drop mails_take mails_snoc sms_len bxs_len pgs_len sms_nil bxs_nil sms_set bxs_set sms_snoc bxs_snoc
def fineS (x : Int × List Int) : Bool := decide (x.2.length ≤ 64) && semM x.1 x.2
def fineB (x : Bx) : Bool := decide (x.s.length ≤ 64) && decide (x.w.length ≤ 64) && boxM x.r x.m x.s x.w
def fineM (sm : List (Int × List Int)) (bx : List Bx) : Bool := decide (sm.length ≤ 4) && decide (bx.length ≤ 4) && (sm.all fineS && bx.all fineB)
theorem fine_big (sm : List (Int × List Int)) (bx : List Bx) (h : ¬ (sm.length ≤ 4 ∧ bx.length ≤ 4)) : Ret Try.prog 9 [.agg [.sl false (sms sm), .sl false (bxs bx)]] (.bool false) := by
 by_cases h1 : sm.length ≤ 4
 ·have hd1 : decide ((sm.length : Int) > 4) = false := decide_eq_false (by omega)
  have hd2 : decide ((bx.length : Int) > 4) = true := decide_eq_true (by omega)
  refine Ret_of_body Try.func9 (by kernel_rfl) rfl ?_; rw [Try.ntmps9]
  refine Dd2 @hd1 @hd2 ?_
  refine TW_cond rfl (fun hc => ?_) (fun hc => ?_)
  ·refine Dd0 ?_
   (refine ⟨by simp, ?_⟩; simp only [go_sem, Try.results9])
  ·simp at hc
 ·have hd1 : decide ((sm.length : Int) > 4) = true := decide_eq_true (by omega)
  refine Ret_of_body Try.func9 (by kernel_rfl) rfl ?_; rw [Try.ntmps9]
  refine Dd1 @hd1 ?_
  refine TW_cond rfl (fun hc => ?_) (fun hc => ?_)
  ·refine Dd0 ?_
   (refine ⟨by simp, ?_⟩; simp only [go_sem, Try.results9])
  ·simp at hc
theorem smN_at {l : List (Int × List Int)} {i : Nat} (h : i < l.length) : smN l i = l[i] := by rw [smN, List.getD_eq_getElem?_getD, List.getElem?_eq_getElem h]; rfl
theorem bxN_at {l : List Bx} {i : Nat} (h : i < l.length) : bxN l i = l[i] := by rw [bxN, List.getD_eq_getElem?_getD, List.getElem?_eq_getElem h]; rfl
theorem all_no {α : Type} {p : α → Bool} {l : List α} {i : Nat} (h : i < l.length) (hp : p l[i] = false) : l.all p = false := List.all_eq_false.2 ⟨l[i], List.getElem_mem h, by simp [hp]⟩
theorem all_grow {α : Type} {p : α → Bool} {l : List α} {i : Nat} (h : i < l.length) (hx : (l.take i).all p = true) (hp : p l[i] = true) : (l.take (i + 1)).all p = true := by
 rw [List.take_succ_eq_append_getElem h, List.all_append, hx, Bool.true_and]; simp [hp]
theorem fine_small (sm : List (Int × List Int)) (bx : List Bx) (h1 : sm.length ≤ 4) (h2 : bx.length ≤ 4) (hm : ∀ x ∈ bx, x.m.length ≤ 9223372036854775807) : Ret Try.prog 9 [.agg [.sl false (sms sm), .sl false (bxs bx)]] (.bool (sm.all fineS && bx.all fineB)) := by
 have hd1 : decide ((sm.length : Int) > 4) = false := decide_eq_false (by omega)
 have hd2 : decide ((bx.length : Int) > 4) = false := decide_eq_false (by omega)
 have hr2 := sms_2 sm
 have hr4 := bxs_4 bx
 refine Ret_of_body Try.func9 (by kernel_rfl) rfl ?_; rw [Try.ntmps9]
 refine Dd2 @hd1 @hd2 ?_
 refine TW_cond rfl (fun hc => ?_) (fun hc => ?_)
 ·simp at hc
 ·refine Dd0 ?_
  refine TW_sub (Sub_bl 549755813861) ?_
  refine TW_loop (fun fuel st => ∃ (i : Nat), (i ≤ sm.length) ∧ ((sm.take i).all fineS = true) ∧  fuel = sm.length - i ∧ st = ⟨[.junk, .ptr 1 0, .junk, .int .i64 i, .junk, .junk, .junk, .junk, .junk, .junk, .junk, .junk, .junk, .junk, .junk, .junk, .junk, .junk, .junk, .junk, .junk, .junk, .junk, .junk, .junk, .junk, .junk, .junk, .junk, .junk, .junk, .junk, .junk, .junk, .junk, .junk, .junk, .junk, .junk, .junk, .junk, .junk, .junk, .junk, .junk, .junk, .junk, .junk, .junk, .junk, .junk, .junk, .junk, .junk, .junk, .junk, .junk, .junk, .junk, .junk, .junk, .junk, .junk, .junk, .junk, .junk, .junk, .junk, .junk, .junk, .junk, .junk, .junk], [.un, .box [.sl false (sms sm), .sl false (bxs bx)], .un, .un, .un, .un, .un, .un, .un, .un, .un, .un, .un, .un, .un, .un, .un, .un, .un, .un, .un, .un, .un, .un, .un, .un, .un, .un, .un, .un, .un, .un, .un, .un, .un, .un, .un, .un, .un, .un, .un, .un, .un, .un, .un, .un, .un, .un, .un, .un, .un, .un, .un, .un, .un, .un, .un, .un, .un, .un, .un, .un, .un, .un, .un, .un, .un, .un, .un, .un, .un, .un, .un], 0⟩) (n := _) ⟨0, by first | omega | (simp; done) | (simp; omega) | assumption, by first | omega | (simp; done) | (simp; omega) | assumption, rfl, rfl⟩ ?_
  rintro fuel st ⟨i, hi, hx, rfl, rfl⟩
  refine Dd0 ?_
  refine TW_cond rfl (fun hc => ?_) (fun hc => ?_)
  ·have hlt : i < sm.length := by simpa using hc
   have hg := sms_get sm i hlt
   have hw := wrap_i64 (n := (i : Int) + 1) (by omega) (by omega)
   have hat0 := smN_at hlt
   by_cases hb : (smN sm i).2.length ≤ 64
   ·have hd : decide (((smN sm i).2.length : Int) > 64) = false := decide_eq_false (by omega)
    refine Dd2 @hg @hd ?_
    refine Dsc0 (smay_spec false (smN sm i).1 (smN sm i).2 (by omega)) ?_
    refine Dd0 ?_
    refine TW_cond rfl (fun hc => ?_) (fun hc => ?_)
    ·refine Dd0 ?_
     (refine ⟨by simp, ?_⟩; simp only [go_sem, Try.results9])
     have : fineS sm[i] = false := by rw [← hat0, fineS]; simp at hc; simp [hc]
     rw [all_no hlt this, Bool.false_and]
    ·refine Dd1 @hw ?_
     have hp : fineS sm[i] = true := by rw [← hat0, fineS]; simp at hc; simp [hc, hb]
     exact ⟨_, _, by omega, ⟨i + 1, by omega, all_grow hlt hx hp, rfl, rfl⟩, Sub_bl 549755813861⟩
   ·have hd : decide (((smN sm i).2.length : Int) > 64) = true := decide_eq_true (by omega)
    refine Dd2 @hg @hd ?_
    refine TW_cond rfl (fun hc => ?_) (fun hc => ?_)
    ·refine Dd0 ?_
     (refine ⟨by simp, ?_⟩; simp only [go_sem, Try.results9])
     have : fineS sm[i] = false := by rw [← hat0, fineS, decide_eq_false hb, Bool.false_and]
     rw [all_no hlt this, Bool.false_and]
    ·simp at hc
  ·have hS : sm.all fineS = true := by
    have : i = sm.length := by have : ¬ (i < sm.length) := by simpa using hc
                               omega
    rw [this, List.take_length] at hx; exact hx
   rw [hS, Bool.true_and]
   clear hx hi hc
   refine Dd0 ?_
   refine TW_sub (Sub_bl 9444732965739290427373) ?_
   refine TW_loop (fun fuel st => ∃ (i : Nat), (i ≤ bx.length) ∧ ((bx.take i).all fineB = true) ∧  fuel = bx.length - i ∧ st = ⟨[.junk, .ptr 1 0, .junk, .junk, .int .i64 i, .junk, .junk, .junk, .junk, .junk, .junk, .junk, .junk, .junk, .junk, .junk, .junk, .junk, .junk, .junk, .junk, .junk, .junk, .junk, .junk, .junk, .junk, .junk, .junk, .junk, .junk, .junk, .junk, .junk, .junk, .junk, .junk, .junk, .junk, .junk, .junk, .junk, .junk, .junk, .junk, .junk, .junk, .junk, .junk, .junk, .junk, .junk, .junk, .junk, .junk, .junk, .junk, .junk, .junk, .junk, .junk, .junk, .junk, .junk, .junk, .junk, .junk, .junk, .junk, .junk, .junk, .junk, .junk], [.un, .box [.sl false (sms sm), .sl false (bxs bx)], .un, .un, .un, .un, .un, .un, .un, .un, .un, .un, .un, .un, .un, .un, .un, .un, .un, .un, .un, .un, .un, .un, .un, .un, .un, .un, .un, .un, .un, .un, .un, .un, .un, .un, .un, .un, .un, .un, .un, .un, .un, .un, .un, .un, .un, .un, .un, .un, .un, .un, .un, .un, .un, .un, .un, .un, .un, .un, .un, .un, .un, .un, .un, .un, .un, .un, .un, .un, .un, .un, .un], 0⟩) (n := _) ⟨0, by first | omega | (simp; done) | (simp; omega) | assumption, by first | omega | (simp; done) | (simp; omega) | assumption, rfl, rfl⟩ ?_
   rintro fuel st ⟨i, hi, hx, rfl, rfl⟩
   refine Dd0 ?_
   refine TW_cond rfl (fun hc => ?_) (fun hc => ?_)
   ·have hlt : i < bx.length := by simpa using hc
    have hg := bxs_get bx i hlt
    have hw := wrap_i64 (n := (i : Int) + 1) (by omega) (by omega)
    have hat0 := bxN_at hlt
    have hm0 := hm _ (List.getElem_mem hlt)
    rw [← hat0] at hm0
    by_cases hs : (bxN bx i).s.length ≤ 64
    ·have hds : decide (((bxN bx i).s.length : Int) > 64) = false := decide_eq_false (by omega)
     by_cases hv : (bxN bx i).w.length ≤ 64
     ·have hdw : decide (((bxN bx i).w.length : Int) > 64) = false := decide_eq_false (by omega)
      refine Dd3 @hg @hds @hdw ?_
      ((with_reducible first | refine O1 rfl (fun N hN => ?_) | refine O2 rfl rfl rfl (fun N hN => ?_)); simp only [go_sem]; refine vCall.sc _ _ (bmay_spec (bxN bx i).r (bxN bx i).m (bxN bx i).s (bxN bx i).w hm0 (by omega) (by omega)) ?ha2 rfl (hN _ ?hk2); (case ha2 => (first | (simp only [go_sem]; done) | (simp only [go_sem] <;> (first | omega | ((try simp only [go_sem, List.length_append, lim, lim2]) <;> omega) | assumption | exact ints_1 _ | exact rfl | (simp [ints]; done))) | (simp [ints]; done))); clear hN N; apply Ops_eq; (simp only [go_sem]; rfl))
      refine Dd0 ?_
      refine TW_cond rfl (fun hc => ?_) (fun hc => ?_)
      ·refine Dd0 ?_
       (refine ⟨by simp, ?_⟩; simp only [go_sem, Try.results9])
       have : fineB bx[i] = false := by rw [← hat0, fineB]; simp at hc; simp [hc]
       rw [all_no hlt this]
      ·refine Dd1 @hw ?_
       have hp : fineB bx[i] = true := by rw [← hat0, fineB]; simp at hc; simp [hc, hs, hv]
       exact ⟨_, _, by omega, ⟨i + 1, by omega, all_grow hlt hx hp, rfl, rfl⟩, Sub_bl 9444732965739290427373⟩
     ·have hdw : decide (((bxN bx i).w.length : Int) > 64) = true := decide_eq_true (by omega)
      refine Dd3 @hg @hds @hdw ?_
      refine TW_cond rfl (fun hc => ?_) (fun hc => ?_)
      ·refine Dd0 ?_
       (refine ⟨by simp, ?_⟩; simp only [go_sem, Try.results9])
       have : fineB bx[i] = false := by rw [← hat0, fineB, decide_eq_false hv, Bool.and_false, Bool.false_and]
       rw [all_no hlt this]
      ·simp at hc
    ·have hds : decide (((bxN bx i).s.length : Int) > 64) = true := decide_eq_true (by omega)
     refine Dd2 @hg @hds ?_
     refine TW_cond rfl (fun hc => ?_) (fun hc => ?_)
     ·refine Dd0 ?_
      (refine ⟨by simp, ?_⟩; simp only [go_sem, Try.results9])
      have : fineB bx[i] = false := by rw [← hat0, fineB, decide_eq_false hs, Bool.false_and, Bool.false_and]
      rw [all_no hlt this]
     ·simp at hc
   ·have hB : bx.all fineB = true := by
     have : i = bx.length := by have : ¬ (i < bx.length) := by simpa using hc
                                omega
     rw [this, List.take_length] at hx; exact hx
    refine Dd0 ?_
    (refine ⟨by simp, ?_⟩; simp only [go_sem, Try.results9])
    exact hB.symm
theorem fine_spec (sm : List (Int × List Int)) (bx : List Bx) (hm : ∀ x ∈ bx, x.m.length ≤ 9223372036854775807) : Ret Try.prog 9 [.agg [.sl false (sms sm), .sl false (bxs bx)]] (.bool (fineM sm bx)) := by
 unfold fineM
 by_cases h : sm.length ≤ 4 ∧ bx.length ≤ 4
 ·rw [decide_eq_true h.1, decide_eq_true h.2, Bool.true_and, Bool.true_and]
  exact fine_small sm bx h.1 h.2 hm
 ·have : (decide (sm.length ≤ 4) && decide (bx.length ≤ 4)) = false := by
   rw [Bool.eq_false_iff]; intro e; simp only [Bool.and_eq_true, decide_eq_true_eq] at e; exact h e
  rw [this, Bool.false_and]
  exact fine_big sm bx h
def ixI {α : Type} (p : α → Bool) (l : List α) : Int := match l.findIdx? p with
 | some i => (i : Int)
 | none => -1
theorem ixI_at {α : Type} {p : α → Bool} {l : List α} {i : Nat} (h : i < l.length) (hx : ∀ j, (hj : j < i) → p (l[j]'(by omega)) = false) (hp : p l[i] = true) : ixI p l = i := by
 have : l.findIdx? p = some i := List.findIdx?_eq_some_iff_getElem.2 ⟨h, hp, fun j hj => by rw [hx j hj]; exact Bool.false_ne_true⟩
 unfold ixI; rw [this]
theorem ixI_none {α : Type} {p : α → Bool} {l : List α} (hx : ∀ j, (hj : j < l.length) → p l[j] = false) : ixI p l = -1 := by
 have : l.findIdx? p = none := List.findIdx?_eq_none_iff.2 fun x hxm => by
  obtain ⟨j, hj, rfl⟩ := List.getElem_of_mem hxm
  exact hx j hj
 unfold ixI; rw [this]
theorem ixI_any {α : Type} (p : α → Bool) (l : List α) : decide (ixI p l ≥ 0) = l.any p := by
 unfold ixI
 cases h : l.findIdx? p with
 | none =>
  have h1 := List.findIdx?_eq_none_iff.1 h
  symm
  show l.any p = false
  rw [List.any_eq_false]
  intro x hx; rw [h1 x hx]; exact Bool.false_ne_true
 | some i =>
  obtain ⟨h1, h2, _⟩ := List.findIdx?_eq_some_iff_getElem.1 h
  have : l.any p = true := List.any_eq_true.2 ⟨l[i], List.getElem_mem h1, h2⟩
  rw [this]
  exact decide_eq_true (by show (i : Int) ≥ 0; omega)
def ovp (m x : Int) : Bool := decide (x < 0) || decide (x > m)
theorem over_spec (m : Int) : Ret Try.prog 36 [.int .i64 m] (.fn 37 [.cptr [.int .i64 m]]) := by
 refine Ret_of_body Try.func36 (by kernel_rfl) rfl ?_; rw [Try.ntmps36]
 (with_reducible refine TW_reg ?_); (repeat (first | ((with_reducible first | refine O1 rfl (fun N hN => ?_) | refine O2 rfl rfl rfl (fun N hN => ?_)); simp only [go_sem]; (try refine Or.inl ?_); (repeat (refine And.intro (by first | omega | ((try simp only [go_sem, List.length_append, lim, lim2]) <;> omega) | assumption | exact ints_1 _ | exact rfl | (simp [ints]; done)) ?_)); (first | refine hN _ ?_ | (intro _ _; refine hN _ ?_)); clear hN N) | ((with_reducible first | refine O3 rfl rfl rfl rfl ?_ | refine O4 rfl rfl rfl ?_); simp only [go_sem]))); (with_reducible refine Ops_end ?_)
 refine TW_sub (Sub_ibox 1 rfl (by rfl)) ?_
 simp only [go_sem]
 refine Dd0 ?_
 (refine ⟨by simp, ?_⟩; simp only [go_sem, Try.results36])
theorem ov_spec (m x : Int) : Ret Try.prog 37 [.int .i64 x, .cptr [.int .i64 m]] (.bool (ovp m x)) := by
 unfold ovp
 by_cases h : x < 0
 ·have hd : decide (x < 0) = true := decide_eq_true h
  refine Ret_of_body Try.func37 (by kernel_rfl) rfl ?_; rw [Try.ntmps37]
  refine Dd1 @hd ?_
  (refine ⟨by simp, ?_⟩; simp only [go_sem, Try.results37])
  rw [Bool.true_or]
 ·have hd : decide (x < 0) = false := decide_eq_false h
  refine Ret_of_body Try.func37 (by kernel_rfl) rfl ?_; rw [Try.ntmps37]
  refine Dd1 @hd ?_
  (refine ⟨by simp, ?_⟩; simp only [go_sem, Try.results37])
  rw [hd, Bool.false_or]
theorem ixi_spec (f : Bool) (l : List Int) (g : Nat) (cs : List AV) (p : Int → Bool) (hl : l.length ≤ 1000000) (hg : ∀ x ∈ l, Ret Try.prog g [.int .i64 x, .cptr cs] (.bool (p x))) : Ret Try.prog 53 [.sl f (ints l), .fn g [.cptr cs]] (.int .i64 (ixI p l)) := by
 refine Ret_of_body Try.func53 (by kernel_rfl) rfl ?_; rw [Try.ntmps53]
 refine Dd0 ?_
 refine TW_sub (Sub_bl 523900) ?_
 refine TW_loop (fun fuel st => ∃ (i : Nat), (i ≤ l.length) ∧ (∀ j, (hj : j < i) → (hj2 : j < l.length) → p l[j] = false) ∧  fuel = l.length - i ∧ st = ⟨[.sl f (ints l), .fn g [.cptr cs], .junk, .junk, .junk, .junk, .junk, .int .i64 (↑l.length : Int), .int .i64 i, .junk, .junk, .junk, .junk, .junk, .junk, .junk, .junk, .junk, .junk], [.un, .un, .un, .un, .un, .un, .un, .un, .un, .un, .un, .un, .un, .un, .un, .un, .un, .un, .un], 0⟩) (n := _) ⟨0, by first | omega | (simp; done) | (simp; omega) | assumption, by first | omega | (simp; done) | (simp; omega) | assumption, rfl, rfl⟩ ?_
 rintro fuel st ⟨i, hi, hx, rfl, rfl⟩
 refine Dd0 ?_
 refine TW_cond rfl (fun hc => ?_) (fun hc => ?_)
 ·have hlt : i < l.length := by simpa using hc
  have hgg := ints_get l i hlt
  have hw := wrap_i64 (n := (i : Int) + 1) (by omega) (by omega)
  have hcall := hg l[i] (List.getElem_mem hlt)
  have hat := getD_at hlt
  refine Dd2 @hgg @hat ?_
  refine Dsc2 @hgg @hat (hcall) ?_
  refine Dd2 @hgg @hat ?_
  refine TW_cond rfl (fun hc => ?_) (fun hc => ?_)
  ·refine Dd0 ?_
   (refine ⟨by simp, ?_⟩; simp only [go_sem, Try.results53])
   rw [ixI_at hlt (fun j hj => hx j hj (by omega)) hc]
  ·have hx' : ∀ j, (hj : j < i + 1) → (hj2 : j < l.length) → p l[j] = false := fun j hj hj2 => by
    by_cases hh : j < i
    ·exact hx j hh hj2
    ·have : j = i := by omega
     subst this; exact hc
   refine Dd1 @hw ?_
   exact ⟨_, _, by omega, ⟨i + 1, by omega, hx', rfl, rfl⟩, Sub_bl 523900⟩
 ·refine Dd0 ?_
  (refine ⟨by simp, ?_⟩; simp only [go_sem, Try.results53])
  rw [ixI_none (fun j hj => hx j (by simp at hc; omega) hj)]
theorem cfi_spec (f : Bool) (l : List Int) (g : Nat) (cs : List AV) (p : Int → Bool) (hl : l.length ≤ 1000000) (hg : ∀ x ∈ l, Ret Try.prog g [.int .i64 x, .cptr cs] (.bool (p x))) : Ret Try.prog 38 [.sl f (ints l), .fn g [.cptr cs]] (.bool (l.any p)) := by
 refine Ret_of_body Try.func38 (by kernel_rfl) rfl ?_; rw [Try.ntmps38]
 refine Dd0 ?_
 refine Dsc0 (ixi_spec f l g cs p hl hg) ?_
 refine Dd0 ?_
 (refine ⟨by simp, ?_⟩; simp only [go_sem, Try.results38])
 exact ixI_any p l
def rawS (l : List Int) : List (List AV) := l.map fun n => [.int .i64 n, .nils]
def rawB (l : List Int) : List (List AV) := l.map fun n => [.int .i64 n, .nils, .nils, .nils]
def newS (l : List Int) : List (Int × List Int) := l.map fun n => (n, [])
def newX (l : List Int) : List Bx := l.map fun n => ⟨n, [], [], []⟩
theorem rawS_len (l : List Int) : (rawS l).length = l.length := by simp [rawS]
theorem rawB_len (l : List Int) : (rawB l).length = l.length := by simp [rawB]
theorem rawS_snoc (l : List Int) (n : Int) : rawS l ++ [[.int .i64 n, .nils]] = rawS (l ++ [n]) := by simp [rawS]
theorem rawB_snoc (l : List Int) (n : Int) : rawB l ++ [[.int .i64 n, .nils, .nils, .nils]] = rawB (l ++ [n]) := by simp [rawB]
theorem rawS_2 (l : List Int) : ∀ y ∈ rawS l, y.length = 2 := by
 intro y hy; simp only [rawS, List.mem_map] at hy; obtain ⟨m, _, rfl⟩ := hy; rfl
theorem rawB_4 (l : List Int) : ∀ y ∈ rawB l, y.length = 4 := by
 intro y hy; simp only [rawB, List.mem_map] at hy; obtain ⟨m, _, rfl⟩ := hy; rfl
theorem rawS_le : ∀ l : List Int, leLL (rawS l) (sms (newS l))
 | [] => trivial
 | n :: l => ⟨⟨⟨rfl, rfl⟩, rfl, trivial⟩, rawS_le l⟩
theorem rawB_le : ∀ l : List Int, leLL (rawB l) (bxs (newX l))
 | [] => trivial
 | n :: l => ⟨⟨⟨rfl, rfl⟩, rfl, rfl, rfl, trivial⟩, rawB_le l⟩
attribute [local go_sem] rawS_len rawB_len rawS_snoc rawB_snoc
def newBad (cs rm : List Int) : Bool := decide (4 < cs.length) || decide (4 < rm.length) || cs.any (ovp 1000000) || rm.any (ovp 8)
theorem new_bad1 (f f2 : Bool) (cs rm : List Int) (h1 : 4 < cs.length) : Ret Try.prog 19 [.sl f (ints cs), .sl f2 (ints rm)] (.tup [.agg [.sl false (sms []), .sl false (bxs [])], .int .i64 1]) := by
 have hd1 : decide ((cs.length : Int) > 4) = true := decide_eq_true (by omega)
 refine Ret_of_body Try.func19 (by kernel_rfl) rfl ?_; rw [Try.ntmps19]
 refine Dd1 @hd1 ?_
 refine TW_cond rfl (fun hc => ?_) (fun hc => ?_)
 ·refine Dd0 ?_
  (refine ⟨by simp, ?_⟩; simp only [go_sem, Try.results19])
 ·simp at hc
theorem new_bad2 (f f2 : Bool) (cs rm : List Int) (h1 : cs.length ≤ 4) (h2 : 4 < rm.length) : Ret Try.prog 19 [.sl f (ints cs), .sl f2 (ints rm)] (.tup [.agg [.sl false (sms []), .sl false (bxs [])], .int .i64 1]) := by
 have hd1 : decide ((cs.length : Int) > 4) = false := decide_eq_false (by omega)
 have hd2 : decide ((rm.length : Int) > 4) = true := decide_eq_true (by omega)
 refine Ret_of_body Try.func19 (by kernel_rfl) rfl ?_; rw [Try.ntmps19]
 refine Dd2 @hd1 @hd2 ?_
 refine TW_cond rfl (fun hc => ?_) (fun hc => ?_)
 ·refine Dd0 ?_
  (refine ⟨by simp, ?_⟩; simp only [go_sem, Try.results19])
 ·simp at hc
theorem new_bad3 (f f2 : Bool) (cs rm : List Int) (h1 : cs.length ≤ 4) (h2 : rm.length ≤ 4) (h3 : cs.any (ovp 1000000) = true) : Ret Try.prog 19 [.sl f (ints cs), .sl f2 (ints rm)] (.tup [.agg [.sl false (sms []), .sl false (bxs [])], .int .i64 1]) := by
 have hd1 : decide ((cs.length : Int) > 4) = false := decide_eq_false (by omega)
 have hd2 : decide ((rm.length : Int) > 4) = false := decide_eq_false (by omega)
 refine Ret_of_body Try.func19 (by kernel_rfl) rfl ?_; rw [Try.ntmps19]
 refine Dd2 @hd1 @hd2 ?_
 refine Dpu0 (over_spec 1000000) ?_
 ((with_reducible first | refine O1 rfl (fun N hN => ?_) | refine O2 rfl rfl rfl (fun N hN => ?_)); simp only [go_sem, h3]; refine vCall.sc _ _ (cfi_spec f cs 37 [.int .i64 1000000] (ovp 1000000) (by omega) (fun x _ => ov_spec 1000000 x)) ?ha26 rfl (hN _ ?hk26); (case ha26 => (first | (simp only [go_sem, h3]; done) | (simp only [go_sem, h3] <;> (first | omega | ((try simp only [go_sem, h3, List.length_append, lim, lim2]) <;> omega) | assumption | exact ints_1 _ | exact rfl | (simp [ints]; done))) | (simp [ints]; done))); clear hN N; apply Ops_eq; (simp only [go_sem, h3]; rfl))
 refine Dd0 ?_
 refine TW_cond rfl (fun hc => ?_) (fun hc => ?_)
 ·refine Dd0 ?_
  (refine ⟨by simp, ?_⟩; simp only [go_sem, Try.results19])
 ·simp at hc
theorem new_bad4 (f f2 : Bool) (cs rm : List Int) (h1 : cs.length ≤ 4) (h2 : rm.length ≤ 4) (h3 : cs.any (ovp 1000000) = false) (h4 : rm.any (ovp 8) = true) : Ret Try.prog 19 [.sl f (ints cs), .sl f2 (ints rm)] (.tup [.agg [.sl false (sms []), .sl false (bxs [])], .int .i64 1]) := by
 have hd1 : decide ((cs.length : Int) > 4) = false := decide_eq_false (by omega)
 have hd2 : decide ((rm.length : Int) > 4) = false := decide_eq_false (by omega)
 refine Ret_of_body Try.func19 (by kernel_rfl) rfl ?_; rw [Try.ntmps19]
 refine Dd2 @hd1 @hd2 ?_
 refine Dpu0 (over_spec 1000000) ?_
 ((with_reducible first | refine O1 rfl (fun N hN => ?_) | refine O2 rfl rfl rfl (fun N hN => ?_)); simp only [go_sem, h3]; refine vCall.sc _ _ (cfi_spec f cs 37 [.int .i64 1000000] (ovp 1000000) (by omega) (fun x _ => ov_spec 1000000 x)) ?ha27 rfl (hN _ ?hk27); (case ha27 => (first | (simp only [go_sem, h3]; done) | (simp only [go_sem, h3] <;> (first | omega | ((try simp only [go_sem, h3, List.length_append, lim, lim2]) <;> omega) | assumption | exact ints_1 _ | exact rfl | (simp [ints]; done))) | (simp [ints]; done))); clear hN N; apply Ops_eq; (simp only [go_sem, h3]; rfl))
 refine Dd0 ?_
 ((with_reducible first | refine O1 rfl (fun N hN => ?_) | refine O2 rfl rfl rfl (fun N hN => ?_)); simp only [go_sem]; refine vCall.pu _ _ (over_spec 8) ?ha28 (hN _ ?hk28); (case ha28 => (first | (simp only [go_sem]; done) | (simp only [go_sem] <;> (first | omega | ((try simp only [go_sem, List.length_append, lim, lim2]) <;> omega) | assumption | exact ints_1 _ | exact rfl | (simp [ints]; done))) | (simp [ints]; done))); clear hN N; apply Ops_eq; (simp only [go_sem]; rfl))
 ((with_reducible first | refine O1 rfl (fun N hN => ?_) | refine O2 rfl rfl rfl (fun N hN => ?_)); simp only [go_sem, h4]; refine vCall.sc _ _ (cfi_spec f2 rm 37 [.int .i64 8] (ovp 8) (by omega) (fun x _ => ov_spec 8 x)) ?ha29 rfl (hN _ ?hk29); (case ha29 => (first | (simp only [go_sem, h4]; done) | (simp only [go_sem, h4] <;> (first | omega | ((try simp only [go_sem, h4, List.length_append, lim, lim2]) <;> omega) | assumption | exact ints_1 _ | exact rfl | (simp [ints]; done))) | (simp [ints]; done))); clear hN N; apply Ops_eq; (simp only [go_sem, h4]; rfl))
 refine Dd0 ?_
 refine TW_cond rfl (fun hc => ?_) (fun hc => ?_)
 ·refine Dd0 ?_
  (refine ⟨by simp, ?_⟩; simp only [go_sem, Try.results19])
 ·simp at hc
theorem new_good (f f2 : Bool) (cs rm : List Int) (h1 : cs.length ≤ 4) (h2 : rm.length ≤ 4) (h3 : cs.any (ovp 1000000) = false) (h4 : rm.any (ovp 8) = false) : Ret Try.prog 19 [.sl f (ints cs), .sl f2 (ints rm)] (.tup [.agg [.sl false (sms (newS cs)), .sl false (bxs (newX rm))], .int .i64 0]) := by
 have hd1 : decide ((cs.length : Int) > 4) = false := decide_eq_false (by omega)
 have hd2 : decide ((rm.length : Int) > 4) = false := decide_eq_false (by omega)
 refine Ret_of_body Try.func19 (by kernel_rfl) rfl ?_; rw [Try.ntmps19]
 refine Dd2 @hd1 @hd2 ?_
 refine Dpu0 (over_spec 1000000) ?_
 ((with_reducible first | refine O1 rfl (fun N hN => ?_) | refine O2 rfl rfl rfl (fun N hN => ?_)); simp only [go_sem, h3]; refine vCall.sc _ _ (cfi_spec f cs 37 [.int .i64 1000000] (ovp 1000000) (by omega) (fun x _ => ov_spec 1000000 x)) ?ha30 rfl (hN _ ?hk30); (case ha30 => (first | (simp only [go_sem, h3]; done) | (simp only [go_sem, h3] <;> (first | omega | ((try simp only [go_sem, h3, List.length_append, lim, lim2]) <;> omega) | assumption | exact ints_1 _ | exact rfl | (simp [ints]; done))) | (simp [ints]; done))); clear hN N; apply Ops_eq; (simp only [go_sem, h3]; rfl))
 refine Dd0 ?_
 ((with_reducible first | refine O1 rfl (fun N hN => ?_) | refine O2 rfl rfl rfl (fun N hN => ?_)); simp only [go_sem]; refine vCall.pu _ _ (over_spec 8) ?ha31 (hN _ ?hk31); (case ha31 => (first | (simp only [go_sem]; done) | (simp only [go_sem] <;> (first | omega | ((try simp only [go_sem, List.length_append, lim, lim2]) <;> omega) | assumption | exact ints_1 _ | exact rfl | (simp [ints]; done))) | (simp [ints]; done))); clear hN N; apply Ops_eq; (simp only [go_sem]; rfl))
 ((with_reducible first | refine O1 rfl (fun N hN => ?_) | refine O2 rfl rfl rfl (fun N hN => ?_)); simp only [go_sem, h4]; refine vCall.sc _ _ (cfi_spec f2 rm 37 [.int .i64 8] (ovp 8) (by omega) (fun x _ => ov_spec 8 x)) ?ha32 rfl (hN _ ?hk32); (case ha32 => (first | (simp only [go_sem, h4]; done) | (simp only [go_sem, h4] <;> (first | omega | ((try simp only [go_sem, h4, List.length_append, lim, lim2]) <;> omega) | assumption | exact ints_1 _ | exact rfl | (simp [ints]; done))) | (simp [ints]; done))); clear hN N; apply Ops_eq; (simp only [go_sem, h4]; rfl))
 refine Dd0 ?_
 refine TW_cond rfl (fun hc => ?_) (fun hc => ?_)
 ·simp at hc
 ·refine Dd0 ?_
  refine TW_sub (Sub_growIn (b := 7) (f := 0) (id := 45) 74 2 rfl rfl rfl (Nat.zero_le _)) ?_
  simp only [go_sem]
  refine TW_sub (Sub_bl 140677358810957) ?_
  refine TW_loop (fun fuel st => ∃ (i : Nat) (u : List Int), (i ≤ cs.length) ∧ (u = cs.take i) ∧  fuel = cs.length - i ∧ st = ⟨[.junk, .sl f2 (ints rm), .junk, .junk, .ptr 4 0, .int .i64 0, .junk, .ptr 7 0, .junk, .junk, .junk, .junk, .junk, .junk, .junk, .junk, .junk, .junk, .junk, .junk, .junk, .junk, .junk, .junk, .junk, .junk, .junk, .junk, .junk, .junk, .junk, .junk, .junk, .sl f (ints cs), .int .i64 (↑cs.length : Int), .int .i64 i, .junk, .junk, .junk, .junk, .junk, .junk, .junk, .junk, .junk, .junk, .junk, .junk, .junk, .junk, .junk, .junk, .junk, .junk, .junk, .junk, .junk, .junk, .junk, .junk, .junk, .junk], [.un, .un, .un, .un, .box [.nils, .nils], .un, .un, .box [.bsl 45, .nils], .un, .un, .un, .un, .un, .un, .un, .un, .un, .un, .un, .un, .un, .un, .un, .un, .un, .un, .un, .un, .un, .un, .un, .un, .un, .un, .un, .un, .un, .un, .un, .un, .un, .un, .un, .un, .un, .arr 74 2 (rawS u), .un, .un, .un, .un, .un, .un, .un, .un, .un, .un, .un, .un, .un, .un, .un, .un], 0⟩) (n := _) ⟨0, [], by first | omega | (simp; done) | (simp; omega) | assumption, by first | omega | (simp; done) | (simp; omega) | assumption, rfl, rfl⟩ ?_
  rintro fuel st ⟨i, u, hi, hu, rfl, rfl⟩
  refine Dd0 ?_
  refine TW_cond rfl (fun hc => ?_) (fun hc => ?_)
  ·have hlt : i < cs.length := by simpa using hc
   have hgg := ints_get cs i hlt
   have hw := wrap_i64 (n := (i : Int) + 1) (by omega) (by omega)
   have hul : u.length ≤ 4 := by rw [hu, List.length_take]; omega
   have hat := getD_at hlt
   have hu2 := rawS_2 u
   refine Dd2 @hgg @hw ?_
   (refine ⟨(fun (i : Nat) (u : List Int) => cs.length - i) (i + 1) ( u ++ [cs.getD i 0]), _, ?hm, ?hI, (Sub.trans (Sub_swap 45 44 (by first | (simp; done) | (simp [swap]; done)) (by first | (simp; done) | (simp [swap]; done)) (Nat.le_of_ble_eq_true rfl) (Nat.le_of_ble_eq_true rfl)) (Sub.trans (Sub_forget [43, 44] rfl) (Sub_bl 140677358810957)))⟩; (case hm => (first | omega | (simp only; omega) | (simp only [List.length_cons]; omega))); (case hI => (simp only [go_sem, forget, swap, scrL, scr, scrH, scrO, renL, ren, renO, sw, blankN, Nat.reduceMod, Nat.reduceDiv, cond_true, cond_false, List.contains_cons, List.contains_nil, Nat.reduceBEq, Bool.or_false, Bool.false_or, Bool.or_true, Bool.true_or, Bool.false_eq_true, if_true, if_false] <;> exact ⟨i + 1, u ++ [cs.getD i 0], by omega, by rw [hu, hat, List.take_succ_eq_append_getElem hlt], rfl, rfl⟩)))
  ·have hus : u = cs := by
    have hi2 : i = cs.length := by have : ¬ (i < cs.length) := by simpa using hc
                                   omega
    rw [hu, hi2, List.take_length]
   rw [hus]
   clear hus hu hi hc
   refine TW_sub (Sub_leArr (id := 45) rfl (rawS_le cs)) ?_
   simp only [go_sem]
   refine Dd0 ?_
   refine TW_sub (Sub_growIn (b := 7) (f := 1) (id := 59) 77 4 rfl rfl rfl (Nat.zero_le _)) ?_
   simp only [go_sem]
   refine TW_sub (Sub_bl 2304857846795206479) ?_
   refine TW_loop (fun fuel st => ∃ (j : Nat) (v : List Int), (j ≤ rm.length) ∧ (v = rm.take j) ∧  fuel = rm.length - j ∧ st = ⟨[.junk, .junk, .junk, .junk, .ptr 4 0, .int .i64 0, .junk, .ptr 7 0, .junk, .junk, .junk, .junk, .junk, .junk, .junk, .junk, .junk, .junk, .junk, .junk, .junk, .junk, .junk, .junk, .junk, .junk, .junk, .junk, .junk, .junk, .junk, .junk, .junk, .junk, .junk, .junk, .junk, .junk, .junk, .junk, .junk, .junk, .junk, .junk, .junk, .junk, .junk, .sl f2 (ints rm), .int .i64 (↑rm.length : Int), .int .i64 j, .junk, .junk, .junk, .junk, .junk, .junk, .junk, .junk, .junk, .junk, .junk, .junk], [.un, .un, .un, .un, .box [.nils, .nils], .un, .un, .box [.bsl 45, .bsl 59], .un, .un, .un, .un, .un, .un, .un, .un, .un, .un, .un, .un, .un, .un, .un, .un, .un, .un, .un, .un, .un, .un, .un, .un, .un, .un, .un, .un, .un, .un, .un, .un, .un, .un, .un, .un, .un, .arr 74 2 (sms (newS cs)), .un, .un, .un, .un, .un, .un, .un, .un, .un, .un, .un, .un, .un, .arr 77 4 (rawB v), .un, .un], 0⟩) (n := _) ⟨0, [], by first | omega | (simp; done) | (simp; omega) | assumption, by first | omega | (simp; done) | (simp; omega) | assumption, rfl, rfl⟩ ?_
   rintro fuel st ⟨j, v, hj, hv, rfl, rfl⟩
   refine Dd0 ?_
   refine TW_cond rfl (fun hc => ?_) (fun hc => ?_)
   ·have hlt : j < rm.length := by simpa using hc
    have hgg := ints_get rm j hlt
    have hw := wrap_i64 (n := (j : Int) + 1) (by omega) (by omega)
    have hvl : v.length ≤ 4 := by rw [hv, List.length_take]; omega
    have hat := getD_at hlt
    have hv2 := rawB_4 v
    refine Dd2 @hgg @hw ?_
    (refine ⟨(fun (j : Nat) (v : List Int) => rm.length - j) (j + 1) ( v ++ [rm.getD j 0]), _, ?hm, ?hI, (Sub.trans (Sub_swap 59 58 (by first | (simp; done) | (simp [swap]; done)) (by first | (simp; done) | (simp [swap]; done)) (Nat.le_of_ble_eq_true rfl) (Nat.le_of_ble_eq_true rfl)) (Sub.trans (Sub_forget [57, 58] rfl) (Sub_bl 2304857846795206479)))⟩; (case hm => (first | omega | (simp only; omega) | (simp only [List.length_cons]; omega))); (case hI => (simp only [go_sem, forget, swap, scrL, scr, scrH, scrO, renL, ren, renO, sw, blankN, Nat.reduceMod, Nat.reduceDiv, cond_true, cond_false, List.contains_cons, List.contains_nil, Nat.reduceBEq, Bool.or_false, Bool.false_or, Bool.or_true, Bool.true_or, Bool.false_eq_true, if_true, if_false] <;> exact ⟨j + 1, v ++ [rm.getD j 0], by omega, by rw [hv, hat, List.take_succ_eq_append_getElem hlt], rfl, rfl⟩)))
   ·have hvs : v = rm := by
     have hi2 : j = rm.length := by have : ¬ (j < rm.length) := by simpa using hc
                                    omega
     rw [hv, hi2, List.take_length]
    rw [hvs]
    refine TW_sub (Sub_leArr (id := 59) rfl (rawB_le rm)) ?_
    simp only [go_sem]
    refine Dd0 ?_
    (refine ⟨by simp, ?_⟩; simp only [go_sem, Try.results19])
def newO (cs rm : List Int) : List AV := if newBad cs rm = true then [.agg [.sl false (sms []), .sl false (bxs [])], .int .i64 1] else [.agg [.sl false (sms (newS cs)), .sl false (bxs (newX rm))], .int .i64 0]
theorem newO_bad {cs rm : List Int} (h : newBad cs rm = true) : newO cs rm = [.agg [.sl false (sms []), .sl false (bxs [])], .int .i64 1] := if_pos h
theorem newO_good {cs rm : List Int} (h : newBad cs rm = false) : newO cs rm = [.agg [.sl false (sms (newS cs)), .sl false (bxs (newX rm))], .int .i64 0] := if_neg (by rw [h]; exact Bool.false_ne_true)
theorem bad_l {cs rm : List Int} (h : 4 < cs.length ∨ 4 < rm.length) : newBad cs rm = true := by
 rcases h with h | h <;> simp [newBad, h]
theorem bad_c {cs rm : List Int} (h : cs.any (ovp 1000000) = true) : newBad cs rm = true := by simp only [newBad, h, Bool.or_true, Bool.true_or]
theorem bad_r {cs rm : List Int} (h : rm.any (ovp 8) = true) : newBad cs rm = true := by simp only [newBad, h, Bool.or_true]
theorem new_spec (f f2 : Bool) (cs rm : List Int) : Ret Try.prog 19 [.sl f (ints cs), .sl f2 (ints rm)] (.tup (newO cs rm)) := by
 by_cases h1 : 4 < cs.length
 ·rw [newO_bad (bad_l (.inl h1))]; exact new_bad1 f f2 cs rm h1
 ·by_cases h2 : 4 < rm.length
  ·rw [newO_bad (bad_l (.inr h2))]; exact new_bad2 f f2 cs rm (by omega) h2
  ·cases h3 : cs.any (ovp 1000000) with
   | true => rw [newO_bad (bad_c h3)]; exact new_bad3 f f2 cs rm (by omega) (by omega) h3
   | false =>
    cases h4 : rm.any (ovp 8) with
    | true => rw [newO_bad (bad_r h4)]; exact new_bad4 f f2 cs rm (by omega) (by omega) h3 h4
    | false => rw [newO_good (by simp [newBad, h3, h4]; omega)]; exact new_good f f2 cs rm (by omega) (by omega) h3 h4
structure Dr where
 sm : List (Int × List Int)
 bx : List Bx
 p : Int
 pc : Int
 n : Int
 kind : Int
 a : Int
 woken : Int
 gives : Bool
 v : Int
 err : Int
def drM (r : Dr) : AV := .agg [.sl false (sms r.sm), .sl false (bxs r.bx)]
def drT (r : Dr) : AV := .agg [.int .i64 r.p, .int .i64 r.pc, .int .i64 r.n]
def drE (r : Dr) : AV := .agg [.int .i64 r.kind, .int .i64 r.a, .int .i64 r.woken, .bool r.gives, .int .i64 r.v]
def drA (r : Dr) : AV := .tup [drM r, drT r, drE r, .int .i64 r.err]
def doO (sm : List (Int × List Int)) (bx : List Bx) (p k n g op a : Int) : Dr :=
 if op = 1 then ⟨sm, bx, p, k + 1, IntKind.i64.wrap (n + a), 1, 0, 0, false, 0, 0⟩
 else if op = 2 then ⟨sm, bx, p, k + 1, n, 2, 0, 0, false, 0, 0⟩
 else if op = 3 then ⟨sm, bx, p, k + 1, n, 3, a, 0, false, 0, 0⟩
 else if op = 4 then ⟨sm.set a.toNat (acqC (smN sm a.toNat).1, acqW (smN sm a.toNat).1 (smN sm a.toNat).2 g), bx, p, k + 1, n, if (smN sm a.toNat).1 > 0 then 1 else 4, 0, 0, false, 0, 0⟩
 else if op = 5 then ⟨sm.set a.toNat (relC (smN sm a.toNat).1 (smN sm a.toNat).2, (smN sm a.toNat).2.drop 1), bx, p, k + 1, n, 1, 0, (smN sm a.toNat).2.headD 0, false, 0, 0⟩
 else if op = 6 then ⟨sm, bx.set a.toNat (bsend (bxN bx a.toNat) g n).1, p, k + 1, n, if (bsend (bxN bx a.toNat) g n).2.2 = true then 1 else 4, 0, (bsend (bxN bx a.toNat) g n).2.1, (bsend (bxN bx a.toNat) g n).2.2 && decide ((bsend (bxN bx a.toNat) g n).2.1 ≠ 0), if (bsend (bxN bx a.toNat) g n).2.2 = true ∧ (bsend (bxN bx a.toNat) g n).2.1 ≠ 0 then n else 0, 0⟩
 else if op = 7 then ⟨sm, bx.set a.toNat (brecv (bxN bx a.toNat) g).1, p, k + 1, if (brecv (bxN bx a.toNat) g).2.2.2 = true then (brecv (bxN bx a.toNat) g).2.1 else n, if (brecv (bxN bx a.toNat) g).2.2.2 = true then 1 else 4, 0, (brecv (bxN bx a.toNat) g).2.2.1, false, 0, 0⟩
 else if op = 8 then ⟨sm, bx, p, k + 1, n, 5, a, 0, false, 0, 0⟩
 else if op = 9 then (if n = 0 then ⟨sm, bx, p, k + 1, n, 1, 0, 0, false, 0, 0⟩ else ⟨sm, bx, p, a, IntKind.i64.wrap (n - 1), 1, 0, 0, false, 0, 0⟩)
 else ⟨sm, bx, p, k, n, 6, 0, 0, false, 0, 0⟩
def doF (sm : List (Int × List Int)) (bx : List Bx) (P : List (List (Int × Int))) (p k n g : Int) : Dr :=
 if 0 ≤ p ∧ p < P.length ∧ 0 ≤ k ∧ k < (pgN P p.toNat).length then
  (if mayI sm.length bx.length P.length (pgN P p.toNat).length (atN (pgN P p.toNat) k.toNat).1 (atN (pgN P p.toNat) k.toNat).2 = true then doO sm bx p k n g (atN (pgN P p.toNat) k.toNat).1 (atN (pgN P p.toNat) k.toNat).2
  else ⟨sm, bx, p, k, n, 0, 0, 0, false, 0, 1⟩)
 else ⟨sm, bx, p, k, n, 0, 0, 0, false, 0, 4⟩
structure Okm (N : Nat) (sm : List (Int × List Int)) (bx : List Bx) : Prop where
 a : sm.length ≤ 4
 b : bx.length ≤ 4
 s : ∀ x ∈ sm, x.2.length ≤ N
 c : ∀ x ∈ sm, 0 ≤ x.1 ∧ x.1 ≤ 1000000
 x : ∀ x ∈ bx, x.m.length ≤ N ∧ x.s.length ≤ N ∧ x.w.length ≤ N
theorem may_ops {s x p q : Nat} {op a : Int} (h : mayI s x p q op a = true) : (op = 1 ∨ op = 2 ∨ op = 3 ∨ op = 4 ∨ op = 5 ∨ op = 6 ∨ op = 7 ∨ op = 8 ∨ op = 9 ∨ op = 10) ∧ outB s x p q op a = false := by
 unfold mayI at h
 unfold outB bynd
 unfold inr at h
 split at h
 ·refine ⟨by omega, ?_⟩
  rw [if_neg (by omega), if_neg (by omega), if_neg (by omega), if_neg (by omega)]
 ·split at h
  ·refine ⟨by omega, ?_⟩
   rw [if_neg (by omega), if_neg (by omega), if_pos (by omega)]
   simp at h ⊢; omega
  ·split at h
   ·refine ⟨by omega, ?_⟩
    rw [if_pos (by omega)]
    simp at h ⊢; omega
   ·split at h
    ·refine ⟨by omega, ?_⟩
     rw [if_neg (by omega), if_pos (by omega)]
     simp at h ⊢; omega
    ·split at h
     ·refine ⟨by omega, ?_⟩
      rw [if_neg (by omega), if_neg (by omega), if_neg (by omega), if_pos (by omega)]
      simp at h ⊢; omega
     ·cases h
theorem may_not {s x p q : Nat} {op a : Int} (h : mayI s x p q op a = false) : ¬ (1 ≤ op ∧ op ≤ 10) ∨ ((1 ≤ op ∧ op ≤ 10) ∧ outB s x p q op a = true) := by
 by_cases h1 : 1 ≤ op ∧ op ≤ 10
 ·refine .inr ⟨h1, ?_⟩
  unfold mayI at h
  unfold outB bynd
  unfold inr at h
  split at h
  ·cases h
  ·split at h
   ·rw [if_neg (by omega), if_neg (by omega), if_pos (by omega)]
    simp at h ⊢; omega
   ·split at h
    ·rw [if_pos (by omega)]
     simp at h ⊢; omega
    ·split at h
     ·rw [if_neg (by omega), if_pos (by omega)]
      simp at h ⊢; omega
     ·split at h
      ·rw [if_neg (by omega), if_neg (by omega), if_neg (by omega), if_pos (by omega)]
       simp at h ⊢; omega
      ·omega
 ·exact .inl h1
theorem may_in {s x p q : Nat} {op a : Int} (h : mayI s x p q op a = true) : (op = 4 ∨ op = 5 → ∃ z : Nat, a = z ∧ z < s) ∧ (op = 6 ∨ op = 7 → ∃ z : Nat, a = z ∧ z < x) := by
 unfold mayI inr at h
 refine ⟨fun ho => ⟨a.toNat, ?_⟩, fun ho => ⟨a.toNat, ?_⟩⟩
 ·rw [if_neg (by omega), if_neg (by omega), if_pos (by omega)] at h
  simp at h; omega
 ·rw [if_neg (by omega), if_neg (by omega), if_neg (by omega), if_pos (by omega)] at h
  simp at h; omega
theorem bsend_no {x : Bx} {g n : Int} (h : (bsend x g n).2.2 = false) : (bsend x g n).2.1 = 0 := by
 unfold bsend at h ⊢
 split at h
 ·cases h
 ·rw [if_neg (by assumption)]
  split at h
  ·cases h
  ·rw [if_neg (by assumption)]
theorem brecv_no {x : Bx} {g : Int} (h : (brecv x g).2.2.2 = false) : (brecv x g).2.2.1 = 0 := by
 unfold brecv at h ⊢
 split at h
 ·cases h
 ·rw [if_neg (by assumption)]
  split at h
  ·cases h
  ·rw [if_neg (by assumption)]
theorem smN_mem {l : List (Int × List Int)} {i : Nat} (h : i < l.length) : smN l i ∈ l := by rw [smN_at h]; exact List.getElem_mem h
theorem bxN_mem {l : List Bx} {i : Nat} (h : i < l.length) : bxN l i ∈ l := by rw [bxN_at h]; exact List.getElem_mem h
theorem do_spec (f : Bool) (N : Nat) (hN : N ≤ 999999) (sm : List (Int × List Int)) (bx : List Bx) (P : List (List (Int × Int))) (p k n g : Int) (ho : Okm N sm bx) (hP : P.length ≤ 1000000) (hq : ∀ i, (pgN P i).length ≤ 9223372036854775807) (hn : -9223372036854775808 ≤ n ∧ n ≤ 9223372036854775807) :
  Ret Try.prog 11 [.agg [.sl false (sms sm), .sl false (bxs bx)], .sl f (pgs P), .agg [.int .i64 p, .int .i64 k, .int .i64 n], .int .i64 g] (drA (doF sm bx P p k n g)) := by
 obtain ⟨ha, hb, hs, hc, hx⟩ := ho
 unfold doF
 by_cases h : 0 ≤ p ∧ p < P.length ∧ 0 ≤ k ∧ k < (pgN P p.toNat).length
 ·rw [if_pos h]
  obtain ⟨i, rfl⟩ := Int.eq_ofNat_of_zero_le h.1
  obtain ⟨j, rfl⟩ := Int.eq_ofNat_of_zero_le h.2.2.1
  rw [Int.toNat_natCast, Int.toNat_natCast]
  have hi : i < P.length := by have := h.2.1; omega
  have hj : j < (pgN P i).length := by have := h.2.2.2; rw [Int.toNat_natCast] at this; omega
  have hqi := hq i
  clear h
  rcases hat : atN (pgN P i) j with ⟨op, a⟩
  dsimp only
  cases hm : mayI sm.length bx.length P.length (pgN P i).length op a with
  | false =>
   rw [if_neg Bool.false_ne_true]
   rcases may_not hm with h1 | ⟨h1, h2⟩
   ·exact do_arg0 f sm bx P i j n g op a hP hi hj hqi hat h1
   ·exact do_arg1 f sm bx P i j n g op a hP hi hj hqi hat h1 h2
  | true =>
   rw [if_pos rfl]
   obtain ⟨h10, hout⟩ := may_ops hm
   have hr : 1 ≤ op ∧ op ≤ 10 := by omega
   obtain ⟨hz1, hz2⟩ := may_in hm
   have go := fun J => do_ok f sm bx P i j n g op a J hP hi hj hqi hat hr hout
   rcases h10 with rfl | rfl | rfl | rfl | rfl | rfl | rfl | rfl | rfl | rfl
   ·exact go _ (add_spec _)
   ·exact go _ (yield_spec _)
   ·exact go _ (spawn_spec _)
   ·obtain ⟨z, rfl, hz⟩ := hz1 (.inl rfl)
    have m1 := hs _ (smN_mem hz); have m2 := hc _ (smN_mem hz)
    by_cases hp : (smN sm z).1 > 0
    ·have := go _ (acquire0_spec sm bx i (j + 1) n 1 0 0 false 0 g z hz (by omega) (by omega) m2.2 hp)
     simpa only [doO, drA, drM, drT, drE, Int.toNat_natCast, if_pos hp, reduceCtorEq, Int.reduceEq, if_true, if_false] using this
    ·have := go _ (acquire1_spec sm bx i (j + 1) n 1 0 0 false 0 g z hz (by omega) (by omega) m2.2 hp)
     simpa only [doO, drA, drM, drT, drE, Int.toNat_natCast, if_neg hp, reduceCtorEq, Int.reduceEq, if_true, if_false] using this
   ·obtain ⟨z, rfl, hz⟩ := hz1 (.inr rfl)
    have m1 := hs _ (smN_mem hz); have m2 := hc _ (smN_mem hz)
    have := go _ (release_spec sm bx i (j + 1) n 1 0 0 false 0 g z hz (by omega) (by omega) m2)
    simpa only [doO, drA, drM, drT, drE, Int.toNat_natCast, Int.reduceEq, if_true, if_false] using this
   ·obtain ⟨z, rfl, hz⟩ := hz2 (.inl rfl)
    obtain ⟨m1, m2, m3⟩ := hx _ (bxN_mem hz)
    cases hok : (bsend (bxN bx z) g n).2.2 with
    | false =>
     have := go _ (send0_spec sm bx i (j + 1) n 1 0 0 false 0 g z hz (by omega) (by omega) (by omega) (by omega) hok)
     simpa only [doO, drA, drM, drT, drE, Int.toNat_natCast, Int.reduceEq, if_true, if_false, hok, Bool.false_and, Bool.false_eq_true, false_and] using this
    | true =>
     by_cases hwk : (bsend (bxN bx z) g n).2.1 = 0
     ·have := go _ (send1m_spec sm bx i (j + 1) n 1 0 0 false 0 g z hz (by omega) (by omega) (by omega) (by omega) hok hwk)
      simpa only [doO, drA, drM, drT, drE, Int.toNat_natCast, Int.reduceEq, if_true, if_false, hok, hwk, Bool.true_and, ne_eq, not_true_eq_false, decide_false, and_false] using this
     ·have := go _ (send2m_spec sm bx i (j + 1) n 1 0 0 false 0 g z hz (by omega) (by omega) (by omega) (by omega) hok hwk)
      simpa only [doO, drA, drM, drT, drE, Int.toNat_natCast, Int.reduceEq, if_true, if_false, hok, hwk, Bool.true_and, ne_eq, not_false_eq_true, decide_true, and_self] using this
   ·obtain ⟨z, rfl, hz⟩ := hz2 (.inr rfl)
    obtain ⟨m1, m2, m3⟩ := hx _ (bxN_mem hz)
    cases hok : (brecv (bxN bx z) g).2.2.2 with
    | false =>
     have := go _ (recv0_spec sm bx i (j + 1) n 1 0 0 false 0 g z hz (by omega) (by omega) (by omega) (by omega) hok)
     simpa only [doO, drA, drM, drT, drE, Int.toNat_natCast, Int.reduceEq, if_true, if_false, hok, Bool.false_eq_true] using this
    | true =>
     have := go _ (recv1m_spec sm bx i (j + 1) n 1 0 0 false 0 g z hz (by omega) (by omega) (by omega) (by omega) hok)
     simpa only [doO, drA, drM, drT, drE, Int.toNat_natCast, Int.reduceEq, if_true, if_false, hok] using this
   ·exact go _ (sleep_spec _)
   ·by_cases hn0 : n = 0
    ·have := go _ (loop0_spec _ hn0)
     simpa only [doO, drA, drM, drT, drE, Int.reduceEq, if_true, if_false, if_pos hn0] using this
    ·have := go _ (loop1_spec _ hn0 hn)
     simpa only [doO, drA, drM, drT, drE, Int.reduceEq, if_true, if_false, if_neg hn0] using this
   ·have hw : IntKind.i64.wrap ((j : Int) + 1 - 1) = j := by rw [Int.add_sub_cancel]; exact wrap_i64 (by omega) (by omega)
    have := go _ (exit_spec _)
    simpa only [doO, drA, drM, drT, drE, Int.reduceEq, if_true, if_false, hw] using this
 ·rw [if_neg h]
  exact do_none f sm bx P p k n g hP hq h
theorem rdo_spec (f : Bool) (N : Nat) (hN : N ≤ 999999) (sm : List (Int × List Int)) (bx : List Bx) (P : List (List (Int × Int))) (p k n g : Int) (ho : Okm N sm bx) (hq : ∀ i, (pgN P i).length ≤ 9223372036854775807) :
  Ret Try.prog 13 [.agg [.sl false (sms sm), .sl false (bxs bx)], .sl f (pgs P), .agg [.int .i64 p, .int .i64 k, .int .i64 n], .int .i64 g] (drA (doF sm bx P p k n g)) := by
 obtain ⟨ha, hb, hs, hc, hx⟩ := ho
 unfold doF
 by_cases h : 0 ≤ p ∧ p < P.length ∧ 0 ≤ k ∧ k < (pgN P p.toNat).length
 ·rw [if_pos h]
  obtain ⟨i, rfl⟩ := Int.eq_ofNat_of_zero_le h.1
  obtain ⟨j, rfl⟩ := Int.eq_ofNat_of_zero_le h.2.2.1
  rw [Int.toNat_natCast, Int.toNat_natCast]
  have hi : i < P.length := by have := h.2.1; omega
  have hj : j < (pgN P i).length := by have := h.2.2.2; rw [Int.toNat_natCast] at this; omega
  have hqi := hq i
  clear h
  rcases hat : atN (pgN P i) j with ⟨op, a⟩
  dsimp only
  cases hm : mayI sm.length bx.length P.length (pgN P i).length op a with
  | false =>
   rw [if_neg Bool.false_ne_true]
   exact rdo_arg f sm bx P i j n g op a hi hj hat hm
  | true =>
   rw [if_pos rfl]
   obtain ⟨h10, hout⟩ := may_ops hm
   obtain ⟨hz1, hz2⟩ := may_in hm
   rcases h10 with rfl | rfl | rfl | rfl | rfl | rfl | rfl | rfl | rfl | rfl
   ·exact rdo1 f sm bx P i j n g a hi hj hqi hat hm
   ·exact rdo2 f sm bx P i j n g a hi hj hqi hat hm
   ·exact rdo3 f sm bx P i j n g a hi hj hqi hat hm
   ·obtain ⟨z, rfl, hz⟩ := hz1 (.inl rfl)
    have m1 := hs _ (smN_mem hz); have m2 := hc _ (smN_mem hz)
    by_cases hp : (smN sm z).1 > 0
    ·have := rdo4a f sm bx P i j n g z hi hj hqi hat hm hz (by omega) (by omega) m2 hp
     simpa only [doO, drA, drM, drT, drE, Int.toNat_natCast, if_pos hp, Int.reduceEq, if_true, if_false] using this
    ·have := rdo4b f sm bx P i j n g z hi hj hqi hat hm hz (by omega) (by omega) m2 hp
     simpa only [doO, drA, drM, drT, drE, Int.toNat_natCast, if_neg hp, Int.reduceEq, if_true, if_false] using this
   ·obtain ⟨z, rfl, hz⟩ := hz1 (.inr rfl)
    have m1 := hs _ (smN_mem hz); have m2 := hc _ (smN_mem hz)
    have := rdo5 f sm bx P i j n g z hi hj hqi hat hm hz (by omega) (by omega) m2
    simpa only [doO, drA, drM, drT, drE, Int.toNat_natCast, Int.reduceEq, if_true, if_false] using this
   ·obtain ⟨z, rfl, hz⟩ := hz2 (.inl rfl)
    obtain ⟨m1, m2, m3⟩ := hx _ (bxN_mem hz)
    cases hok : (bsend (bxN bx z) g n).2.2 with
    | false =>
     have := rdo6a f sm bx P i j n g z hi hj hqi hat hm hz (by omega) (by omega) (by omega) (by omega) hok (bsend_no hok)
     simpa only [doO, drA, drM, drT, drE, Int.toNat_natCast, Int.reduceEq, if_true, if_false, hok, bsend_no hok, Bool.false_and, Bool.false_eq_true, false_and] using this
    | true =>
     by_cases hwk : (bsend (bxN bx z) g n).2.1 = 0
     ·have := rdo6b f sm bx P i j n g z hi hj hqi hat hm hz (by omega) (by omega) (by omega) (by omega) hok hwk
      simpa only [doO, drA, drM, drT, drE, Int.toNat_natCast, Int.reduceEq, if_true, if_false, hok, hwk, Bool.true_and, ne_eq, not_true_eq_false, decide_false, and_false] using this
     ·have := rdo6c f sm bx P i j n g z hi hj hqi hat hm hz (by omega) (by omega) (by omega) (by omega) hok hwk
      simpa only [doO, drA, drM, drT, drE, Int.toNat_natCast, Int.reduceEq, if_true, if_false, hok, hwk, Bool.true_and, ne_eq, not_false_eq_true, decide_true, and_self] using this
   ·obtain ⟨z, rfl, hz⟩ := hz2 (.inr rfl)
    obtain ⟨m1, m2, m3⟩ := hx _ (bxN_mem hz)
    cases hok : (brecv (bxN bx z) g).2.2.2 with
    | false =>
     have := rdo7a f sm bx P i j n g z hi hj hqi hat hm hz (by omega) (by omega) (by omega) (by omega) hok
     simpa only [doO, drA, drM, drT, drE, Int.toNat_natCast, Int.reduceEq, if_true, if_false, hok, brecv_no hok, Bool.false_eq_true] using this
    | true =>
     have := rdo7b f sm bx P i j n g z hi hj hqi hat hm hz (by omega) (by omega) (by omega) (by omega) hok
     simpa only [doO, drA, drM, drT, drE, Int.toNat_natCast, Int.reduceEq, if_true, if_false, hok] using this
   ·exact rdo8 f sm bx P i j n g a hi hj hqi hat hm
   ·by_cases hn0 : n = 0
    ·have := rdo9a f sm bx P i j n g a hi hj hqi hat hm hn0
     simpa only [doO, drA, drM, drT, drE, Int.reduceEq, if_true, if_false, if_pos hn0] using this
    ·have := rdo9b f sm bx P i j n g a hi hj hqi hat hm hn0
     simpa only [doO, drA, drM, drT, drE, Int.reduceEq, if_true, if_false, if_neg hn0] using this
   ·exact rdo10 f sm bx P i j n g a hi hj hqi hat hm
 ·rw [if_neg h]
  exact rdo_none f sm bx P p k n g h

end Go.Proofs.YtodfkdnkgedgeaaT
