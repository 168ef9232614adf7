/- Walks over the program's functions, on values without memory, and what they come to. No condition. -/
import Derived.Test.YtodfkdnkgedgeaaTw25
import Derived.Test.YtodfkdnkgedgeaaBase
import Derived.Test.YtodfkdnkgedgeaaTw19
import Derived.Test.YtodfkdnkgedgeaaQA
import Derived.Test.YtodfkdnkgedgeaaQB
set_option linter.unusedVariables false
set_option linter.unusedSimpArgs false
namespace Go.Proofs.YtodfkdnkgedgeaaT
open Go Go.Proofs Go.RowKit Go.Proofs.YtodfkdnkgedgeaaT.Ty
attribute [local go_sem] vOp vCut eqv put hset ev vNew enterSt AV.solid AV.cells AV.leaf AV.pure AV.pures AV.scalar AV.scalars ofVal ofLeaf vLoad takeA vStore vBin vBuiltin elems vSlice intAt fillA fillR splice dense fills frz frzL names namesL fix frzH frzHL le leL vRes oneRes
attribute [local go_sem] c1 s1 a1 b1 z1 o1 i1 c2 s2 a2 b2 z2 o2 i2 u2 c3 s3 a3 b3 z3 o3 i3 u3 c4 s4 a4 b4 z4 o4 i4 u4 c5 s5 a5 b5 z5 o5 i5 u5 c6 s6 a6 b6 z6 o6 i6 u6 c7 s7 a7 b7 z7 o7 f7_0 f7_1 f7_2 f7_3 q7 fo7 r7 i7 c8 s8 a8 b8 z8 o8 f8_0 f8_1 f8_2 f8_3 q8 fo8 r8 i8 c9 s9 a9 b9 z9 o9 i9 u9 c10 s10 a10 b10 z10 o10 i10 u10 c11 s11 a11 b11 z11 o11 i11 u11 c12 s12 a12 b12 z12 o12 i12 u12 c13 s13 a13 b13 z13 o13 f13_0 f13_1 fo13 r13 i13 c14 s14 a14 b14 z14 o14 f14_0 f14_1 fo14 r14 i14 c15 s15 a15 b15 z15 o15 p15 i15 c16 s16 a16 b16 z16 o16 p16 i16 c17 s17 a17 b17 z17 o17 p17 i17 c18 s18 a18 b18 z18 o18 f18_0 fo18 r18 i18 c19 s19 a19 b19 z19 o19 f19_0 fo19 r19 i19 c21 s21 a21 b21 z21 o21 i21 u21 c22 s22 a22 b22 z22 o22 e22 u22 i22 c23 s23 a23 b23 z23 o23 e23 u23 i23 c24 s24 a24 b24 z24 o24 f24_0 f24_1 fo24 r24 i24 c25 s25 a25 b25 z25 o25 f25_0 f25_1 fo25 r25 i25 c26 s26 a26 b26 z26 o26 e26 u26 i26 c27 s27 a27 b27 z27 o27 f27_0 f27_1 f27_2 q27 fo27 r27 i27 c28 s28 a28 b28 z28 o28 f28_0 f28_1 f28_2 q28 fo28 r28 i28 c29 s29 a29 b29 z29 o29 i29 c30 s30 a30 b30 z30 o30 i30 c31 s31 a31 b31 z31 o31 e31 u31 i31 c32 s32 a32 b32 z32 o32 e32 u32 i32 c33 s33 a33 b33 z33 o33 f33_0 f33_1 fo33 r33 i33 c34 s34 a34 b34 z34 o34 f34_0 f34_1 fo34 r34 i34 c35 s35 a35 b35 z35 o35 i35 c36 s36 a36 b36 z36 o36 f36_0 f36_1 f36_2 q36 fo36 r36 i36 c37 s37 a37 b37 z37 o37 f37_0 f37_1 f37_2 f37_3 f37_4 q37 fo37 r37 i37 c38 s38 a38 b38 z38 o38 f38_0 f38_1 f38_2 f38_3 f38_4 q38 fo38 r38 i38 c39 s39 a39 b39 z39 o39 i39 u39 c41 s41 a41 b41 z41 o41 i41 c42 s42 a42 b42 z42 o42 i42 c43 s43 a43 b43 z43 o43 f43_0 f43_1 f43_2 f43_3 f43_4 q43 fo43 r43 i43 c45 s45 a45 b45 z45 o45 i45 c46 s46 a46 b46 z46 o46 f46_0 f46_1 q46 fo46 r46 i46 c47 s47 a47 b47 z47 o47 f47_0 f47_1 q47 fo47 r47 i47 c49 s49 a49 b49 z49 o49 i49 c50 s50 a50 b50 z50 o50 i50 c51 s51 a51 b51 z51 o51 i51 c52 s52 a52 b52 z52 o52 i52 c53 s53 a53 b53 z53 o53 i53 c54 s54 a54 b54 z54 o54 i54 c55 s55 a55 b55 z55 o55 e55 u55 i55 c57 s57 a57 b57 z57 o57 i57 c59 s59 a59 b59 z59 o59 i59 c60 s60 a60 b60 z60 o60 i60 c61 s61 a61 b61 z61 o61 i61 c62 s62 a62 b62 z62 o62 i62 c63 s63 a63 b63 z63 o63 f63_0 f63_1 fo63 r63 i63 c64 s64 a64 b64 z64 o64 f64_0 f64_1 fo64 r64 i64 c65 s65 a65 b65 z65 o65 e65 u65 i65 c66 s66 a66 b66 z66 o66 e66 u66 i66 c67 s67 a67 b67 z67 o67 f67_0 f67_1 f67_2 f67_3 fo67 r67 i67 c68 s68 a68 b68 z68 o68 f68_0 f68_1 f68_2 f68_3 fo68 r68 i68 c69 s69 a69 b69 z69 o69 f69_0 f69_1 q69 fo69 r69 i69 c70 s70 a70 b70 z70 o70 f70_0 f70_1 q70 fo70 r70 i70 c71 s71 a71 b71 z71 o71 e71 u71 i71 c72 s72 a72 b72 z72 o72 i72 c73 s73 a73 b73 z73 o73 i73 c74 s74 a74 b74 z74 o74 f74_0 f74_1 fo74 r74 i74 c75 s75 a75 b75 z75 o75 e75 u75 i75 c76 s76 a76 b76 z76 o76 f76_0 f76_1 f76_2 f76_3 fo76 r76 i76 c77 s77 a77 b77 z77 o77 f77_0 f77_1 f77_2 f77_3 fo77 r77 i77 c78 s78 a78 b78 z78 o78 f78_0 f78_1 q78 fo78 r78 i78 c79 s79 a79 b79 z79 o79 i79 c81 s81 a81 b81 z81 o81 i81 c82 s82 a82 b82 z82 o82 i82 c83 s83 a83 b83 z83 o83 p83 i83 c84 s84 a84 b84 z84 o84 f84_0 f84_1 f84_2 f84_3 f84_4 fo84 r84 i84 c85 s85 a85 b85 z85 o85 f85_0 f85_1 f85_2 f85_3 f85_4 fo85 r85 i85 c86 s86 a86 b86 z86 o86 i86 c88 s88 a88 b88 z88 o88 i88 c89 s89 a89 b89 z89 o89 i89 c91 s91 a91 b91 z91 o91 i91 c93 s93 a93 b93 z93 o93 i93 c94 s94 a94 b94 z94 o94 i94 c96 s96 a96 b96 z96 o96 i96 c97 s97 a97 b97 z97 o97 i97 c98 s98 a98 b98 z98 o98 i98 c99 s99 a99 b99 z99 o99 i99 c100 s100 a100 b100 z100 o100 i100 c101 s101 a101 b101 z101 o101 i101 c102 s102 a102 b102 z102 o102 i102 c104 s104 a104 b104 z104 o104 i104 c105 s105 a105 b105 z105 o105 i105 c107 s107 a107 b107 z107 o107 i107 c108 s108 a108 b108 z108 o108 i108 c110 s110 a110 b110 z110 o110 i110 c112 s112 a112 b112 z112 o112 i112 c113 s113 a113 b113 z113 o113 i113 c115 s115 a115 b115 z115 o115 i115 c116 s116 a116 b116 z116 o116 i116 c118 s118 a118 b118 z118 o118 i118 c119 s119 a119 b119 z119 o119 i119 c120 s120 a120 b120 z120 o120 i120 c122 s122 a122 b122 z122 o122 i122 c124 s124 a124 b124 z124 o124 i124 c125 s125 a125 b125 z125 o125 i125 c126 s126 a126 b126 z126 o126 f126_0 f126_1 f126_2 f126_3 fo126 r126 i126 c127 s127 a127 b127 z127 o127 f127_0 f127_1 f127_2 f127_3 fo127 r127 i127 c131 s131 a131 b131 z131 o131 i131 c132 s132 a132 b132 z132 o132 i132 u132 c133 s133 a133 b133 z133 o133 i133 u133 c134 s134 a134 b134 z134 o134 i134 u134 c135 s135 a135 b135 z135 o135 i135 c136 s136 a136 b136 z136 o136 p136 i136 c137 s137 a137 b137 z137 o137 i137 u137 c138 s138 a138 b138 z138 o138 i138 u138 c139 s139 a139 b139 z139 o139 f139_0 f139_1 f139_2 f139_3 f139_4 f139_5 f139_6 f139_7 f139_8 f139_9 f139_10 fo139 r139 i139 c140 s140 a140 b140 z140 o140 f140_0 f140_1 f140_2 f140_3 f140_4 f140_5 f140_6 f140_7 f140_8 f140_9 f140_10 fo140 r140 i140
attribute [local go_sem] List.replicate List.length_cons List.length_nil Nat.reduceAdd Nat.reduceSub List.cons_append List.nil_append List.append_nil List.set_cons_succ List.set_cons_zero List.getD_cons_succ List.getD_cons_zero Nat.zero_add List.getElem?_cons_succ List.getElem?_cons_zero List.foldl_cons List.foldl_nil Option.map_some Option.map_none List.drop_succ_cons List.drop_zero List.take_succ_cons List.take_zero List.map_cons List.map_nil List.all_cons List.all_nil  Bool.and_true Bool.true_and imp_self Nat.add_zero beq_self_eq_true Option.isSome_some true_and and_true if_true if_false ints_len
set_option linter.unusedSimpArgs false
set_option maxRecDepth 100000
set_option maxHeartbeats 4000000
attribute [local go_sem] ints_nil ints_take ints_drop ints_cat ints_snoc ints_cons List.length_take List.length_drop List.drop_zero decide_true decide_false List.getElem?_toArray Option.bind_some Bool.false_eq_true Bool.true_eq_false Bool.not_true Bool.not_false Int.toNat_natCast Int.cast_ofNat_Int forget swap grow growIn opt_or opt_orn opt_and beq_true beq_false rdAll rdOp rdTmp agree Option.getD_some Option.getD_none List.flatten_cons List.flatten_nil ownCut mp mpL mpO vl vlL matchH freshH setAll nodupB enterH List.contains_cons List.contains_nil Nat.reduceMul Nat.reduceLT Nat.reduceLeDiff Nat.reduceEqDiff
theorem in_spec (f : Bool) (l : List Int) (x : Int) (hl : l.length * 8 ≤ 70368744177664) : Ret Try.prog 39 [.sl f (ints l), .int .i64 x] (.bool (l.contains x)) := by
 refine Ret_of_body Try.func39 (by kernel_rfl) rfl ?_; rw [Try.ntmps39]
 refine Dd0 ?_
 refine TW_sub (Sub_bl 262092) ?_
 refine TW_loop (fun fuel st => ∃ (i : Nat), (i ≤ l.length) ∧ (x ∉ l.take i) ∧  fuel = l.length - i ∧ st = ⟨[.sl f (ints l), .int .i64 x, .junk, .junk, .bool false, .int .i64 i, .junk, .junk, .junk, .junk, .junk, .junk, .junk, .junk, .junk, .junk, .junk, .junk], [.un, .un, .un, .un, .un, .un, .un, .un, .un, .un, .un, .un, .un, .un, .un, .un, .un, .un], 0⟩) (n := _) ⟨0, by first | omega | (simp; done) | (simp; omega) | assumption, by first | omega | (simp; done) | (simp; omega) | assumption, rfl, rfl⟩ ?_
 rintro fuel st ⟨i, hi, hx, rfl, rfl⟩
 refine Dd0 ?_
 refine TW_cond rfl (fun hc => ?_) (fun hc => ?_)
 ·have hlt : i < l.length := by simpa using hc
  have hw := wrap_i64 (n := (i : Int) + 1) (by omega) (by omega)
  refine Dd2 (ints_get l i hlt) @hw ?_
  have hg : l.getD i 0 = l[i] := by rw [List.getD_eq_getElem?_getD, List.getElem?_eq_getElem hlt]; rfl
  refine TW_cond rfl (fun hc => ?_) (fun hc => ?_)
  ·refine Dd0 ?_
   (refine ⟨by simp, ?_⟩; simp only [go_sem, Try.results39])
   have h : l[i] = x := by rw [hg] at hc; simpa using hc
   simp [← h]
  ·refine Dd1 @hw ?_
   have h : l[i] ≠ x := by rw [hg] at hc; simpa using hc
   have hx' : x ∉ l.take (i + 1) := by rw [List.take_succ_eq_append_getElem hlt, List.mem_append, List.mem_singleton, not_or]; exact ⟨hx, Ne.symm h⟩
   exact ⟨_, _, by omega, ⟨i + 1, by omega, hx', rfl, rfl⟩, Sub_bl 262092⟩
 ·refine Dd0 ?_
  (refine ⟨by simp, ?_⟩; simp only [go_sem, Try.results39])
  have : i = l.length := by have : ¬ (i < l.length) := by simpa using hc
                            omega
  subst this
  simpa using hx
theorem getD_at {l : List Int} {i : Nat} (h : i < l.length) : l.getD i 0 = l[i] := by rw [List.getD_eq_getElem?_getD, List.getElem?_eq_getElem h]; rfl
theorem ints_spec (f g : Bool) (l m : List Int) (hl : l.length ≤ 1000000) (hm : m.length ≤ 1000000) : Ret Try.prog 51 [.sl f (ints l), .sl g (ints m)] (.bool (decide (l = m))) := by
 refine Ret_of_body Try.func51 (by kernel_rfl) rfl ?_; rw [Try.ntmps51]
 refine Dd0 ?_
 refine TW_cond rfl (fun hc => ?_) (fun hc => ?_)
 ·have h : l.length ≠ m.length := by simp at hc; omega
  refine Dd0 ?_
  (refine ⟨by simp, ?_⟩; simp only [go_sem, Try.results51])
  have h2 : l ≠ m := fun e => h (by rw [e])
  simp [h2]
 ·have h : l.length = m.length := by simp at hc; omega
  refine Dd0 ?_
  refine TW_sub (Sub_bl 67108812) ?_
  refine TW_loop (fun fuel st => ∃ (i : Nat), (i ≤ l.length) ∧ (l.take i = m.take i) ∧  fuel = l.length - i ∧ st = ⟨[.sl f (ints l), .sl g (ints m), .junk, .junk, .bool false, .int .i64 i, .junk, .junk, .junk, .junk, .junk, .junk, .junk, .junk, .junk, .junk, .junk, .junk, .junk, .junk, .junk, .junk, .junk, .junk, .junk, .junk], [.un, .un, .un, .un, .un, .un, .un, .un, .un, .un, .un, .un, .un, .un, .un, .un, .un, .un, .un, .un, .un, .un, .un, .un, .un, .un], 0⟩) (n := _) ⟨0, by first | omega | (simp; done) | (simp; omega) | assumption, by first | omega | (simp; done) | (simp; omega) | assumption, rfl, rfl⟩ ?_
  rintro fuel st ⟨i, hi, hx, rfl, rfl⟩
  refine Dd0 ?_
  refine TW_cond rfl (fun hc => ?_) (fun hc => ?_)
  ·have hlt : i < l.length := by simpa using hc
   have hlm : i < m.length := by omega
   have hw := wrap_i64 (n := (i : Int) + 1) (by omega) (by omega)
   have hg := ints_get l i hlt
   have hk := ints_get m i hlm
   refine Dd0 ?_
   refine TW_sub (Sub_bl 1996) ?_
   refine TW_open mixed (by kernel_rfl) (fun b => ⟨[.sl f (ints l), .sl g (ints m), .junk, .junk, .bool false, .int .i64 (↑i : Int), .junk, .junk, .junk, .junk, .junk, .int .i64 (↑i : Int), .sl f (ints l), .int .i64 (↑l.length : Int), .bool (decide ((↑i : Int) < (↑l.length : Int))), .junk, .junk, if b 0 = true then .sl f (ints l) else .junk, if b 1 = true then .int .i64 (↑i : Int) else .junk, if b 2 = true then .cptr [.int .i64 (l.getD i 0)] else .junk, if b 3 = true then .int .i64 (l.getD i 0) else .junk, if b 4 = true then .sl g (ints m) else .junk, if b 5 = true then .int .i64 (↑i : Int) else .junk, if b 6 = true then .cptr [.int .i64 (m.getD i 0)] else .junk, if b 7 = true then .int .i64 (m.getD i 0) else .junk, if b 8 = true then .bool (!decide (l.getD i 0 = m.getD i 0)) else .junk], [.un, .un, .un, .un, .un, .un, .un, .un, .un, .un, .un, .un, .un, .un, .un, .un, .un, .un, .un, .un, .un, .un, .un, .un, .un, .un], 0⟩) rfl ?_ ?_
   ·skip
    (repeat refine Di ?_ (fun b hwW hbB hcC => ?_)); (exact trivial)
    ·exact Ds4 hbB (hwW.at 3 rfl) (hwW.at 7 rfl) @hg @hk
    ·exact Ds4 hbB (hwW.at 6 rfl) (hcC.l hbB 8 rfl) @hg @hk
    ·exact Ds5 hbB (hwW.at 4 rfl) (hwW.at 5 rfl) (hcC.l hbB 7 rfl) @hg @hk
    ·exact Ds3 hbB (hcC.l hbB 6 rfl) @hg @hk
    ·exact Ds3 hbB (hcC.l hbB 6 rfl) @hg @hk
    ·exact Ds4 hbB (hwW.at 2 rfl) (hcC.l hbB 8 rfl) @hg @hk
    ·exact Ds5 hbB (hwW.at 0 rfl) (hwW.at 1 rfl) (hcC.l hbB 3 rfl) @hg @hk
    ·exact Ds3 hbB (hcC.l hbB 2 rfl) @hg @hk
    ·exact Ds3 hbB (hcC.l hbB 2 rfl) @hg @hk
   simp only [List.length_cons, List.length_nil, Nat.reduceAdd, Nat.reduceLT, decide_true, if_true]
   refine Dd0 ?_
   have hg : l.getD i 0 = l[i] := by rw [List.getD_eq_getElem?_getD, List.getElem?_eq_getElem hlt]; rfl
   have hk : m.getD i 0 = m[i] := by rw [List.getD_eq_getElem?_getD, List.getElem?_eq_getElem hlm]; rfl
   refine TW_cond rfl (fun hc => ?_) (fun hc => ?_)
   ·refine Dd0 ?_
    (refine ⟨by simp, ?_⟩; simp only [go_sem, Try.results51])
    have h3 : l[i] ≠ m[i] := by rw [hg, hk] at hc; simpa using hc
    have h2 : l ≠ m := fun e => h3 (by subst e; rfl)
    simp [h2]
   ·refine Dd1 @hw ?_
    have h3 : l[i] = m[i] := by rw [hg, hk] at hc; simpa using hc
    have hx' : l.take (i + 1) = m.take (i + 1) := by rw [List.take_succ_eq_append_getElem hlt, List.take_succ_eq_append_getElem hlm, hx, h3]
    exact ⟨_, _, by omega, ⟨i + 1, by omega, hx', rfl, rfl⟩, Sub_bl 67108812⟩
  ·refine Dd0 ?_
   (refine ⟨by simp, ?_⟩; simp only [go_sem, Try.results51])
   have : i = l.length := by have : ¬ (i < l.length) := by simpa using hc
                             omega
   subst this
   have : l = m := by rw [List.take_length, h, List.take_length] at hx; exact hx
   simp [this]
theorem clone_spec (f : Bool) (l : List Int) (hl : l.length ≤ 1000000) : RetH Try.prog 60 [.sl f (ints l)] [] (.bsl 0) [.arr 3 1 (ints l)] := by
 refine RetA_of_body Try.func60 (by kernel_rfl) rfl ?_; rw [Try.ntmps60]
 by_cases h : l = []
 ·subst h
  repeat (first | ((with_reducible first | refine O1 rfl (fun N hN => ?_) | refine O2 rfl rfl rfl (fun N hN => ?_)); simp only [go_sem]; (try refine Or.inl ?_); (repeat (refine And.intro (by first | omega | ((try simp only [go_sem, List.length_append, lim, lim2]) <;> omega) | assumption | exact ints_1 _ | exact rfl | (simp [ints]; done)) ?_)); (first | refine hN _ ?_ | (intro _ _; refine hN _ ?_)); clear hN N) | with_reducible (first | apply Ea | apply Eb | apply Ec | apply Ed | apply Ee | apply Ef | apply Eg | apply Eh | apply Ei | apply Ej | apply Ek | apply El | apply Em | refine En rfl ?_ | apply Eo | apply Ep | apply Eq1 | apply Er | apply Es) | ((with_reducible first | refine O3 rfl rfl rfl rfl ?_ | refine O4 rfl rfl rfl ?_); simp only [go_sem]))
  refine TW_cond rfl (fun hc => ?_) (fun hc => ?_)
  ·refine Dd0 ?_
   (refine ⟨by simp, ?_⟩; simp only [go_sem, Try.results60])
   exact .inr trivial
  ·refine Dd0 ?_
   (refine ⟨by simp, ?_⟩; simp only [go_sem, Try.results60])
   exact .inl ⟨7, rfl, rfl⟩
 ·refine Dd1 @h ?_
  refine TW_cond rfl (fun hc => absurd hc (by simp)) (fun hc => ?_)
  refine Dd0 ?_
  (refine ⟨by simp, ?_⟩; simp only [go_sem, Try.results60])
  exact .inl ⟨7, rfl, rfl⟩
def acqC (c : Int) : Int := if c > 0 then c - 1 else c
def acqW (c : Int) (l : List Int) (g : Int) : List Int := if c > 0 then l else l ++ [g]
theorem acq_spec (f : Bool) (c : Int) (l : List Int) (g : Int) (hl : l.length ≤ 1000000) (hc0 : c ≤ 9223372036854775807) :
  Ret Try.prog 54 [.agg [.int .i64 c, .sl f (ints l)], .int .i64 g] (.tup [.agg [.int .i64 (acqC c), .sl false (ints (acqW c l g))], .bool (decide (c > 0))]) := by
 refine Ret_of_body Try.func54 (by kernel_rfl) rfl ?_; rw [Try.ntmps54]
 refine Dd0 ?_
 refine TW_cond rfl (fun hc => ?_) (fun hc => ?_)
 ·have h : c > 0 := by simpa using hc
  have hw := wrap_i64 (n := c - 1) (by omega) (by omega)
  refine Dd0 ?_
  refine TW_sub (Sub_bl 457) ?_
  refine TW_open mixed (by kernel_rfl) (fun b => ⟨[.junk, .int .i64 g, .ptr 2 0, .junk, .ptr 4 0, if b 8 = true then .bool true else .bool false, .junk, .junk, .junk, if b 0 = true then .ptr 2 0 else .junk, if b 1 = true then .int .i64 c else .junk, if b 2 = true then .int .i64 (c - 1) else .junk, if b 3 = true then .ptr 2 1 else .junk, if b 4 = true then .sl f (ints l) else .junk, if b 5 = true then .bsl 14 else .junk, if b 6 = true then .agg [.int .i64 (c - 1), .bsl 14] else .junk, .junk, .junk, .junk, .junk, .junk, .junk, .junk, .junk, .junk], [.un, .un, .box [.int .i64 c, .sl f (ints l)], .un, if b 7 = true then .box [.int .i64 (c - 1), .bsl 14] else .box [.int .i64 0, .nils], .un, .un, .un, .un, .un, .un, .un, .un, .un, if b 5 = true then .arr 3 1 (ints l) else .un, .un, .un, .un, .un, .un, .un, .un, .un, .un, .un], 0⟩) rfl ?_ ?_
  ·skip
   (repeat refine Di ?_ (fun b hwW hbB hcC => ?_)); (exact trivial)
   ·exact Ds9 hbB (hwW.at 0 rfl) (hwW.at 1 rfl) (hwW.at 2 rfl) (hwW.at 3 rfl) (hwW.at 4 rfl) (hwW.at 5 rfl) (hwW.at 6 rfl) (hwW.at 7 rfl) @hw
   ·exact Ds9 hbB (hwW.at 0 rfl) (hwW.at 1 rfl) (hwW.at 2 rfl) (hwW.at 3 rfl) (hwW.at 4 rfl) (hwW.at 5 rfl) (hwW.at 6 rfl) (hcC.l hbB 8 rfl) @hw
   ·exact Ds5 hbB (hwW.at 2 rfl) (hwW.at 5 rfl) (hcC.l hbB 7 rfl) (hcC.l hbB 8 rfl) @hw
   ·exact Dkar5 hbB (hwW.at 4 rfl) (hcC.l hbB 6 rfl) (hcC.l hbB 7 rfl) (hcC.l hbB 8 rfl) @hw (clone_spec f l hl)
   ·exact Ds5 hbB (hwW.at 3 rfl) (hcC.l hbB 5 rfl) (hcC.l hbB 7 rfl) (hcC.l hbB 8 rfl) @hw
   ·have l4 := hcC.l hbB 4 rfl; exact Ds5 hbB l4 (hcC.l l4 5 rfl) (hcC.l hbB 7 rfl) (hcC.l hbB 8 rfl) @hw
   ·exact Ds5 hbB (hwW.at 1 rfl) (hcC.l hbB 6 rfl) (hcC.l hbB 7 rfl) (hcC.l hbB 8 rfl) @hw
   ·exact Ds5 hbB (hwW.at 0 rfl) (hcC.l hbB 2 rfl) (hcC.l hbB 7 rfl) (hcC.l hbB 8 rfl) @hw
   ·exact Ds4 hbB (hcC.l hbB 1 rfl) (hcC.l hbB 7 rfl) (hcC.l hbB 8 rfl) @hw
  simp only [List.length_cons, List.length_nil, Nat.reduceAdd, Nat.reduceLT, decide_true, if_true]
  refine Dd0 ?_
  (refine ⟨by simp, ?_⟩; simp only [go_sem, Try.results54])
  simp [acqC, acqW, h]
 ·have h : ¬ c > 0 := by simpa using hc
  refine Dd0 ?_
  refine TW_sub (Sub_bl 65481) ?_
  refine TW_open mixed (by kernel_rfl) (fun b => ⟨[.junk, .int .i64 g, .ptr 2 0, .junk, .ptr 4 0, .bool false, .junk, .junk, .junk, .junk, .junk, .junk, .junk, .junk, .junk, .junk, if b 0 = true then .ptr 2 0 else .junk, if b 1 = true then .int .i64 c else .junk, if b 2 = true then .ptr 2 1 else .junk, if b 3 = true then .sl f (ints l) else .junk, if b 4 = true then .bsl 20 else .junk, if b 5 = true then .int .i64 g else .junk, if b 6 = true then .bsl 22 else .junk, if b 7 = true then .bsl 23 else .junk, if b 8 = true then .agg [.int .i64 c, .bsl 23] else .junk], [.un, .un, .box [.int .i64 c, .sl f (ints l)], .un, if b 9 = true then .box [.int .i64 c, .bsl 23] else .box [.int .i64 0, .nils], .un, .un, .un, .un, .un, .un, .un, .un, .un, .un, .un, .un, .un, .un, .un, if b 7 = true then .dead else if b 4 = true then .arr 3 1 (ints l) else .un, .un, if b 6 = true then .arr 3 1 [[.int .i64 g]] else .un, if b 7 = true then .arr 3 1 (ints (l ++ [g])) else .un, .un], 0⟩) rfl ?_ ?_
  ·skip
   (repeat refine Di ?_ (fun b hwW hbB hcC => ?_)); (exact trivial)
   ·exact Ds10 hbB (hwW.at 0 rfl) (hwW.at 1 rfl) (hwW.at 2 rfl) (hwW.at 3 rfl) (hwW.at 4 rfl) (hwW.at 5 rfl) (hwW.at 6 rfl) (hwW.at 7 rfl) (hwW.at 8 rfl) (hwW.at 9 rfl)
   ·exact Ds10 hbB (hwW.at 0 rfl) (hwW.at 1 rfl) (hwW.at 2 rfl) (hwW.at 3 rfl) (hwW.at 4 rfl) (hwW.at 5 rfl) (hwW.at 6 rfl) (hwW.at 7 rfl) (hwW.at 8 rfl) (hcC.l hbB 10 rfl)
   ·have w7 := hwW.at 7 rfl; exact Ds6 hbB (hwW.at 1 rfl) ((hcC 7 _ rfl w7).at 4 rfl) ((hcC 7 _ rfl w7).at 6 rfl) w7 (hcC.l hbB 9 rfl) (hcC.l hbB 10 rfl)
   ·exact Ds5 hbB (hwW.at 4 rfl) (hwW.at 6 rfl) (hcC.l hbB 8 rfl) (hcC.l hbB 9 rfl) (hcC.l hbB 10 rfl)
   ·exact Ds4 hbB (hwW.at 5 rfl) (hcC.l hbB 7 rfl) (hcC.l hbB 9 rfl) (hcC.l hbB 10 rfl)
   ·have l6 := hcC.l hbB 6 rfl; exact Ds4 hbB l6 (hcC.l l6 7 rfl) (hcC.l hbB 9 rfl) (hcC.l hbB 10 rfl)
   ·exact Dkar4 hbB (hwW.at 3 rfl) (hcC.l hbB 7 rfl) (hcC.l hbB 9 rfl) (hcC.l hbB 10 rfl) (clone_spec f l hl)
   ·have l4 := hcC.l hbB 4 rfl; exact Ds5 hbB (hwW.at 2 rfl) l4 (hcC.l l4 7 rfl) (hcC.l hbB 9 rfl) (hcC.l hbB 10 rfl)
   ·have l3 := hcC.l hbB 3 rfl; have l4 := hcC.l l3 4 rfl; exact Ds5 hbB l3 l4 (hcC.l l4 7 rfl) (hcC.l hbB 9 rfl) (hcC.l hbB 10 rfl)
   ·exact Ds4 hbB (hwW.at 0 rfl) (hcC.l hbB 8 rfl) (hcC.l hbB 9 rfl) (hcC.l hbB 10 rfl)
   ·exact Ds3 hbB (hcC.l hbB 1 rfl) (hcC.l hbB 9 rfl) (hcC.l hbB 10 rfl)
  simp only [List.length_cons, List.length_nil, Nat.reduceAdd, Nat.reduceLT, decide_true, if_true]
  refine Dd0 ?_
  (refine ⟨by simp, ?_⟩; simp only [go_sem, Try.results54])
  simp [acqC, acqW, h]
def relC (c : Int) (l : List Int) : Int := if l = [] then (if c = 1000000 then c else c + 1) else c
theorem rel_spec (f : Bool) (c : Int) (l : List Int) (hl : l.length ≤ 1000000) (hc0 : -9223372036854775808 ≤ c ∧ c ≤ 9223372036854775806) :
  Ret Try.prog 56 [.agg [.int .i64 c, .sl f (ints l)]] (.tup [.agg [.int .i64 (relC c l), .sl false (ints (l.drop 1))], .int .i64 (l.headD 0)]) := by
 refine Ret_of_body Try.func56 (by kernel_rfl) rfl ?_; rw [Try.ntmps56]
 refine Dd0 ?_
 refine TW_cond rfl (fun hc => ?_) (fun hc => ?_)
 ·have h : 0 < l.length := by simpa using hc
  have h1 : l ≠ [] := List.length_pos_iff.1 h
  have hg := ints_get l 0 h
  refine Dd0 ?_
  refine TW_sub (Sub_bl 241) ?_
  refine TW_open mixed (by kernel_rfl) (fun b => ⟨[.junk, .ptr 1 0, .ptr 2 0, if b 12 = true then .int .i64 (l.getD 0 0) else .int .i64 0, .junk, .junk, .junk, .junk, if b 0 = true then .ptr 1 0 else .junk, if b 1 = true then .int .i64 c else .junk, if b 2 = true then .ptr 1 1 else .junk, if b 3 = true then .sl f (ints l) else .junk, if b 4 = true then .sl false (ints (List.drop 1 (List.take l.length l))) else .junk, if b 5 = true then .bsl 13 else .junk, if b 6 = true then .agg [.int .i64 c, .bsl 13] else .junk, if b 7 = true then .ptr 1 1 else .junk, if b 8 = true then .sl f (ints l) else .junk, if b 9 = true then .cptr [.int .i64 (l.getD 0 0)] else .junk, if b 10 = true then .int .i64 (l.getD 0 0) else .junk, .junk, .junk, .junk, .junk, .junk, .junk, .junk, .junk], [.un, .box [.int .i64 c, .sl f (ints l)], if b 11 = true then .box [.int .i64 c, .bsl 13] else .box [.int .i64 0, .nils], .un, .un, .un, .un, .un, .un, .un, .un, .un, .un, if b 5 = true then .arr 3 1 (ints (List.drop 1 l)) else .un, .un, .un, .un, .un, .un, .un, .un, .un, .un, .un, .un, .un, .un], 0⟩) rfl ?_ ?_
  ·skip
   (repeat refine Di ?_ (fun b hwW hbB hcC => ?_)); (exact trivial)
   ·have hbB : b 12 = false := hbB; have w10 := hwW.at 10 rfl; have w11 := hwW.at 11 rfl; have w0 := hwW.at 0 rfl; have w1 := hwW.at 1 rfl; have w2 := hwW.at 2 rfl; have w3 := hwW.at 3 rfl; have w4 := hwW.at 4 rfl; have w5 := hwW.at 5 rfl; have w6 := hwW.at 6 rfl; have w7 := hwW.at 7 rfl; have w8 := hwW.at 8 rfl; have w9 := hwW.at 9 rfl; simp only [vGuard, go_sem, hbB, upd, Bool.false_eq_true, w0, w1, w2, w3, w4, w5, w6, w7, w8, w9, w10, w11, Int.toNat_zero, hg, Int.reduceToNat] <;> (try refine Or.inl ?_) <;> (repeat (refine And.intro (by first | omega | ((try simp only [go_sem, List.length_append, lim, lim2]) <;> omega) | assumption | exact ints_1 _ | exact rfl | (simp [ints]; done)) ?_)) <;> (first | rfl | first | omega | ((try simp only [go_sem, List.length_append, lim, lim2]) <;> omega) | assumption | exact ints_1 _ | exact rfl | (simp [ints]; done))
   ·have hbB : b 11 = false := hbB; have w6 := hwW.at 6 rfl; have w5 := hwW.at 5 rfl; have w0 := hwW.at 0 rfl; have w1 := hwW.at 1 rfl; have w2 := hwW.at 2 rfl; have w3 := hwW.at 3 rfl; have w4 := hwW.at 4 rfl; have l12 := hcC.l hbB 12 rfl; simp only [vGuard, go_sem, hbB, upd, Bool.false_eq_true, w0, w1, w2, w3, w4, w5, w6, l12, Int.toNat_zero, hg, Int.reduceToNat] <;> (try refine Or.inl ?_) <;> (repeat (refine And.intro (by first | omega | ((try simp only [go_sem, List.length_append, lim, lim2]) <;> omega) | assumption | exact ints_1 _ | exact rfl | (simp [ints]; done)) ?_)) <;> (first | rfl | first | omega | ((try simp only [go_sem, List.length_append, lim, lim2]) <;> omega) | assumption | exact ints_1 _ | exact rfl | (simp [ints]; done))
   ·have hbB : b 10 = false := hbB; have w9 := hwW.at 9 rfl; have l12 := hcC.l hbB 12 rfl; simp only [vGuard, go_sem, hbB, upd, Bool.false_eq_true, w9, l12, Int.toNat_zero, hg, Int.reduceToNat] <;> (try refine Or.inl ?_) <;> (repeat (refine And.intro (by first | omega | ((try simp only [go_sem, List.length_append, lim, lim2]) <;> omega) | assumption | exact ints_1 _ | exact rfl | (simp [ints]; done)) ?_)) <;> (first | rfl | first | omega | ((try simp only [go_sem, List.length_append, lim, lim2]) <;> omega) | assumption | exact ints_1 _ | exact rfl | (simp [ints]; done))
   ·have hbB : b 9 = false := hbB; have w8 := hwW.at 8 rfl; have l10 := hcC.l hbB 10 rfl; have l12 := hcC.l hbB 12 rfl; simp only [vGuard, go_sem, hbB, upd, Bool.false_eq_true, w8, l10, l12, Int.toNat_zero, hg, Int.reduceToNat] <;> (try refine Or.inl ?_) <;> (repeat (refine And.intro (by first | omega | ((try simp only [go_sem, List.length_append, lim, lim2]) <;> omega) | assumption | exact ints_1 _ | exact rfl | (simp [ints]; done)) ?_)) <;> (first | rfl | first | omega | ((try simp only [go_sem, List.length_append, lim, lim2]) <;> omega) | assumption | exact ints_1 _ | exact rfl | (simp [ints]; done))
   ·have hbB : b 8 = false := hbB; have w7 := hwW.at 7 rfl; have l9 := hcC.l hbB 9 rfl; have l12 := hcC.l hbB 12 rfl; simp only [vGuard, go_sem, hbB, upd, Bool.false_eq_true, w7, l9, l12, Int.toNat_zero, hg, Int.reduceToNat] <;> (try refine Or.inl ?_) <;> (repeat (refine And.intro (by first | omega | ((try simp only [go_sem, List.length_append, lim, lim2]) <;> omega) | assumption | exact ints_1 _ | exact rfl | (simp [ints]; done)) ?_)) <;> (first | rfl | first | omega | ((try simp only [go_sem, List.length_append, lim, lim2]) <;> omega) | assumption | exact ints_1 _ | exact rfl | (simp [ints]; done))
   ·have hbB : b 7 = false := hbB; have l8 := hcC.l hbB 8 rfl; have l12 := hcC.l hbB 12 rfl; simp only [vGuard, go_sem, hbB, upd, Bool.false_eq_true, l8, l12, Int.toNat_zero, hg, Int.reduceToNat] <;> (try refine Or.inl ?_) <;> (repeat (refine And.intro (by first | omega | ((try simp only [go_sem, List.length_append, lim, lim2]) <;> omega) | assumption | exact ints_1 _ | exact rfl | (simp [ints]; done)) ?_)) <;> (first | rfl | first | omega | ((try simp only [go_sem, List.length_append, lim, lim2]) <;> omega) | assumption | exact ints_1 _ | exact rfl | (simp [ints]; done))
   ·have hbB : b 6 = false := hbB; have w1 := hwW.at 1 rfl; have w5 := hwW.at 5 rfl; have w4 := (hcC 5 _ rfl w5).at 4 rfl; have l11 := hcC.l hbB 11 rfl; have l12 := hcC.l hbB 12 rfl; simp only [vGuard, go_sem, hbB, upd, Bool.false_eq_true, w1, w4, w5, l11, l12, Int.toNat_zero, hg, Int.reduceToNat] <;> (try refine Or.inl ?_) <;> (repeat (refine And.intro (by first | omega | ((try simp only [go_sem, List.length_append, lim, lim2]) <;> omega) | assumption | exact ints_1 _ | exact rfl | (simp [ints]; done)) ?_)) <;> (first | rfl | first | omega | ((try simp only [go_sem, List.length_append, lim, lim2]) <;> omega) | assumption | exact ints_1 _ | exact rfl | (simp [ints]; done))
   ·have hbB : b 5 = false := hbB; have w4 := hwW.at 4 rfl; have l6 := hcC.l hbB 6 rfl; have l11 := hcC.l hbB 11 rfl; have l12 := hcC.l hbB 12 rfl; simp only [vGuard, go_sem, hbB, upd, Bool.false_eq_true, w4, l6, l11, l12, Int.toNat_zero, hg, Int.reduceToNat]; refine vCall.ar _ _ _ _ _ rfl ?dt3 (clone_spec false (l.drop 1) (by simp; omega)) ?da3 ?du3 ?dk3; (case dt3 => (simp only [vGuard, go_sem, hbB, upd, Bool.false_eq_true, w4, l6, l11, l12, Int.toNat_zero, hg, Int.reduceToNat]; done)); (case du3 => (simp only [vGuard, go_sem, hbB, upd, Bool.false_eq_true, w4, l6, l11, l12, Int.toNat_zero, hg, Int.reduceToNat]; done)); (case da3 => (first | (simp only [vGuard, go_sem, hbB, upd, Bool.false_eq_true, w4, l6, l11, l12, Int.toNat_zero, hg, Int.reduceToNat]; done) | (simp only [vGuard, go_sem, hbB, upd, Bool.false_eq_true, w4, l6, l11, l12, Int.toNat_zero, hg, Int.reduceToNat] <;> (first | omega | ((try simp only [go_sem, List.length_append, lim, lim2]) <;> omega) | assumption | exact ints_1 _ | exact rfl | (simp [ints]; done))) | (simp [ints]; done))); (case dk3 => (simp only [vGuard, go_sem, hbB, upd, Bool.false_eq_true, w4, l6, l11, l12, Int.toNat_zero, hg, Int.reduceToNat] <;> rfl))
   ·have hbB : b 4 = false := hbB; have w3 := hwW.at 3 rfl; have l5 := hcC.l hbB 5 rfl; have l11 := hcC.l hbB 11 rfl; have l12 := hcC.l hbB 12 rfl; simp only [vGuard, go_sem, hbB, upd, Bool.false_eq_true, w3, l5, l11, l12, Int.toNat_zero, hg, Int.reduceToNat] <;> (try refine Or.inl ?_) <;> (repeat (refine And.intro (by first | omega | ((try simp only [go_sem, List.length_append, lim, lim2]) <;> omega) | assumption | exact ints_1 _ | exact rfl | (simp [ints]; done)) ?_)) <;> (first | rfl | first | omega | ((try simp only [go_sem, List.length_append, lim, lim2]) <;> omega) | assumption | exact ints_1 _ | exact rfl | (simp [ints]; done))
   ·have hbB : b 3 = false := hbB; have w2 := hwW.at 2 rfl; have l4 := hcC.l hbB 4 rfl; have l5 := hcC.l l4 5 rfl; have l11 := hcC.l hbB 11 rfl; have l12 := hcC.l hbB 12 rfl; simp only [vGuard, go_sem, hbB, upd, Bool.false_eq_true, w2, l4, l5, l11, l12, Int.toNat_zero, hg, Int.reduceToNat] <;> (try refine Or.inl ?_) <;> (repeat (refine And.intro (by first | omega | ((try simp only [go_sem, List.length_append, lim, lim2]) <;> omega) | assumption | exact ints_1 _ | exact rfl | (simp [ints]; done)) ?_)) <;> (first | rfl | first | omega | ((try simp only [go_sem, List.length_append, lim, lim2]) <;> omega) | assumption | exact ints_1 _ | exact rfl | (simp [ints]; done))
   ·have hbB : b 2 = false := hbB; have l3 := hcC.l hbB 3 rfl; have l4 := hcC.l l3 4 rfl; have l5 := hcC.l l4 5 rfl; have l11 := hcC.l hbB 11 rfl; have l12 := hcC.l hbB 12 rfl; simp only [vGuard, go_sem, hbB, upd, Bool.false_eq_true, l3, l4, l5, l11, l12, Int.toNat_zero, hg, Int.reduceToNat] <;> (try refine Or.inl ?_) <;> (repeat (refine And.intro (by first | omega | ((try simp only [go_sem, List.length_append, lim, lim2]) <;> omega) | assumption | exact ints_1 _ | exact rfl | (simp [ints]; done)) ?_)) <;> (first | rfl | first | omega | ((try simp only [go_sem, List.length_append, lim, lim2]) <;> omega) | assumption | exact ints_1 _ | exact rfl | (simp [ints]; done))
   ·have hbB : b 1 = false := hbB; have w0 := hwW.at 0 rfl; have l6 := hcC.l hbB 6 rfl; have l11 := hcC.l hbB 11 rfl; have l12 := hcC.l hbB 12 rfl; simp only [vGuard, go_sem, hbB, upd, Bool.false_eq_true, w0, l6, l11, l12, Int.toNat_zero, hg, Int.reduceToNat] <;> (try refine Or.inl ?_) <;> (repeat (refine And.intro (by first | omega | ((try simp only [go_sem, List.length_append, lim, lim2]) <;> omega) | assumption | exact ints_1 _ | exact rfl | (simp [ints]; done)) ?_)) <;> (first | rfl | first | omega | ((try simp only [go_sem, List.length_append, lim, lim2]) <;> omega) | assumption | exact ints_1 _ | exact rfl | (simp [ints]; done))
   ·have hbB : b 0 = false := hbB; have l1 := hcC.l hbB 1 rfl; have l11 := hcC.l hbB 11 rfl; have l12 := hcC.l hbB 12 rfl; simp only [vGuard, go_sem, hbB, upd, Bool.false_eq_true, l1, l11, l12, Int.toNat_zero, hg, Int.reduceToNat] <;> (try refine Or.inl ?_) <;> (repeat (refine And.intro (by first | omega | ((try simp only [go_sem, List.length_append, lim, lim2]) <;> omega) | assumption | exact ints_1 _ | exact rfl | (simp [ints]; done)) ?_)) <;> (first | rfl | first | omega | ((try simp only [go_sem, List.length_append, lim, lim2]) <;> omega) | assumption | exact ints_1 _ | exact rfl | (simp [ints]; done))
  simp only [List.length_cons, List.length_nil, Nat.reduceAdd, Nat.reduceLT, decide_true, if_true]
  refine Dd0 ?_
  (refine ⟨by simp, ?_⟩; simp only [go_sem, Try.results56])
  cases l with
  | nil => simp at h
  | cons a t => simp [relC]
 ·have h : l = [] := by simpa using hc
  subst h
  refine Dd0 ?_
  refine TW_cond rfl (fun hc => ?_) (fun hc => ?_)
  ·have h : c = 1000000 := by simpa using hc
   refine Dd0 ?_
   (refine ⟨by simp, ?_⟩; simp only [go_sem, Try.results56])
   simp [relC, h]
  ·have h : c ≠ 1000000 := by simpa using hc
   have hw := wrap_i64 (n := c + 1) (by omega) (by omega)
   refine Dd1 @hw ?_
   (refine ⟨by simp, ?_⟩; simp only [go_sem, Try.results56])
   simp [relC, h, ints]
def mayG (l : List Int) (i : Nat) : Bool := decide (0 < l.getD i 0) && !(l.take i).contains (l.getD i 0)
def mayB (l : List Int) : Bool := (List.range l.length).all (mayG l)
theorem mayB_false {l : List Int} {i : Nat} (h : i < l.length) (hg : mayG l i = false) : mayB l = false := by
 refine Bool.eq_false_iff.mpr fun e => ?_
 have := List.all_eq_true.mp e i (List.mem_range.mpr h)
 rw [hg] at this; cases this
theorem mayB_true {l : List Int} {i : Nat} (h : l.length ≤ i) (hg : ∀ j < i, mayG l j = true) : mayB l = true :=
 List.all_eq_true.mpr fun j hj => hg j (by have := List.mem_range.mp hj; omega)
theorem mayG_grow {l : List Int} {i : Nat} (h : ∀ j < i, mayG l j = true) (hg : mayG l i = true) : ∀ j < i + 1, mayG l j = true := by
 intro j hj
 by_cases hh : j < i
 ·exact h j hh
 ·have : j = i := by omega
  subst this; exact hg
def semM (c : Int) (l : List Int) : Bool := mayB l && (decide (0 ≤ c) && decide (c ≤ 1000000) && (decide (c = 0) || decide (l = [])))
theorem smay_spec (f : Bool) (c : Int) (l : List Int) (hl : l.length ≤ 999999) :
  Ret Try.prog 23 [.agg [.int .i64 c, .sl f (ints l)]] (.bool (semM c l)) := by
 refine Ret_of_body Try.func23 (by kernel_rfl) rfl ?_; rw [Try.ntmps23]
 refine Dd0 ?_
 refine TW_sub (Sub_bl 536870897) ?_
 refine TW_loop (fun fuel st => ∃ (i : Nat), (i ≤ l.length) ∧ (∀ j < i, mayG l j = true) ∧  fuel = l.length - i ∧ st = ⟨[.junk, .ptr 1 0, .bool false, .int .i64 i, .junk, .junk, .junk, .junk, .junk, .junk, .junk, .junk, .junk, .junk, .junk, .junk, .junk, .junk, .junk, .junk, .junk, .junk, .junk, .junk, .junk, .junk, .junk, .junk, .junk, .junk, .junk, .junk, .junk, .junk, .junk, .junk, .junk, .junk, .junk, .junk, .junk, .junk, .junk, .junk, .junk, .junk, .junk, .junk], [.un, .box [.int .i64 c, .sl f (ints l)], .un, .un, .un, .un, .un, .un, .un, .un, .un, .un, .un, .un, .un, .un, .un, .un, .un, .un, .un, .un, .un, .un, .un, .un, .un, .un, .un, .un, .un, .un, .un, .un, .un, .un, .un, .un, .un, .un, .un, .un, .un, .un, .un, .un, .un, .un], 0⟩) (n := _) ⟨0, by first | omega | (simp; done) | (simp; omega) | assumption, by first | omega | (simp; done) | (simp; omega) | assumption, rfl, rfl⟩ ?_
 rintro fuel st ⟨i, hi, hx, rfl, rfl⟩
 refine Dd0 ?_
 refine TW_cond rfl (fun hc => ?_) (fun hc => ?_)
 ·have hlt : i < l.length := by simpa using hc
  have hw := wrap_i64 (n := (i : Int) + 1) (by omega) (by omega)
  have hg := ints_get l i hlt
  by_cases h : l.getD i 0 < 1
  ·have hd : decide (l.getD i 0 < 1) = true := decide_eq_true h
   refine Dd0 ?_
   refine TW_sub (Sub_bl 1) ?_
   refine TW_open mixed (by kernel_rfl) (fun b => ⟨[.junk, .ptr 1 0, .bool false, .int .i64 (↑i : Int), .int .i64 (↑i : Int), .ptr 1 1, .sl f (ints l), .int .i64 (↑l.length : Int), .bool (decide ((↑i : Int) < (↑l.length : Int))), .junk, .junk, if b 0 = true then .ptr 1 1 else .junk, if b 1 = true then .sl f (ints l) else .junk, if b 2 = true then .int .i64 (↑i : Int) else .junk, if b 3 = true then .cptr [.int .i64 (l.getD i 0)] else .junk, if b 4 = true then .int .i64 (l.getD i 0) else .junk, if b 5 = true then .bool true else .junk, if b 6 = true then .bool true else .junk, if b 7 = true then .tup [] else .junk, if b 8 = true then .tup [] else .junk, if b 9 = true then .tup [] else .junk, if b 10 = true then .tup [] else .junk, if b 11 = true then .tup [] else .junk, if b 12 = true then .tup [] else .junk, if b 13 = true then .tup [] else .junk, if b 14 = true then .tup [] else .junk, if b 15 = true then .tup [] else .junk, if b 16 = true then .tup [] else .junk, if b 17 = true then .bool true else .junk, .junk, .junk, .junk, .junk, .junk, .junk, .junk, .junk, .junk, .junk, .junk, .junk, .junk, .junk, .junk, .junk, .junk, .junk, .junk], [.un, .box [.int .i64 c, .sl f (ints l)], .un, .un, .un, .un, .un, .un, .un, .un, .un, .un, .un, .un, .un, .un, .un, .un, .un, .un, .un, .un, .un, .un, .un, .un, .un, .un, .un, .un, .un, .un, .un, .un, .un, .un, .un, .un, .un, .un, .un, .un, .un, .un, .un, .un, .un, .un], 0⟩) rfl ?_ ?_
   ·skip
    (repeat refine Di ?_ (fun b hwW hbB hcC => ?_)); (exact trivial)
    ·have w16 := hwW.at 16 rfl; exact Ds5 hbB (hwW.at 6 rfl) ((hcC 16 _ rfl w16).at 10 rfl) w16 @hg @hd
    ·exact Ds6 hbB (hwW.at 6 rfl) (hwW.at 10 rfl) (hwW.at 15 rfl) (hcC.l hbB 17 rfl) @hg @hd
    ·exact Ds5 hbB (hwW.at 6 rfl) (hwW.at 14 rfl) (hcC.l hbB 16 rfl) @hg @hd
    ·have l15 := hcC.l hbB 15 rfl; exact Ds7 hbB (hwW.at 6 rfl) (hwW.at 12 rfl) (hwW.at 13 rfl) l15 (hcC.l l15 16 rfl) @hg @hd
    ·have l14 := hcC.l hbB 14 rfl; have l15 := hcC.l l14 15 rfl; exact Ds5 hbB (hwW.at 6 rfl) l14 (hcC.l l15 16 rfl) @hg @hd
    ·have l14 := hcC.l hbB 14 rfl; have l15 := hcC.l l14 15 rfl; exact Ds6 hbB (hwW.at 6 rfl) (hwW.at 11 rfl) l14 (hcC.l l15 16 rfl) @hg @hd
    ·have l12 := hcC.l hbB 12 rfl; have l14 := hcC.l l12 14 rfl; have l15 := hcC.l l14 15 rfl; exact Ds5 hbB (hwW.at 6 rfl) l12 (hcC.l l15 16 rfl) @hg @hd
    ·exact Ds6 hbB (hwW.at 6 rfl) (hwW.at 8 rfl) (hwW.at 9 rfl) (hcC.l hbB 16 rfl) @hg @hd
    ·have l10 := hcC.l hbB 10 rfl; exact Ds5 hbB (hwW.at 6 rfl) l10 (hcC.l l10 16 rfl) @hg @hd
    ·have l10 := hcC.l hbB 10 rfl; exact Ds6 hbB (hwW.at 6 rfl) (hwW.at 7 rfl) l10 (hcC.l l10 16 rfl) @hg @hd
    ·have l8 := hcC.l hbB 8 rfl; have l10 := hcC.l l8 10 rfl; exact Ds6 hbB (hwW.at 6 rfl) l8 l10 (hcC.l l10 16 rfl) @hg @hd
    ·exact Ds14 hbB (hwW.at 5 rfl) (hcC.l hbB 7 rfl) (hcC.l hbB 8 rfl) (hcC.l hbB 9 rfl) (hcC.l hbB 10 rfl) (hcC.l hbB 11 rfl) (hcC.l hbB 12 rfl) (hcC.l hbB 13 rfl) (hcC.l hbB 14 rfl) (hcC.l hbB 15 rfl) (hcC.l hbB 16 rfl) (hcC.l hbB 17 rfl) @hg @hd
    ·have l6 := hcC.l hbB 6 rfl; exact Ds6 hbB (hwW.at 4 rfl) l6 (hcC.l l6 10 rfl) (hcC.l l6 16 rfl) @hg @hd
    ·have l5 := hcC.l hbB 5 rfl; have l6 := hcC.l l5 6 rfl; exact Ds6 hbB (hwW.at 3 rfl) l5 (hcC.l l6 10 rfl) (hcC.l l6 16 rfl) @hg @hd
    ·have l4 := hcC.l hbB 4 rfl; have l5 := hcC.l l4 5 rfl; have l6 := hcC.l l5 6 rfl; exact Ds7 hbB (hwW.at 1 rfl) (hwW.at 2 rfl) l4 (hcC.l l6 10 rfl) (hcC.l l6 16 rfl) @hg @hd
    ·have l3 := hcC.l hbB 3 rfl; have l4 := hcC.l l3 4 rfl; have l5 := hcC.l l4 5 rfl; have l6 := hcC.l l5 6 rfl; exact Ds5 hbB l3 (hcC.l l6 10 rfl) (hcC.l l6 16 rfl) @hg @hd
    ·have l3 := hcC.l hbB 3 rfl; have l4 := hcC.l l3 4 rfl; have l5 := hcC.l l4 5 rfl; have l6 := hcC.l l5 6 rfl; exact Ds6 hbB (hwW.at 0 rfl) l3 (hcC.l l6 10 rfl) (hcC.l l6 16 rfl) @hg @hd
    ·have l1 := hcC.l hbB 1 rfl; have l3 := hcC.l l1 3 rfl; have l4 := hcC.l l3 4 rfl; have l5 := hcC.l l4 5 rfl; have l6 := hcC.l l5 6 rfl; exact Ds5 hbB l1 (hcC.l l6 10 rfl) (hcC.l l6 16 rfl) @hg @hd
   simp only [List.length_cons, List.length_nil, Nat.reduceAdd, Nat.reduceLT, decide_true, if_true]
   refine Dd0 ?_
   refine TW_cond rfl (fun hc => ?_) (fun hc => absurd hc (by simp))
   refine Dd0 ?_
   (refine ⟨by simp, ?_⟩; simp only [go_sem, Try.results23])
   have : mayB l = false := mayB_false hlt (by unfold mayG; rw [decide_eq_false (by omega), Bool.false_and])
   simp [semM, this]
  ·have hd : decide (l.getD i 0 < 1) = false := decide_eq_false h
   refine Dd0 ?_
   refine TW_sub (Sub_bl 1) ?_
   refine TW_open mixed (by kernel_rfl) (fun b => ⟨[.junk, .ptr 1 0, .bool false, .int .i64 (↑i : Int), .int .i64 (↑i : Int), .ptr 1 1, .sl f (ints l), .int .i64 (↑l.length : Int), .bool (decide ((↑i : Int) < (↑l.length : Int))), .junk, .junk, if b 0 = true then .ptr 1 1 else .junk, if b 1 = true then .sl f (ints l) else .junk, if b 2 = true then .int .i64 (↑i : Int) else .junk, if b 3 = true then .cptr [.int .i64 (l.getD i 0)] else .junk, if b 4 = true then .int .i64 (l.getD i 0) else .junk, if b 5 = true then .bool false else .junk, if b 6 = true then .bool false else .junk, if b 7 = true then .ptr 1 1 else .junk, if b 8 = true then .sl f (ints l) else .junk, if b 9 = true then .int .i64 (↑i : Int) else .junk, if b 10 = true then .sl false (ints (List.drop (Int.toNat 0) (List.take i l))) else .junk, if b 11 = true then .ptr 1 1 else .junk, if b 12 = true then .sl f (ints l) else .junk, if b 13 = true then .int .i64 (↑i : Int) else .junk, if b 14 = true then .cptr [.int .i64 (l.getD i 0)] else .junk, if b 15 = true then .int .i64 (l.getD i 0) else .junk, if b 16 = true then .bool ((List.take i l).contains (l.getD i 0)) else .junk, if b 17 = true then .bool ((List.take i l).contains (l.getD i 0)) else .junk, .junk, .junk, .junk, .junk, .junk, .junk, .junk, .junk, .junk, .junk, .junk, .junk, .junk, .junk, .junk, .junk, .junk, .junk, .junk], [.un, .box [.int .i64 c, .sl f (ints l)], .un, .un, .un, .un, .un, .un, .un, .un, .un, .un, .un, .un, .un, .un, .un, .un, .un, .un, .un, .un, .un, .un, .un, .un, .un, .un, .un, .un, .un, .un, .un, .un, .un, .un, .un, .un, .un, .un, .un, .un, .un, .un, .un, .un, .un, .un], 0⟩) rfl ?_ ?_
   ·skip
    (repeat refine Di ?_ (fun b hwW hbB hcC => ?_)); (exact trivial)
    ·have w16 := hwW.at 16 rfl; exact Ds5 hbB (hwW.at 6 rfl) ((hcC 16 _ rfl w16).at 10 rfl) w16 @hg @hd
    ·exact Dksc6 hbB (hwW.at 6 rfl) (hwW.at 10 rfl) (hwW.at 15 rfl) (hcC.l hbB 17 rfl) @hg @hd (in_spec false (l.take i) (l.getD i 0) (by simp; omega))
    ·exact Ds5 hbB (hwW.at 6 rfl) (hwW.at 14 rfl) (hcC.l hbB 16 rfl) @hg @hd
    ·have l15 := hcC.l hbB 15 rfl; exact Ds7 hbB (hwW.at 6 rfl) (hwW.at 12 rfl) (hwW.at 13 rfl) l15 (hcC.l l15 16 rfl) @hg @hd
    ·have l14 := hcC.l hbB 14 rfl; have l15 := hcC.l l14 15 rfl; exact Ds5 hbB (hwW.at 6 rfl) l14 (hcC.l l15 16 rfl) @hg @hd
    ·have l14 := hcC.l hbB 14 rfl; have l15 := hcC.l l14 15 rfl; exact Ds6 hbB (hwW.at 6 rfl) (hwW.at 11 rfl) l14 (hcC.l l15 16 rfl) @hg @hd
    ·have l12 := hcC.l hbB 12 rfl; have l14 := hcC.l l12 14 rfl; have l15 := hcC.l l14 15 rfl; exact Ds5 hbB (hwW.at 6 rfl) l12 (hcC.l l15 16 rfl) @hg @hd
    ·exact Ds6 hbB (hwW.at 6 rfl) (hwW.at 8 rfl) (hwW.at 9 rfl) (hcC.l hbB 16 rfl) @hg @hd
    ·have l10 := hcC.l hbB 10 rfl; exact Ds5 hbB (hwW.at 6 rfl) l10 (hcC.l l10 16 rfl) @hg @hd
    ·have l10 := hcC.l hbB 10 rfl; exact Ds6 hbB (hwW.at 6 rfl) (hwW.at 7 rfl) l10 (hcC.l l10 16 rfl) @hg @hd
    ·have l8 := hcC.l hbB 8 rfl; have l10 := hcC.l l8 10 rfl; exact Ds6 hbB (hwW.at 6 rfl) l8 l10 (hcC.l l10 16 rfl) @hg @hd
    ·exact Ds14 hbB (hwW.at 5 rfl) (hcC.l hbB 7 rfl) (hcC.l hbB 8 rfl) (hcC.l hbB 9 rfl) (hcC.l hbB 10 rfl) (hcC.l hbB 11 rfl) (hcC.l hbB 12 rfl) (hcC.l hbB 13 rfl) (hcC.l hbB 14 rfl) (hcC.l hbB 15 rfl) (hcC.l hbB 16 rfl) (hcC.l hbB 17 rfl) @hg @hd
    ·have l6 := hcC.l hbB 6 rfl; exact Ds6 hbB (hwW.at 4 rfl) l6 (hcC.l l6 10 rfl) (hcC.l l6 16 rfl) @hg @hd
    ·have l5 := hcC.l hbB 5 rfl; have l6 := hcC.l l5 6 rfl; exact Ds6 hbB (hwW.at 3 rfl) l5 (hcC.l l6 10 rfl) (hcC.l l6 16 rfl) @hg @hd
    ·have l4 := hcC.l hbB 4 rfl; have l5 := hcC.l l4 5 rfl; have l6 := hcC.l l5 6 rfl; exact Ds7 hbB (hwW.at 1 rfl) (hwW.at 2 rfl) l4 (hcC.l l6 10 rfl) (hcC.l l6 16 rfl) @hg @hd
    ·have l3 := hcC.l hbB 3 rfl; have l4 := hcC.l l3 4 rfl; have l5 := hcC.l l4 5 rfl; have l6 := hcC.l l5 6 rfl; exact Ds5 hbB l3 (hcC.l l6 10 rfl) (hcC.l l6 16 rfl) @hg @hd
    ·have l3 := hcC.l hbB 3 rfl; have l4 := hcC.l l3 4 rfl; have l5 := hcC.l l4 5 rfl; have l6 := hcC.l l5 6 rfl; exact Ds6 hbB (hwW.at 0 rfl) l3 (hcC.l l6 10 rfl) (hcC.l l6 16 rfl) @hg @hd
    ·have l1 := hcC.l hbB 1 rfl; have l3 := hcC.l l1 3 rfl; have l4 := hcC.l l3 4 rfl; have l5 := hcC.l l4 5 rfl; have l6 := hcC.l l5 6 rfl; exact Ds5 hbB l1 (hcC.l l6 10 rfl) (hcC.l l6 16 rfl) @hg @hd
   simp only [List.length_cons, List.length_nil, Nat.reduceAdd, Nat.reduceLT, decide_true, if_true]
   refine Dd0 ?_
   refine TW_cond rfl (fun hc => ?_) (fun hc => ?_)
   ·refine Dd0 ?_
    (refine ⟨by simp, ?_⟩; simp only [go_sem, Try.results23])
    have : mayB l = false := mayB_false hlt (by unfold mayG; rw [hc, Bool.not_true, Bool.and_false])
    simp [semM, this]
   ·refine Dd1 @hw ?_
    have hx' := mayG_grow hx (by unfold mayG; rw [decide_eq_true (by omega), hc]; rfl)
    exact ⟨_, _, by omega, ⟨i + 1, by omega, hx', rfl, rfl⟩, Sub_bl 536870897⟩
 ·have hm : mayB l = true := mayB_true (by simp at hc; omega) hx
  by_cases h0 : 0 ≤ c
  ·have d0 : decide (c ≥ 0) = true := decide_eq_true h0
   by_cases h1 : c ≤ 1000000
   ·have d1 : decide (c ≤ 1000000) = true := decide_eq_true h1
    by_cases h2 : c = 0
    ·have d2 : decide (c = 0) = true := decide_eq_true h2
     refine Dd3 @d0 @d1 @d2 ?_
     (refine ⟨by simp, ?_⟩; simp only [go_sem, Try.results23])
     simp [semM, hm, h2]
    ·have d2 : decide (c = 0) = false := decide_eq_false h2
     refine Dd3 @d0 @d1 @d2 ?_
     (refine ⟨by simp, ?_⟩; simp only [go_sem, Try.results23])
     simp [semM, hm, h0, h1, h2]
   ·have d1 : decide (c ≤ 1000000) = false := decide_eq_false h1
    refine Dd2 @d0 @d1 ?_
    (refine ⟨by simp, ?_⟩; simp only [go_sem, Try.results23])
    simp [semM, h1]
  ·have d0 : decide (c ≥ 0) = false := decide_eq_false h0
   refine Dd1 @d0 ?_
   (refine ⟨by simp, ?_⟩; simp only [go_sem, Try.results23])
   simp [semM, h0]
def mails (l : List (Int × Int)) : List (List AV) := l.map fun m => [.int .i64 m.1, .int .i64 m.2]
theorem mails_len (l : List (Int × Int)) : (mails l).length = l.length := by simp [mails]
theorem mails_2 (l : List (Int × Int)) : ∀ y ∈ mails l, y.length = 2 := by
 intro y hy
 simp only [mails, List.mem_map] at hy
 obtain ⟨m, _, rfl⟩ := hy
 rfl
theorem mails_nil (l : List (Int × Int)) : (mails l = []) = (l = []) := by simp [mails]
theorem mails_drop (l : List (Int × Int)) (k : Nat) : (mails l).drop k = mails (l.drop k) := by simp [mails]
theorem mails_take (l : List (Int × Int)) (k : Nat) : (mails l).take k = mails (l.take k) := by simp [mails]
theorem mails_snoc (l : List (Int × Int)) (g n : Int) : mails l ++ [[.int .i64 g, .int .i64 n]] = mails (l ++ [(g, n)]) := by simp [mails]
theorem mails_get (l : List (Int × Int)) (n : Nat) (h : n < l.length) : (mails l).getD n [] = [.int .i64 (l.getD n (0, 0)).1, .int .i64 (l.getD n (0, 0)).2] := by
 simp [mails, List.getD_eq_getElem?_getD, List.getElem?_eq_getElem h]
attribute [local go_sem] mails_len mails_nil mails_drop mails_take mails_snoc
theorem cloneN_spec (f : Bool) (l : List Int) (hl : l.length ≤ 1000000) : RetH Try.prog 62 [.sl f (ints l)] [] (.bsl 0) [.arr 2 1 (ints l)] := by
 refine RetA_of_body Try.func62 (by kernel_rfl) rfl ?_; rw [Try.ntmps62]
 by_cases h : l = []
 ·subst h
  repeat (first | ((with_reducible first | refine O1 rfl (fun N hN => ?_) | refine O2 rfl rfl rfl (fun N hN => ?_)); simp only [go_sem]; (try refine Or.inl ?_); (repeat (refine And.intro (by first | omega | ((try simp only [go_sem, List.length_append, lim, lim2]) <;> omega) | assumption | exact ints_1 _ | exact rfl | (simp [ints]; done)) ?_)); (first | refine hN _ ?_ | (intro _ _; refine hN _ ?_)); clear hN N) | with_reducible (first | apply Ea | apply Eb | apply Ec | apply Ed | apply Ee | apply Ef | apply Eg | apply Eh | apply Ei | apply Ej | apply Ek | apply El | apply Em | refine En rfl ?_ | apply Eo | apply Ep | apply Eq1 | apply Er | apply Es) | ((with_reducible first | refine O3 rfl rfl rfl rfl ?_ | refine O4 rfl rfl rfl ?_); simp only [go_sem]))
  refine TW_cond rfl (fun hc => ?_) (fun hc => ?_)
  ·refine Dd0 ?_
   (refine ⟨by simp, ?_⟩; simp only [go_sem, Try.results62])
   exact .inr trivial
  ·refine Dd0 ?_
   (refine ⟨by simp, ?_⟩; simp only [go_sem, Try.results62])
   exact .inl ⟨7, rfl, rfl⟩
 ·refine Dd1 @h ?_
  refine TW_cond rfl (fun hc => absurd hc (by simp)) (fun hc => ?_)
  refine Dd0 ?_
  (refine ⟨by simp, ?_⟩; simp only [go_sem, Try.results62])
  exact .inl ⟨7, rfl, rfl⟩
theorem cloneM_spec (f : Bool) (l : List (Int × Int)) (hl : l.length ≤ 1000000) : RetH Try.prog 63 [.sl f (mails l)] [] (.bsl 0) [.arr 78 2 (mails l)] := by
 refine RetA_of_body Try.func63 (by kernel_rfl) rfl ?_; rw [Try.ntmps63]
 have h2 := mails_2 l
 by_cases h : l = []
 ·subst h
  repeat (first | ((with_reducible first | refine O1 rfl (fun N hN => ?_) | refine O2 rfl rfl rfl (fun N hN => ?_)); simp only [go_sem]; (try refine Or.inl ?_); (repeat (refine And.intro (by first | omega | ((try simp only [go_sem, List.length_append, lim, lim2]) <;> omega) | assumption | exact ints_1 _ | exact rfl | (simp [ints]; done)) ?_)); (first | refine hN _ ?_ | (intro _ _; refine hN _ ?_)); clear hN N) | with_reducible (first | apply Ea | apply Eb | apply Ec | apply Ed | apply Ee | apply Ef | apply Eg | apply Eh | apply Ei | apply Ej | apply Ek | apply El | apply Em | refine En rfl ?_ | apply Eo | apply Ep | apply Eq1 | apply Er | apply Es) | ((with_reducible first | refine O3 rfl rfl rfl rfl ?_ | refine O4 rfl rfl rfl ?_); simp only [go_sem]))
  refine TW_cond rfl (fun hc => ?_) (fun hc => ?_)
  ·refine Dd0 ?_
   (refine ⟨by simp, ?_⟩; simp only [go_sem, Try.results63])
   exact .inr trivial
  ·refine Dd0 ?_
   (refine ⟨by simp, ?_⟩; simp only [go_sem, Try.results63])
   exact .inl ⟨7, rfl, rfl⟩
 ·refine Dd1 @h ?_
  refine TW_cond rfl (fun hc => absurd hc (by simp)) (fun hc => ?_)
  refine Dd0 ?_
  (refine ⟨by simp, ?_⟩; simp only [go_sem, Try.results63])
  exact .inl ⟨7, rfl, rfl⟩
theorem first_spec (f : Bool) (l : List Int) (hl : l.length ≤ 1000000) (h : 0 < l.length) : Ret Try.prog 61 [.sl f (ints l)] (.tup [.int .i64 (l.getD 0 0), .sl false (ints (l.drop 1))]) := by
 refine Ret_of_body Try.func61 (by kernel_rfl) rfl ?_; rw [Try.ntmps61]
 have hg := ints_get l 0 h
 refine Dd0 ?_
 refine TW_sub (Sub_bl 2) ?_
 refine TW_open mixed (by kernel_rfl) (fun b => ⟨[.sl f (ints l), .junk, if b 6 = true then .int .i64 (l.getD 0 0) else .int .i64 0, if b 7 = true then .bsl 9 else .nils, if b 0 = true then .sl f (ints l) else .junk, if b 1 = true then .cptr [.int .i64 (l.getD 0 0)] else .junk, if b 2 = true then .int .i64 (l.getD 0 0) else .junk, if b 3 = true then .sl f (ints l) else .junk, if b 4 = true then .sl false (ints (List.drop 1 (List.take l.length l))) else .junk, if b 5 = true then .bsl 9 else .junk], [.un, .un, .un, .un, .un, .un, .un, .un, .un, if b 5 = true then .arr 3 1 (ints (List.drop 1 l)) else .un], 0⟩) rfl ?_ ?_
 ·skip
  (repeat refine Di ?_ (fun b hwW hbB hcC => ?_)); (exact trivial)
  ·have hbB : b 7 = false := hbB; have w5 := hwW.at 5 rfl; have w6 := hwW.at 6 rfl; have w0 := hwW.at 0 rfl; have w1 := hwW.at 1 rfl; have w2 := hwW.at 2 rfl; have w3 := hwW.at 3 rfl; have w4 := hwW.at 4 rfl; simp only [vGuard, go_sem, hbB, upd, Bool.false_eq_true, w0, w1, w2, w3, w4, w5, w6, Int.toNat_zero, hg, Int.reduceToNat] <;> (try refine Or.inl ?_) <;> (repeat (refine And.intro (by first | omega | ((try simp only [go_sem, List.length_append, lim, lim2]) <;> omega) | assumption | exact ints_1 _ | exact rfl | (simp [ints]; done)) ?_)) <;> (first | rfl | first | omega | ((try simp only [go_sem, List.length_append, lim, lim2]) <;> omega) | assumption | exact ints_1 _ | exact rfl | (simp [ints]; done))
  ·have hbB : b 6 = false := hbB; have w2 := hwW.at 2 rfl; have w5 := hwW.at 5 rfl; have w0 := hwW.at 0 rfl; have w1 := hwW.at 1 rfl; have w4 := (hcC 5 _ rfl w5).at 4 rfl; have l7 := hcC.l hbB 7 rfl; simp only [vGuard, go_sem, hbB, upd, Bool.false_eq_true, w0, w1, w2, w4, w5, l7, Int.toNat_zero, hg, Int.reduceToNat] <;> (try refine Or.inl ?_) <;> (repeat (refine And.intro (by first | omega | ((try simp only [go_sem, List.length_append, lim, lim2]) <;> omega) | assumption | exact ints_1 _ | exact rfl | (simp [ints]; done)) ?_)) <;> (first | rfl | first | omega | ((try simp only [go_sem, List.length_append, lim, lim2]) <;> omega) | assumption | exact ints_1 _ | exact rfl | (simp [ints]; done))
  ·have hbB : b 5 = false := hbB; have w4 := hwW.at 4 rfl; have l6 := hcC.l hbB 6 rfl; have l7 := hcC.l hbB 7 rfl; simp only [vGuard, go_sem, hbB, upd, Bool.false_eq_true, w4, l6, l7, Int.toNat_zero, hg, Int.reduceToNat]; refine vCall.ar _ _ _ _ _ rfl ?dt1 (clone_spec false (l.drop 1) (by simp; omega)) ?da1 ?du1 ?dk1; (case dt1 => (simp only [vGuard, go_sem, hbB, upd, Bool.false_eq_true, w4, l6, l7, Int.toNat_zero, hg, Int.reduceToNat]; done)); (case du1 => (simp only [vGuard, go_sem, hbB, upd, Bool.false_eq_true, w4, l6, l7, Int.toNat_zero, hg, Int.reduceToNat]; done)); (case da1 => (first | (simp only [vGuard, go_sem, hbB, upd, Bool.false_eq_true, w4, l6, l7, Int.toNat_zero, hg, Int.reduceToNat]; done) | (simp only [vGuard, go_sem, hbB, upd, Bool.false_eq_true, w4, l6, l7, Int.toNat_zero, hg, Int.reduceToNat] <;> (first | omega | ((try simp only [go_sem, List.length_append, lim, lim2]) <;> omega) | assumption | exact ints_1 _ | exact rfl | (simp [ints]; done))) | (simp [ints]; done))); (case dk1 => (simp only [vGuard, go_sem, hbB, upd, Bool.false_eq_true, w4, l6, l7, Int.toNat_zero, hg, Int.reduceToNat] <;> rfl))
  ·have hbB : b 4 = false := hbB; have w3 := hwW.at 3 rfl; have l5 := hcC.l hbB 5 rfl; have l7 := hcC.l hbB 7 rfl; simp only [vGuard, go_sem, hbB, upd, Bool.false_eq_true, w3, l5, l7, Int.toNat_zero, hg, Int.reduceToNat] <;> (try refine Or.inl ?_) <;> (repeat (refine And.intro (by first | omega | ((try simp only [go_sem, List.length_append, lim, lim2]) <;> omega) | assumption | exact ints_1 _ | exact rfl | (simp [ints]; done)) ?_)) <;> (first | rfl | first | omega | ((try simp only [go_sem, List.length_append, lim, lim2]) <;> omega) | assumption | exact ints_1 _ | exact rfl | (simp [ints]; done))
  ·have hbB : b 3 = false := hbB; have l4 := hcC.l hbB 4 rfl; have l5 := hcC.l l4 5 rfl; have l7 := hcC.l hbB 7 rfl; simp only [vGuard, go_sem, hbB, upd, Bool.false_eq_true, l4, l5, l7, Int.toNat_zero, hg, Int.reduceToNat] <;> (try refine Or.inl ?_) <;> (repeat (refine And.intro (by first | omega | ((try simp only [go_sem, List.length_append, lim, lim2]) <;> omega) | assumption | exact ints_1 _ | exact rfl | (simp [ints]; done)) ?_)) <;> (first | rfl | first | omega | ((try simp only [go_sem, List.length_append, lim, lim2]) <;> omega) | assumption | exact ints_1 _ | exact rfl | (simp [ints]; done))
  ·have hbB : b 2 = false := hbB; have w1 := hwW.at 1 rfl; have l6 := hcC.l hbB 6 rfl; have l7 := hcC.l hbB 7 rfl; simp only [vGuard, go_sem, hbB, upd, Bool.false_eq_true, w1, l6, l7, Int.toNat_zero, hg, Int.reduceToNat] <;> (try refine Or.inl ?_) <;> (repeat (refine And.intro (by first | omega | ((try simp only [go_sem, List.length_append, lim, lim2]) <;> omega) | assumption | exact ints_1 _ | exact rfl | (simp [ints]; done)) ?_)) <;> (first | rfl | first | omega | ((try simp only [go_sem, List.length_append, lim, lim2]) <;> omega) | assumption | exact ints_1 _ | exact rfl | (simp [ints]; done))
  ·have hbB : b 1 = false := hbB; have w0 := hwW.at 0 rfl; have l2 := hcC.l hbB 2 rfl; have l6 := hcC.l hbB 6 rfl; have l7 := hcC.l hbB 7 rfl; simp only [vGuard, go_sem, hbB, upd, Bool.false_eq_true, w0, l2, l6, l7, Int.toNat_zero, hg, Int.reduceToNat] <;> (try refine Or.inl ?_) <;> (repeat (refine And.intro (by first | omega | ((try simp only [go_sem, List.length_append, lim, lim2]) <;> omega) | assumption | exact ints_1 _ | exact rfl | (simp [ints]; done)) ?_)) <;> (first | rfl | first | omega | ((try simp only [go_sem, List.length_append, lim, lim2]) <;> omega) | assumption | exact ints_1 _ | exact rfl | (simp [ints]; done))
  ·have hbB : b 0 = false := hbB; have l1 := hcC.l hbB 1 rfl; have l6 := hcC.l hbB 6 rfl; have l7 := hcC.l hbB 7 rfl; simp only [vGuard, go_sem, hbB, upd, Bool.false_eq_true, l1, l6, l7, Int.toNat_zero, hg, Int.reduceToNat] <;> (try refine Or.inl ?_) <;> (repeat (refine And.intro (by first | omega | ((try simp only [go_sem, List.length_append, lim, lim2]) <;> omega) | assumption | exact ints_1 _ | exact rfl | (simp [ints]; done)) ?_)) <;> (first | rfl | first | omega | ((try simp only [go_sem, List.length_append, lim, lim2]) <;> omega) | assumption | exact ints_1 _ | exact rfl | (simp [ints]; done))
 simp only [List.length_cons, List.length_nil, Nat.reduceAdd, Nat.reduceLT, decide_true, if_true]
 refine Dd0 ?_
 (refine ⟨by simp, ?_⟩; simp only [go_sem, Try.results61])
theorem firstN_spec (f : Bool) (l : List Int) (hl : l.length ≤ 1000000) (h : 0 < l.length) : Ret Try.prog 65 [.sl f (ints l)] (.tup [.int .i64 (l.getD 0 0), .sl false (ints (l.drop 1))]) := by
 refine Ret_of_body Try.func65 (by kernel_rfl) rfl ?_; rw [Try.ntmps65]
 have hg := ints_get l 0 h
 refine Dd0 ?_
 refine TW_sub (Sub_bl 2) ?_
 refine TW_open mixed (by kernel_rfl) (fun b => ⟨[.sl f (ints l), .junk, if b 6 = true then .int .i64 (l.getD 0 0) else .int .i64 0, if b 7 = true then .bsl 9 else .nils, if b 0 = true then .sl f (ints l) else .junk, if b 1 = true then .cptr [.int .i64 (l.getD 0 0)] else .junk, if b 2 = true then .int .i64 (l.getD 0 0) else .junk, if b 3 = true then .sl f (ints l) else .junk, if b 4 = true then .sl false (ints (List.drop 1 (List.take l.length l))) else .junk, if b 5 = true then .bsl 9 else .junk], [.un, .un, .un, .un, .un, .un, .un, .un, .un, if b 5 = true then .arr 2 1 (ints (List.drop 1 l)) else .un], 0⟩) rfl ?_ ?_
 ·skip
  (repeat refine Di ?_ (fun b hwW hbB hcC => ?_)); (exact trivial)
  ·have hbB : b 7 = false := hbB; have w5 := hwW.at 5 rfl; have w6 := hwW.at 6 rfl; have w0 := hwW.at 0 rfl; have w1 := hwW.at 1 rfl; have w2 := hwW.at 2 rfl; have w3 := hwW.at 3 rfl; have w4 := hwW.at 4 rfl; simp only [vGuard, go_sem, hbB, upd, Bool.false_eq_true, w0, w1, w2, w3, w4, w5, w6, Int.toNat_zero, hg, Int.reduceToNat] <;> (try refine Or.inl ?_) <;> (repeat (refine And.intro (by first | omega | ((try simp only [go_sem, List.length_append, lim, lim2]) <;> omega) | assumption | exact ints_1 _ | exact rfl | (simp [ints]; done)) ?_)) <;> (first | rfl | first | omega | ((try simp only [go_sem, List.length_append, lim, lim2]) <;> omega) | assumption | exact ints_1 _ | exact rfl | (simp [ints]; done))
  ·have hbB : b 6 = false := hbB; have w2 := hwW.at 2 rfl; have w5 := hwW.at 5 rfl; have w0 := hwW.at 0 rfl; have w1 := hwW.at 1 rfl; have w4 := (hcC 5 _ rfl w5).at 4 rfl; have l7 := hcC.l hbB 7 rfl; simp only [vGuard, go_sem, hbB, upd, Bool.false_eq_true, w0, w1, w2, w4, w5, l7, Int.toNat_zero, hg, Int.reduceToNat] <;> (try refine Or.inl ?_) <;> (repeat (refine And.intro (by first | omega | ((try simp only [go_sem, List.length_append, lim, lim2]) <;> omega) | assumption | exact ints_1 _ | exact rfl | (simp [ints]; done)) ?_)) <;> (first | rfl | first | omega | ((try simp only [go_sem, List.length_append, lim, lim2]) <;> omega) | assumption | exact ints_1 _ | exact rfl | (simp [ints]; done))
  ·have hbB : b 5 = false := hbB; have w4 := hwW.at 4 rfl; have l6 := hcC.l hbB 6 rfl; have l7 := hcC.l hbB 7 rfl; simp only [vGuard, go_sem, hbB, upd, Bool.false_eq_true, w4, l6, l7, Int.toNat_zero, hg, Int.reduceToNat]; refine vCall.ar _ _ _ _ _ rfl ?dt2 (cloneN_spec false (l.drop 1) (by simp; omega)) ?da2 ?du2 ?dk2; (case dt2 => (simp only [vGuard, go_sem, hbB, upd, Bool.false_eq_true, w4, l6, l7, Int.toNat_zero, hg, Int.reduceToNat]; done)); (case du2 => (simp only [vGuard, go_sem, hbB, upd, Bool.false_eq_true, w4, l6, l7, Int.toNat_zero, hg, Int.reduceToNat]; done)); (case da2 => (first | (simp only [vGuard, go_sem, hbB, upd, Bool.false_eq_true, w4, l6, l7, Int.toNat_zero, hg, Int.reduceToNat]; done) | (simp only [vGuard, go_sem, hbB, upd, Bool.false_eq_true, w4, l6, l7, Int.toNat_zero, hg, Int.reduceToNat] <;> (first | omega | ((try simp only [go_sem, List.length_append, lim, lim2]) <;> omega) | assumption | exact ints_1 _ | exact rfl | (simp [ints]; done))) | (simp [ints]; done))); (case dk2 => (simp only [vGuard, go_sem, hbB, upd, Bool.false_eq_true, w4, l6, l7, Int.toNat_zero, hg, Int.reduceToNat] <;> rfl))
  ·have hbB : b 4 = false := hbB; have w3 := hwW.at 3 rfl; have l5 := hcC.l hbB 5 rfl; have l7 := hcC.l hbB 7 rfl; simp only [vGuard, go_sem, hbB, upd, Bool.false_eq_true, w3, l5, l7, Int.toNat_zero, hg, Int.reduceToNat] <;> (try refine Or.inl ?_) <;> (repeat (refine And.intro (by first | omega | ((try simp only [go_sem, List.length_append, lim, lim2]) <;> omega) | assumption | exact ints_1 _ | exact rfl | (simp [ints]; done)) ?_)) <;> (first | rfl | first | omega | ((try simp only [go_sem, List.length_append, lim, lim2]) <;> omega) | assumption | exact ints_1 _ | exact rfl | (simp [ints]; done))
  ·have hbB : b 3 = false := hbB; have l4 := hcC.l hbB 4 rfl; have l5 := hcC.l l4 5 rfl; have l7 := hcC.l hbB 7 rfl; simp only [vGuard, go_sem, hbB, upd, Bool.false_eq_true, l4, l5, l7, Int.toNat_zero, hg, Int.reduceToNat] <;> (try refine Or.inl ?_) <;> (repeat (refine And.intro (by first | omega | ((try simp only [go_sem, List.length_append, lim, lim2]) <;> omega) | assumption | exact ints_1 _ | exact rfl | (simp [ints]; done)) ?_)) <;> (first | rfl | first | omega | ((try simp only [go_sem, List.length_append, lim, lim2]) <;> omega) | assumption | exact ints_1 _ | exact rfl | (simp [ints]; done))
  ·have hbB : b 2 = false := hbB; have w1 := hwW.at 1 rfl; have l6 := hcC.l hbB 6 rfl; have l7 := hcC.l hbB 7 rfl; simp only [vGuard, go_sem, hbB, upd, Bool.false_eq_true, w1, l6, l7, Int.toNat_zero, hg, Int.reduceToNat] <;> (try refine Or.inl ?_) <;> (repeat (refine And.intro (by first | omega | ((try simp only [go_sem, List.length_append, lim, lim2]) <;> omega) | assumption | exact ints_1 _ | exact rfl | (simp [ints]; done)) ?_)) <;> (first | rfl | first | omega | ((try simp only [go_sem, List.length_append, lim, lim2]) <;> omega) | assumption | exact ints_1 _ | exact rfl | (simp [ints]; done))
  ·have hbB : b 1 = false := hbB; have w0 := hwW.at 0 rfl; have l2 := hcC.l hbB 2 rfl; have l6 := hcC.l hbB 6 rfl; have l7 := hcC.l hbB 7 rfl; simp only [vGuard, go_sem, hbB, upd, Bool.false_eq_true, w0, l2, l6, l7, Int.toNat_zero, hg, Int.reduceToNat] <;> (try refine Or.inl ?_) <;> (repeat (refine And.intro (by first | omega | ((try simp only [go_sem, List.length_append, lim, lim2]) <;> omega) | assumption | exact ints_1 _ | exact rfl | (simp [ints]; done)) ?_)) <;> (first | rfl | first | omega | ((try simp only [go_sem, List.length_append, lim, lim2]) <;> omega) | assumption | exact ints_1 _ | exact rfl | (simp [ints]; done))
  ·have hbB : b 0 = false := hbB; have l1 := hcC.l hbB 1 rfl; have l6 := hcC.l hbB 6 rfl; have l7 := hcC.l hbB 7 rfl; simp only [vGuard, go_sem, hbB, upd, Bool.false_eq_true, l1, l6, l7, Int.toNat_zero, hg, Int.reduceToNat] <;> (try refine Or.inl ?_) <;> (repeat (refine And.intro (by first | omega | ((try simp only [go_sem, List.length_append, lim, lim2]) <;> omega) | assumption | exact ints_1 _ | exact rfl | (simp [ints]; done)) ?_)) <;> (first | rfl | first | omega | ((try simp only [go_sem, List.length_append, lim, lim2]) <;> omega) | assumption | exact ints_1 _ | exact rfl | (simp [ints]; done))
 simp only [List.length_cons, List.length_nil, Nat.reduceAdd, Nat.reduceLT, decide_true, if_true]
 refine Dd0 ?_
 (refine ⟨by simp, ?_⟩; simp only [go_sem, Try.results65])
theorem firstM_spec (f : Bool) (l : List (Int × Int)) (hl : l.length ≤ 1000000) (h : 0 < l.length) : Ret Try.prog 64 [.sl f (mails l)] (.tup [.agg [.int .i64 (l.getD 0 (0, 0)).1, .int .i64 (l.getD 0 (0, 0)).2], .sl false (mails (l.drop 1))]) := by
 refine Ret_of_body Try.func64 (by kernel_rfl) rfl ?_; rw [Try.ntmps64]
 have hg := mails_get l 0 h
 have h2 := mails_2 l
 refine Dd0 ?_
 refine TW_sub (Sub_bl 2) ?_
 refine TW_open mixed (by kernel_rfl) (fun b => ⟨[.sl f (mails l), .junk, .ptr 2 0, if b 7 = true then .bsl 9 else .nils, if b 0 = true then .sl f (mails l) else .junk, if b 1 = true then .cptr [.int .i64 (l.getD 0 (0, 0)).fst, .int .i64 (l.getD 0 (0, 0)).snd] else .junk, if b 2 = true then .agg [.int .i64 (l.getD 0 (0, 0)).fst, .int .i64 (l.getD 0 (0, 0)).snd] else .junk, if b 3 = true then .sl f (mails l) else .junk, if b 4 = true then .sl false (mails (List.drop 1 (List.take l.length l))) else .junk, if b 5 = true then .bsl 9 else .junk], [.un, .un, if b 6 = true then .box [.int .i64 (l.getD 0 (0, 0)).fst, .int .i64 (l.getD 0 (0, 0)).snd] else .box [.int .i64 0, .int .i64 0], .un, .un, .un, .un, .un, .un, if b 5 = true then .arr 78 2 (mails (List.drop 1 l)) else .un], 0⟩) rfl ?_ ?_
 ·skip
  (repeat refine Di ?_ (fun b hwW hbB hcC => ?_)); (exact trivial)
  ·have hbB : b 7 = false := hbB; have w5 := hwW.at 5 rfl; have w6 := hwW.at 6 rfl; have w0 := hwW.at 0 rfl; have w1 := hwW.at 1 rfl; have w2 := hwW.at 2 rfl; have w3 := hwW.at 3 rfl; have w4 := hwW.at 4 rfl; simp only [vGuard, go_sem, hbB, upd, Bool.false_eq_true, w0, w1, w2, w3, w4, w5, w6, Int.toNat_zero, hg, Int.reduceToNat] <;> (try refine Or.inl ?_) <;> (repeat (refine And.intro (by first | omega | ((try simp only [go_sem, List.length_append, lim, lim2]) <;> omega) | assumption | exact ints_1 _ | exact rfl | (simp [ints]; done)) ?_)) <;> (first | rfl | first | omega | ((try simp only [go_sem, List.length_append, lim, lim2]) <;> omega) | assumption | exact ints_1 _ | exact rfl | (simp [ints]; done))
  ·have hbB : b 6 = false := hbB; have w2 := hwW.at 2 rfl; have w5 := hwW.at 5 rfl; have w0 := hwW.at 0 rfl; have w1 := hwW.at 1 rfl; have w4 := (hcC 5 _ rfl w5).at 4 rfl; have l7 := hcC.l hbB 7 rfl; simp only [vGuard, go_sem, hbB, upd, Bool.false_eq_true, w0, w1, w2, w4, w5, l7, Int.toNat_zero, hg, Int.reduceToNat] <;> (try refine Or.inl ?_) <;> (repeat (refine And.intro (by first | omega | ((try simp only [go_sem, List.length_append, lim, lim2]) <;> omega) | assumption | exact ints_1 _ | exact rfl | (simp [ints]; done)) ?_)) <;> (first | rfl | first | omega | ((try simp only [go_sem, List.length_append, lim, lim2]) <;> omega) | assumption | exact ints_1 _ | exact rfl | (simp [ints]; done))
  ·have hbB : b 5 = false := hbB; have w4 := hwW.at 4 rfl; have l6 := hcC.l hbB 6 rfl; have l7 := hcC.l hbB 7 rfl; simp only [vGuard, go_sem, hbB, upd, Bool.false_eq_true, w4, l6, l7, Int.toNat_zero, hg, Int.reduceToNat]; refine vCall.ar _ _ _ _ _ rfl ?dt3 (cloneM_spec false (l.drop 1) (by simp; omega)) ?da3 ?du3 ?dk3; (case dt3 => (simp only [vGuard, go_sem, hbB, upd, Bool.false_eq_true, w4, l6, l7, Int.toNat_zero, hg, Int.reduceToNat]; done)); (case du3 => (simp only [vGuard, go_sem, hbB, upd, Bool.false_eq_true, w4, l6, l7, Int.toNat_zero, hg, Int.reduceToNat]; done)); (case da3 => (first | (simp only [vGuard, go_sem, hbB, upd, Bool.false_eq_true, w4, l6, l7, Int.toNat_zero, hg, Int.reduceToNat]; done) | (simp only [vGuard, go_sem, hbB, upd, Bool.false_eq_true, w4, l6, l7, Int.toNat_zero, hg, Int.reduceToNat] <;> (first | omega | ((try simp only [go_sem, List.length_append, lim, lim2]) <;> omega) | assumption | exact ints_1 _ | exact rfl | (simp [ints]; done))) | (simp [ints]; done))); (case dk3 => (simp only [vGuard, go_sem, hbB, upd, Bool.false_eq_true, w4, l6, l7, Int.toNat_zero, hg, Int.reduceToNat] <;> rfl))
  ·have hbB : b 4 = false := hbB; have w3 := hwW.at 3 rfl; have l5 := hcC.l hbB 5 rfl; have l6 := hcC.l l5 6 rfl; have l7 := hcC.l hbB 7 rfl; simp only [vGuard, go_sem, hbB, upd, Bool.false_eq_true, w3, l5, l6, l7, Int.toNat_zero, hg, Int.reduceToNat] <;> (try refine Or.inl ?_) <;> (repeat (refine And.intro (by first | omega | ((try simp only [go_sem, List.length_append, lim, lim2]) <;> omega) | assumption | exact ints_1 _ | exact rfl | (simp [ints]; done)) ?_)) <;> (first | rfl | first | omega | ((try simp only [go_sem, List.length_append, lim, lim2]) <;> omega) | assumption | exact ints_1 _ | exact rfl | (simp [ints]; done))
  ·have hbB : b 3 = false := hbB; have l4 := hcC.l hbB 4 rfl; have l5 := hcC.l l4 5 rfl; have l6 := hcC.l l5 6 rfl; have l7 := hcC.l hbB 7 rfl; simp only [vGuard, go_sem, hbB, upd, Bool.false_eq_true, l4, l5, l6, l7, Int.toNat_zero, hg, Int.reduceToNat] <;> (try refine Or.inl ?_) <;> (repeat (refine And.intro (by first | omega | ((try simp only [go_sem, List.length_append, lim, lim2]) <;> omega) | assumption | exact ints_1 _ | exact rfl | (simp [ints]; done)) ?_)) <;> (first | rfl | first | omega | ((try simp only [go_sem, List.length_append, lim, lim2]) <;> omega) | assumption | exact ints_1 _ | exact rfl | (simp [ints]; done))
  ·have hbB : b 2 = false := hbB; have w1 := hwW.at 1 rfl; have l6 := hcC.l hbB 6 rfl; have l7 := hcC.l hbB 7 rfl; simp only [vGuard, go_sem, hbB, upd, Bool.false_eq_true, w1, l6, l7, Int.toNat_zero, hg, Int.reduceToNat] <;> (try refine Or.inl ?_) <;> (repeat (refine And.intro (by first | omega | ((try simp only [go_sem, List.length_append, lim, lim2]) <;> omega) | assumption | exact ints_1 _ | exact rfl | (simp [ints]; done)) ?_)) <;> (first | rfl | first | omega | ((try simp only [go_sem, List.length_append, lim, lim2]) <;> omega) | assumption | exact ints_1 _ | exact rfl | (simp [ints]; done))
  ·have hbB : b 1 = false := hbB; have w0 := hwW.at 0 rfl; have l2 := hcC.l hbB 2 rfl; have l6 := hcC.l hbB 6 rfl; have l7 := hcC.l hbB 7 rfl; simp only [vGuard, go_sem, hbB, upd, Bool.false_eq_true, w0, l2, l6, l7, Int.toNat_zero, hg, Int.reduceToNat] <;> (try refine Or.inl ?_) <;> (repeat (refine And.intro (by first | omega | ((try simp only [go_sem, List.length_append, lim, lim2]) <;> omega) | assumption | exact ints_1 _ | exact rfl | (simp [ints]; done)) ?_)) <;> (first | rfl | first | omega | ((try simp only [go_sem, List.length_append, lim, lim2]) <;> omega) | assumption | exact ints_1 _ | exact rfl | (simp [ints]; done))
  ·have hbB : b 0 = false := hbB; have l1 := hcC.l hbB 1 rfl; have l6 := hcC.l hbB 6 rfl; have l7 := hcC.l hbB 7 rfl; simp only [vGuard, go_sem, hbB, upd, Bool.false_eq_true, l1, l6, l7, Int.toNat_zero, hg, Int.reduceToNat] <;> (try refine Or.inl ?_) <;> (repeat (refine And.intro (by first | omega | ((try simp only [go_sem, List.length_append, lim, lim2]) <;> omega) | assumption | exact ints_1 _ | exact rfl | (simp [ints]; done)) ?_)) <;> (first | rfl | first | omega | ((try simp only [go_sem, List.length_append, lim, lim2]) <;> omega) | assumption | exact ints_1 _ | exact rfl | (simp [ints]; done))
 simp only [List.length_cons, List.length_nil, Nat.reduceAdd, Nat.reduceLT, decide_true, if_true]
 refine Dd0 ?_
 (refine ⟨by simp, ?_⟩; simp only [go_sem, Try.results64])
theorem send1_spec (r : Int) (m : List Int) (s : List (Int × Int)) (w : List Int) (g n : Int) (hm : m.length ≤ 999999) (hs : s.length ≤ 1000000) (hw : w.length ≤ 1000000) (h : 0 < w.length) : Ret Try.prog 57 [.agg [.int .i64 r, .sl false (ints m), .sl false (mails s), .sl false (ints w)], .int .i64 g, .int .i64 n] (.tup [.agg [.int .i64 r, .sl false (ints m), .sl false (mails s), .sl false (ints (w.drop 1))], .int .i64 (w.getD 0 0), .bool true]) := by
 refine Ret_of_body Try.func57 (by kernel_rfl) rfl ?_; rw [Try.ntmps57]
 refine Dd0 ?_
 refine TW_cond rfl (fun hc => ?_) (fun hc => ?_)
 ·refine Dd0 ?_
  refine Dpu0 (first_spec false w hw h) ?_
  refine Dd0 ?_
  (refine ⟨by simp, ?_⟩; simp only [go_sem, Try.results57])
 ·have : w = [] := by simpa using hc
  simp [this] at h
theorem send2_spec (r : Int) (m : List Int) (s : List (Int × Int)) (w : List Int) (g n : Int) (hm : m.length ≤ 999999) (hs : s.length ≤ 1000000) (hw : w.length ≤ 1000000) (h : w = []) (h2 : (m.length : Int) < r) : Ret Try.prog 57 [.agg [.int .i64 r, .sl false (ints m), .sl false (mails s), .sl false (ints w)], .int .i64 g, .int .i64 n] (.tup [.agg [.int .i64 r, .sl false (ints (m ++ [n])), .sl false (mails s), .sl false (ints [])], .int .i64 0, .bool true]) := by
 subst h
 refine Ret_of_body Try.func57 (by kernel_rfl) rfl ?_; rw [Try.ntmps57]
 refine Dd0 ?_
 refine TW_cond rfl (fun hc => ?_) (fun hc => ?_)
 ·simp at hc
 ·refine Dd0 ?_
  refine TW_cond rfl (fun hc => ?_) (fun hc => ?_)
  ·refine Dd0 ?_
   refine Dar0 (cloneN_spec false m (by omega)) ?_
   refine Dd0 ?_
   (refine ⟨by simp, ?_⟩; simp only [go_sem, Try.results57])
  ·simp at hc; omega
theorem send3_spec (r : Int) (m : List Int) (s : List (Int × Int)) (w : List Int) (g n : Int) (hm : m.length ≤ 999999) (hs : s.length ≤ 1000000) (hw : w.length ≤ 1000000) (h : w = []) (h2 : ¬ (m.length : Int) < r) : Ret Try.prog 57 [.agg [.int .i64 r, .sl false (ints m), .sl false (mails s), .sl false (ints w)], .int .i64 g, .int .i64 n] (.tup [.agg [.int .i64 r, .sl false (ints m), .sl false (mails (s ++ [(g, n)])), .sl false (ints [])], .int .i64 0, .bool false]) := by
 subst h
 have hm2 := mails_2 s
 refine Ret_of_body Try.func57 (by kernel_rfl) rfl ?_; rw [Try.ntmps57]
 refine Dd0 ?_
 refine TW_cond rfl (fun hc => ?_) (fun hc => ?_)
 ·simp at hc
 ·refine Dd0 ?_
  refine TW_cond rfl (fun hc => ?_) (fun hc => ?_)
  ·simp at hc; omega
  ·refine Dd0 ?_
   refine Dar0 (cloneM_spec false s hs) ?_
   refine Dd0 ?_
   (refine ⟨by simp, ?_⟩; simp only [go_sem, Try.results57])
theorem recv1_spec (r : Int) (m : List Int) (s : List (Int × Int)) (w : List Int) (g : Int) (hm : m.length ≤ 999999) (hs : s.length ≤ 1000000) (hw : w.length ≤ 1000000) (h : m = []) (h2 : s = []) : Ret Try.prog 59 [.agg [.int .i64 r, .sl false (ints m), .sl false (mails s), .sl false (ints w)], .int .i64 g] (.tup [.agg [.int .i64 r, .sl false (ints []), .sl false (mails []), .sl false (ints (w ++ [g]))], .int .i64 0, .int .i64 0, .bool false]) := by
 subst h; subst h2
 refine Ret_of_body Try.func59 (by kernel_rfl) rfl ?_; rw [Try.ntmps59]
 refine Dd0 ?_
 refine TW_cond rfl (fun hc => ?_) (fun hc => ?_)
 ·refine Dd0 ?_
  refine Dar0 (clone_spec false w hw) ?_
  refine Dd0 ?_
  (refine ⟨by simp, ?_⟩; simp only [go_sem, Try.results59])
 ·simp at hc
theorem recv2_spec (r : Int) (m : List Int) (s : List (Int × Int)) (w : List Int) (g : Int) (hm : m.length ≤ 999999) (hs : s.length ≤ 1000000) (hw : w.length ≤ 1000000) (h : 0 < m.length) (h2 : s = []) : Ret Try.prog 59 [.agg [.int .i64 r, .sl false (ints m), .sl false (mails s), .sl false (ints w)], .int .i64 g] (.tup [.agg [.int .i64 r, .sl false (ints (m.drop 1)), .sl false (mails []), .sl false (ints w)], .int .i64 (m.getD 0 0), .int .i64 0, .bool true]) := by
 subst h2
 have d : decide ((m.length : Int) = 0) = false := decide_eq_false (by omega)
 refine Ret_of_body Try.func59 (by kernel_rfl) rfl ?_; rw [Try.ntmps59]
 refine Dd1 @d ?_
 refine TW_cond rfl (fun hc => ?_) (fun hc => ?_)
 ·exact absurd hc (by simp)
 ·refine Dd0 ?_
  refine Dar0 (cloneN_spec false m (by omega)) ?_
  refine Dd0 ?_
  refine TW_cond rfl (fun hc => ?_) (fun hc => ?_)
  ·simp at hc
  ·refine Dd0 ?_
   ((with_reducible first | refine O1 rfl (fun N hN => ?_) | refine O2 rfl rfl rfl (fun N hN => ?_)); simp only [go_sem]; refine vCall.pu _ _ (firstN_spec false m (by omega) h) ?ha45 (hN _ ?hk45); (case ha45 => (first | (simp only [go_sem]; done) | (simp only [go_sem] <;> (first | omega | ((try simp only [go_sem, List.length_append, lim, lim2]) <;> omega) | assumption | exact ints_1 _ | exact rfl | (simp [ints]; done))) | (simp [ints]; done))); clear hN N; apply Ops_eq; (simp only [go_sem]; rfl))
   refine Dd0 ?_
   refine TW_sub (Sub_bl 72057594037926411) ?_
   refine TW_open mixed (by kernel_rfl) (fun b => ⟨[.junk, .junk, .ptr 2 0, .junk, .ptr 4 0, if b 5 = true then .int .i64 (m.getD 0 0) else .int .i64 0, .int .i64 0, if b 7 = true then .bool true else .bool false, .ptr 8 0, .junk, .int .i64 (m.getD 0 0), .junk, .junk, .junk, .junk, .junk, .junk, .junk, .junk, .junk, .junk, .junk, .junk, .junk, .junk, .junk, .junk, .junk, .junk, .junk, .junk, .junk, .junk, .junk, .junk, .junk, .junk, .junk, .junk, .junk, .junk, .junk, .junk, .junk, .junk, .junk, .junk, .junk, .junk, .junk, .junk, .junk, .junk, .junk, .junk, .junk, if b 0 = true then .agg [.int .i64 r, .sl false (ints (List.drop 1 m)), .sl false (mails []), .sl false (ints w)] else .junk, if b 1 = true then .int .i64 (m.getD 0 0) else .junk, if b 2 = true then .ptr 8 0 else .junk, if b 3 = true then .int .i64 0 else .junk], [.un, .un, .box [.int .i64 r, .sl false (ints (List.drop 1 m)), .sl false (mails []), .sl false (ints w)], .un, if b 4 = true then .box [.int .i64 r, .sl false (ints (List.drop 1 m)), .sl false (mails []), .sl false (ints w)] else .box [.int .i64 0, .nils, .nils, .nils], .un, .un, .un, .box [.int .i64 0, .int .i64 0], .un, .un, .un, .un, .un, .un, .un, .un, .un, .un, .un, .un, .un, .un, .un, .un, .un, .un, .un, .un, .un, .un, .un, .imm (ints m), .un, .un, .un, .un, .un, .un, .un, .un, .un, .un, .un, .un, .un, .un, .un, .un, .un, .un, .un, .un, .un, .un, .un, .un, .un, .un, .un], 0⟩) rfl ?_ ?_
   ·skip
    (repeat refine Di ?_ (fun b hwW hbB hcC => ?_)); (exact trivial)
    ·exact Ds7 hbB (hwW.at 0 rfl) (hwW.at 1 rfl) (hwW.at 2 rfl) (hwW.at 3 rfl) (hwW.at 4 rfl) (hwW.at 5 rfl) (hwW.at 6 rfl)
    ·exact Ds7 hbB (hwW.at 0 rfl) (hwW.at 1 rfl) (hwW.at 2 rfl) (hwW.at 3 rfl) (hwW.at 4 rfl) (hwW.at 5 rfl) (hcC.l hbB 7 rfl)
    ·exact Ds5 hbB (hwW.at 0 rfl) (hwW.at 1 rfl) (hwW.at 4 rfl) (hcC.l hbB 6 rfl) (hcC.l hbB 7 rfl)
    ·exact Ds4 hbB (hwW.at 0 rfl) (hcC.l hbB 5 rfl) (hcC.l hbB 6 rfl) (hcC.l hbB 7 rfl)
    ·exact Ds3 hbB (hwW.at 2 rfl) (hcC.l hbB 6 rfl) (hcC.l hbB 7 rfl)
    ·exact Ds3 hbB (hcC.l hbB 3 rfl) (hcC.l hbB 6 rfl) (hcC.l hbB 7 rfl)
    ·exact Ds3 hbB (hcC.l hbB 5 rfl) (hcC.l hbB 6 rfl) (hcC.l hbB 7 rfl)
    ·exact Ds4 hbB (hcC.l hbB 4 rfl) (hcC.l hbB 5 rfl) (hcC.l hbB 6 rfl) (hcC.l hbB 7 rfl)
   simp only [List.length_cons, List.length_nil, Nat.reduceAdd, Nat.reduceLT, decide_true, if_true]
   refine Dd0 ?_
   (refine ⟨by simp, ?_⟩; simp only [go_sem, Try.results59])
theorem recv3_spec (r : Int) (m : List Int) (s : List (Int × Int)) (w : List Int) (g : Int) (hm : m.length ≤ 999999) (hs : s.length ≤ 1000000) (hw : w.length ≤ 1000000) (h2 : 0 < s.length) : Ret Try.prog 59 [.agg [.int .i64 r, .sl false (ints m), .sl false (mails s), .sl false (ints w)], .int .i64 g] (.tup [.agg [.int .i64 r, .sl false (ints ((m ++ [(s.getD 0 (0, 0)).2]).drop 1)), .sl false (mails (s.drop 1)), .sl false (ints w)], .int .i64 ((m ++ [(s.getD 0 (0, 0)).2]).getD 0 0), .int .i64 (s.getD 0 (0, 0)).1, .bool true]) := by
 have d2 : decide ((s.length : Int) = 0) = false := decide_eq_false (by omega)
 refine Ret_of_body Try.func59 (by kernel_rfl) rfl ?_; rw [Try.ntmps59]
 cases d : decide ((m.length : Int) = 0) with
 | false =>
   refine Dd1 @d ?_
   refine TW_cond rfl (fun hc => ?_) (fun hc => ?_)
   ·exact absurd hc (by simp)
   ·refine Dd0 ?_
    refine Dar0 (cloneN_spec false m (by omega)) ?_
    refine Dd0 ?_
    refine TW_cond rfl (fun hc => ?_) (fun hc => ?_)
    ·refine Dd0 ?_
     ((with_reducible first | refine O1 rfl (fun N hN => ?_) | refine O2 rfl rfl rfl (fun N hN => ?_)); simp only [go_sem]; refine vCall.pu _ _ (firstM_spec false s hs h2) ?ha46 (hN _ ?hk46); (case ha46 => (first | (simp only [go_sem]; done) | (simp only [go_sem] <;> (first | omega | ((try simp only [go_sem, List.length_append, lim, lim2]) <;> omega) | assumption | exact ints_1 _ | exact rfl | (simp [ints]; done))) | (simp [ints]; done))); clear hN N; apply Ops_eq; (simp only [go_sem]; rfl))
     refine Dd0 ?_
     ((with_reducible first | refine O1 rfl (fun N hN => ?_) | refine O2 rfl rfl rfl (fun N hN => ?_)); simp only [go_sem]; refine vCall.pu _ _ (firstN_spec false (m ++ [(s.getD 0 (0, 0)).2]) (by simp; omega) (by simp)) ?ha47 (hN _ ?hk47); (case ha47 => (first | (simp only [go_sem]; done) | (simp only [go_sem] <;> (first | omega | ((try simp only [go_sem, List.length_append, lim, lim2]) <;> omega) | assumption | exact ints_1 _ | exact rfl | (simp [ints]; done))) | (simp [ints]; done))); clear hN N; apply Ops_eq; (simp only [go_sem]; rfl))
     refine Dd0 ?_
     refine TW_sub (Sub_bl 72057594037926411) ?_
     refine TW_open mixed (by kernel_rfl) (fun b => ⟨[.junk, .junk, .ptr 2 0, .junk, .ptr 4 0, if b 5 = true then .int .i64 ((m ++ [(s.getD 0 (0, 0)).snd]).getD 0 0) else .int .i64 0, if b 6 = true then .int .i64 (s.getD 0 (0, 0)).fst else .int .i64 0, if b 7 = true then .bool true else .bool false, .ptr 8 0, .junk, .int .i64 ((m ++ [(s.getD 0 (0, 0)).snd]).getD 0 0), .junk, .junk, .junk, .junk, .junk, .junk, .junk, .junk, .junk, .junk, .junk, .junk, .junk, .junk, .junk, .junk, .junk, .junk, .junk, .junk, .junk, .junk, .junk, .junk, .junk, .junk, .junk, .junk, .junk, .junk, .junk, .junk, .junk, .junk, .junk, .junk, .junk, .junk, .junk, .junk, .junk, .junk, .junk, .junk, .junk, if b 0 = true then .agg [.int .i64 r, .sl false (ints (List.drop 1 (m ++ [(s.getD 0 (0, 0)).snd]))), .sl false (mails (List.drop 1 s)), .sl false (ints w)] else .junk, if b 1 = true then .int .i64 ((m ++ [(s.getD 0 (0, 0)).snd]).getD 0 0) else .junk, if b 2 = true then .ptr 8 0 else .junk, if b 3 = true then .int .i64 (s.getD 0 (0, 0)).fst else .junk], [.un, .un, .box [.int .i64 r, .sl false (ints (List.drop 1 (m ++ [(s.getD 0 (0, 0)).snd]))), .sl false (mails (List.drop 1 s)), .sl false (ints w)], .un, if b 4 = true then .box [.int .i64 r, .sl false (ints (List.drop 1 (m ++ [(s.getD 0 (0, 0)).snd]))), .sl false (mails (List.drop 1 s)), .sl false (ints w)] else .box [.int .i64 0, .nils, .nils, .nils], .un, .un, .un, .box [.int .i64 (s.getD 0 (0, 0)).fst, .int .i64 (s.getD 0 (0, 0)).snd], .un, .un, .un, .un, .un, .un, .un, .un, .un, .un, .un, .un, .un, .un, .un, .un, .un, .un, .un, .un, .un, .un, .un, .dead, .un, .un, .un, .un, .un, .un, .un, .un, .un, .un, .un, .un, .un, .un, .arr 2 1 [[.int .i64 (s.getD 0 (0, 0)).snd]], .imm (ints (m ++ [(s.getD 0 (0, 0)).snd])), .un, .un, .un, .un, .un, .un, .un, .un, .un, .un, .un], 0⟩) rfl ?_ ?_
     ·skip
      (repeat refine Di ?_ (fun b hwW hbB hcC => ?_)); (exact trivial)
      ·exact Ds7 hbB (hwW.at 0 rfl) (hwW.at 1 rfl) (hwW.at 2 rfl) (hwW.at 3 rfl) (hwW.at 4 rfl) (hwW.at 5 rfl) (hwW.at 6 rfl)
      ·exact Ds7 hbB (hwW.at 0 rfl) (hwW.at 1 rfl) (hwW.at 2 rfl) (hwW.at 3 rfl) (hwW.at 4 rfl) (hwW.at 5 rfl) (hcC.l hbB 7 rfl)
      ·exact Ds5 hbB (hwW.at 0 rfl) (hwW.at 1 rfl) (hwW.at 4 rfl) (hcC.l hbB 6 rfl) (hcC.l hbB 7 rfl)
      ·exact Ds4 hbB (hwW.at 0 rfl) (hcC.l hbB 5 rfl) (hcC.l hbB 6 rfl) (hcC.l hbB 7 rfl)
      ·exact Ds3 hbB (hwW.at 2 rfl) (hcC.l hbB 6 rfl) (hcC.l hbB 7 rfl)
      ·exact Ds3 hbB (hcC.l hbB 3 rfl) (hcC.l hbB 6 rfl) (hcC.l hbB 7 rfl)
      ·exact Ds3 hbB (hcC.l hbB 5 rfl) (hcC.l hbB 6 rfl) (hcC.l hbB 7 rfl)
      ·exact Ds4 hbB (hcC.l hbB 4 rfl) (hcC.l hbB 5 rfl) (hcC.l hbB 6 rfl) (hcC.l hbB 7 rfl)
     simp only [List.length_cons, List.length_nil, Nat.reduceAdd, Nat.reduceLT, decide_true, if_true]
     refine Dd0 ?_
     (refine ⟨by simp, ?_⟩; simp only [go_sem, Try.results59])
    ·have : s = [] := by simpa using hc
     simp [this] at h2
 | true =>
   refine Dd2 @d @d2 ?_
   refine TW_cond rfl (fun hc => ?_) (fun hc => ?_)
   ·exact absurd hc (by simp)
   ·refine Dd0 ?_
    ((with_reducible first | refine O1 rfl (fun N hN => ?_) | refine O2 rfl rfl rfl (fun N hN => ?_)); simp only [go_sem]; refine vCall.ar _ _ _ _ _ rfl ?ht48 (cloneN_spec false m (by omega)) ?ha48 ?hu48 (hN _ ?hk48); (case ht48 => (simp only [go_sem]; done)); (case hu48 => (simp only [go_sem]; done)); (case ha48 => (first | (simp only [go_sem]; done) | (simp only [go_sem] <;> (first | omega | ((try simp only [go_sem, List.length_append, lim, lim2]) <;> omega) | assumption | exact ints_1 _ | exact rfl | (simp [ints]; done))) | (simp [ints]; done))); clear hN N; apply Ops_eq; (simp only [go_sem]; rfl))
    refine Dd0 ?_
    refine TW_cond rfl (fun hc => ?_) (fun hc => ?_)
    ·refine Dd0 ?_
     ((with_reducible first | refine O1 rfl (fun N hN => ?_) | refine O2 rfl rfl rfl (fun N hN => ?_)); simp only [go_sem]; refine vCall.pu _ _ (firstM_spec false s hs h2) ?ha49 (hN _ ?hk49); (case ha49 => (first | (simp only [go_sem]; done) | (simp only [go_sem] <;> (first | omega | ((try simp only [go_sem, List.length_append, lim, lim2]) <;> omega) | assumption | exact ints_1 _ | exact rfl | (simp [ints]; done))) | (simp [ints]; done))); clear hN N; apply Ops_eq; (simp only [go_sem]; rfl))
     refine Dd0 ?_
     ((with_reducible first | refine O1 rfl (fun N hN => ?_) | refine O2 rfl rfl rfl (fun N hN => ?_)); simp only [go_sem]; refine vCall.pu _ _ (firstN_spec false (m ++ [(s.getD 0 (0, 0)).2]) (by simp; omega) (by simp)) ?ha50 (hN _ ?hk50); (case ha50 => (first | (simp only [go_sem]; done) | (simp only [go_sem] <;> (first | omega | ((try simp only [go_sem, List.length_append, lim, lim2]) <;> omega) | assumption | exact ints_1 _ | exact rfl | (simp [ints]; done))) | (simp [ints]; done))); clear hN N; apply Ops_eq; (simp only [go_sem]; rfl))
     refine Dd0 ?_
     refine TW_sub (Sub_bl 72057594037926411) ?_
     refine TW_open mixed (by kernel_rfl) (fun b => ⟨[.junk, .junk, .ptr 2 0, .junk, .ptr 4 0, if b 5 = true then .int .i64 ((m ++ [(s.getD 0 (0, 0)).snd]).getD 0 0) else .int .i64 0, if b 6 = true then .int .i64 (s.getD 0 (0, 0)).fst else .int .i64 0, if b 7 = true then .bool true else .bool false, .ptr 8 0, .junk, .int .i64 ((m ++ [(s.getD 0 (0, 0)).snd]).getD 0 0), .junk, .junk, .junk, .junk, .junk, .junk, .junk, .junk, .junk, .junk, .junk, .junk, .junk, .junk, .junk, .junk, .junk, .junk, .junk, .junk, .junk, .junk, .junk, .junk, .junk, .junk, .junk, .junk, .junk, .junk, .junk, .junk, .junk, .junk, .junk, .junk, .junk, .junk, .junk, .junk, .junk, .junk, .junk, .junk, .junk, if b 0 = true then .agg [.int .i64 r, .sl false (ints (List.drop 1 (m ++ [(s.getD 0 (0, 0)).snd]))), .sl false (mails (List.drop 1 s)), .sl false (ints w)] else .junk, if b 1 = true then .int .i64 ((m ++ [(s.getD 0 (0, 0)).snd]).getD 0 0) else .junk, if b 2 = true then .ptr 8 0 else .junk, if b 3 = true then .int .i64 (s.getD 0 (0, 0)).fst else .junk], [.un, .un, .box [.int .i64 r, .sl false (ints (List.drop 1 (m ++ [(s.getD 0 (0, 0)).snd]))), .sl false (mails (List.drop 1 s)), .sl false (ints w)], .un, if b 4 = true then .box [.int .i64 r, .sl false (ints (List.drop 1 (m ++ [(s.getD 0 (0, 0)).snd]))), .sl false (mails (List.drop 1 s)), .sl false (ints w)] else .box [.int .i64 0, .nils, .nils, .nils], .un, .un, .un, .box [.int .i64 (s.getD 0 (0, 0)).fst, .int .i64 (s.getD 0 (0, 0)).snd], .un, .un, .un, .un, .un, .un, .un, .un, .un, .un, .un, .un, .un, .un, .un, .un, .un, .un, .un, .un, .un, .un, .un, .dead, .un, .un, .un, .un, .un, .un, .un, .un, .un, .un, .un, .un, .un, .un, .arr 2 1 [[.int .i64 (s.getD 0 (0, 0)).snd]], .imm (ints (m ++ [(s.getD 0 (0, 0)).snd])), .un, .un, .un, .un, .un, .un, .un, .un, .un, .un, .un], 0⟩) rfl ?_ ?_
     ·skip
      (repeat refine Di ?_ (fun b hwW hbB hcC => ?_)); (exact trivial)
      ·exact Ds7 hbB (hwW.at 0 rfl) (hwW.at 1 rfl) (hwW.at 2 rfl) (hwW.at 3 rfl) (hwW.at 4 rfl) (hwW.at 5 rfl) (hwW.at 6 rfl)
      ·exact Ds7 hbB (hwW.at 0 rfl) (hwW.at 1 rfl) (hwW.at 2 rfl) (hwW.at 3 rfl) (hwW.at 4 rfl) (hwW.at 5 rfl) (hcC.l hbB 7 rfl)
      ·exact Ds5 hbB (hwW.at 0 rfl) (hwW.at 1 rfl) (hwW.at 4 rfl) (hcC.l hbB 6 rfl) (hcC.l hbB 7 rfl)
      ·exact Ds4 hbB (hwW.at 0 rfl) (hcC.l hbB 5 rfl) (hcC.l hbB 6 rfl) (hcC.l hbB 7 rfl)
      ·exact Ds3 hbB (hwW.at 2 rfl) (hcC.l hbB 6 rfl) (hcC.l hbB 7 rfl)
      ·exact Ds3 hbB (hcC.l hbB 3 rfl) (hcC.l hbB 6 rfl) (hcC.l hbB 7 rfl)
      ·exact Ds3 hbB (hcC.l hbB 5 rfl) (hcC.l hbB 6 rfl) (hcC.l hbB 7 rfl)
      ·exact Ds4 hbB (hcC.l hbB 4 rfl) (hcC.l hbB 5 rfl) (hcC.l hbB 6 rfl) (hcC.l hbB 7 rfl)
     simp only [List.length_cons, List.length_nil, Nat.reduceAdd, Nat.reduceLT, decide_true, if_true]
     refine Dd0 ?_
     (refine ⟨by simp, ?_⟩; simp only [go_sem, Try.results59])
    ·have : s = [] := by simpa using hc
     simp [this] at h2
theorem nums_spec (f g : Bool) (l m : List Int) (hl : l.length ≤ 1000000) (hm : m.length ≤ 1000000) : Ret Try.prog 52 [.sl f (ints l), .sl g (ints m)] (.bool (decide (l = m))) := by
 refine Ret_of_body Try.func52 (by kernel_rfl) rfl ?_; rw [Try.ntmps52]
 refine Dd0 ?_
 refine TW_cond rfl (fun hc => ?_) (fun hc => ?_)
 ·have h : l.length ≠ m.length := by simp at hc; omega
  refine Dd0 ?_
  (refine ⟨by simp, ?_⟩; simp only [go_sem, Try.results52])
  have h2 : l ≠ m := fun e => h (by rw [e])
  simp [h2]
 ·have h : l.length = m.length := by simp at hc; omega
  refine Dd0 ?_
  refine TW_sub (Sub_bl 67108812) ?_
  refine TW_loop (fun fuel st => ∃ (i : Nat), (i ≤ l.length) ∧ (l.take i = m.take i) ∧  fuel = l.length - i ∧ st = ⟨[.sl f (ints l), .sl g (ints m), .junk, .junk, .bool false, .int .i64 i, .junk, .junk, .junk, .junk, .junk, .junk, .junk, .junk, .junk, .junk, .junk, .junk, .junk, .junk, .junk, .junk, .junk, .junk, .junk, .junk], [.un, .un, .un, .un, .un, .un, .un, .un, .un, .un, .un, .un, .un, .un, .un, .un, .un, .un, .un, .un, .un, .un, .un, .un, .un, .un], 0⟩) (n := _) ⟨0, by first | omega | (simp; done) | (simp; omega) | assumption, by first | omega | (simp; done) | (simp; omega) | assumption, rfl, rfl⟩ ?_
  rintro fuel st ⟨i, hi, hx, rfl, rfl⟩
  refine Dd0 ?_
  refine TW_cond rfl (fun hc => ?_) (fun hc => ?_)
  ·have hlt : i < l.length := by simpa using hc
   have hlm : i < m.length := by omega
   have hw := wrap_i64 (n := (i : Int) + 1) (by omega) (by omega)
   have hg := ints_get l i hlt
   have hk := ints_get m i hlm
   refine Dd0 ?_
   refine TW_sub (Sub_bl 1996) ?_
   refine TW_open mixed (by kernel_rfl) (fun b => ⟨[.sl f (ints l), .sl g (ints m), .junk, .junk, .bool false, .int .i64 (↑i : Int), .junk, .junk, .junk, .junk, .junk, .int .i64 (↑i : Int), .sl f (ints l), .int .i64 (↑l.length : Int), .bool (decide ((↑i : Int) < (↑l.length : Int))), .junk, .junk, if b 0 = true then .sl f (ints l) else .junk, if b 1 = true then .int .i64 (↑i : Int) else .junk, if b 2 = true then .cptr [.int .i64 (l.getD i 0)] else .junk, if b 3 = true then .int .i64 (l.getD i 0) else .junk, if b 4 = true then .sl g (ints m) else .junk, if b 5 = true then .int .i64 (↑i : Int) else .junk, if b 6 = true then .cptr [.int .i64 (m.getD i 0)] else .junk, if b 7 = true then .int .i64 (m.getD i 0) else .junk, if b 8 = true then .bool (!decide (l.getD i 0 = m.getD i 0)) else .junk], [.un, .un, .un, .un, .un, .un, .un, .un, .un, .un, .un, .un, .un, .un, .un, .un, .un, .un, .un, .un, .un, .un, .un, .un, .un, .un], 0⟩) rfl ?_ ?_
   ·skip
    (repeat refine Di ?_ (fun b hwW hbB hcC => ?_)); (exact trivial)
    ·exact Ds4 hbB (hwW.at 3 rfl) (hwW.at 7 rfl) @hg @hk
    ·exact Ds4 hbB (hwW.at 6 rfl) (hcC.l hbB 8 rfl) @hg @hk
    ·exact Ds5 hbB (hwW.at 4 rfl) (hwW.at 5 rfl) (hcC.l hbB 7 rfl) @hg @hk
    ·exact Ds3 hbB (hcC.l hbB 6 rfl) @hg @hk
    ·exact Ds3 hbB (hcC.l hbB 6 rfl) @hg @hk
    ·exact Ds4 hbB (hwW.at 2 rfl) (hcC.l hbB 8 rfl) @hg @hk
    ·exact Ds5 hbB (hwW.at 0 rfl) (hwW.at 1 rfl) (hcC.l hbB 3 rfl) @hg @hk
    ·exact Ds3 hbB (hcC.l hbB 2 rfl) @hg @hk
    ·exact Ds3 hbB (hcC.l hbB 2 rfl) @hg @hk
   simp only [List.length_cons, List.length_nil, Nat.reduceAdd, Nat.reduceLT, decide_true, if_true]
   refine Dd0 ?_
   have hg : l.getD i 0 = l[i] := by rw [List.getD_eq_getElem?_getD, List.getElem?_eq_getElem hlt]; rfl
   have hk : m.getD i 0 = m[i] := by rw [List.getD_eq_getElem?_getD, List.getElem?_eq_getElem hlm]; rfl
   refine TW_cond rfl (fun hc => ?_) (fun hc => ?_)
   ·refine Dd0 ?_
    (refine ⟨by simp, ?_⟩; simp only [go_sem, Try.results52])
    have h3 : l[i] ≠ m[i] := by rw [hg, hk] at hc; simpa using hc
    have h2 : l ≠ m := fun e => h3 (by subst e; rfl)
    simp [h2]
   ·refine Dd1 @hw ?_
    have h3 : l[i] = m[i] := by rw [hg, hk] at hc; simpa using hc
    have hx' : l.take (i + 1) = m.take (i + 1) := by rw [List.take_succ_eq_append_getElem hlt, List.take_succ_eq_append_getElem hlm, hx, h3]
    exact ⟨_, _, by omega, ⟨i + 1, by omega, hx', rfl, rfl⟩, Sub_bl 67108812⟩
  ·refine Dd0 ?_
   (refine ⟨by simp, ?_⟩; simp only [go_sem, Try.results52])
   have : i = l.length := by have : ¬ (i < l.length) := by simpa using hc
                             omega
   subst this
   have : l = m := by rw [List.take_length, h, List.take_length] at hx; exact hx
   simp [this]
theorem getD_atM {l : List (Int × Int)} {i : Nat} (h : i < l.length) : l.getD i (0, 0) = l[i] := by rw [List.getD_eq_getElem?_getD, List.getElem?_eq_getElem h]; rfl
theorem bsame_spec (r : Int) (m : List Int) (s : List (Int × Int)) (w : List Int) (hm : m.length ≤ 1000000) (hs : s.length ≤ 1000000) (hw0 : w.length ≤ 1000000) : Ret Try.prog 35 [.agg [.int .i64 r, .sl false (ints m), .sl false (mails s), .sl false (ints w)], .agg [.int .i64 r, .sl false (ints m), .sl false (mails s), .sl false (ints w)]] (.bool true) := by
 refine Ret_of_body Try.func35 (by kernel_rfl) rfl ?_; rw [Try.ntmps35]
 refine Dd0 ?_
 refine Dsc0 (nums_spec false false m m hm hm) ?_
 refine Dd0 ?_
 ((with_reducible first | refine O1 rfl (fun N hN => ?_) | refine O2 rfl rfl rfl (fun N hN => ?_)); simp only [go_sem]; refine vCall.sc _ _ (ints_spec false false w w hw0 hw0) ?ha21 rfl (hN _ ?hk21); (case ha21 => (first | (simp only [go_sem]; done) | (simp only [go_sem] <;> (first | omega | ((try simp only [go_sem, List.length_append, lim, lim2]) <;> omega) | assumption | exact ints_1 _ | exact rfl | (simp [ints]; done))) | (simp [ints]; done))); clear hN N; apply Ops_eq; (simp only [go_sem]; rfl))
 refine Dd0 ?_
 refine TW_cond rfl (fun hc => ?_) (fun hc => ?_)
 ·exact absurd hc (by simp)
 ·refine Dd0 ?_
  refine TW_sub (Sub_bl 18014398509481939) ?_
  refine TW_loop (fun fuel st => ∃ (i : Nat), (i ≤ s.length) ∧  fuel = s.length - i ∧ st = ⟨[.junk, .junk, .ptr 2 0, .ptr 3 0, .junk, .int .i64 i, .junk, .junk, .junk, .junk, .junk, .junk, .junk, .junk, .junk, .junk, .junk, .junk, .junk, .junk, .junk, .junk, .junk, .junk, .junk, .junk, .junk, .junk, .junk, .junk, .junk, .junk, .junk, .junk, .junk, .junk, .junk, .junk, .junk, .junk, .junk, .junk, .junk, .junk, .junk, .junk, .junk, .junk, .junk, .junk, .junk, .junk, .junk, .junk], [.un, .un, .box [.int .i64 r, .sl false (ints m), .sl false (mails s), .sl false (ints w)], .box [.int .i64 r, .sl false (ints m), .sl false (mails s), .sl false (ints w)], .un, .un, .un, .un, .un, .un, .un, .un, .un, .un, .un, .un, .un, .un, .un, .un, .un, .un, .un, .un, .un, .un, .un, .un, .un, .un, .un, .un, .un, .un, .un, .un, .un, .un, .un, .un, .un, .un, .un, .un, .un, .un, .un, .un, .un, .un, .un, .un, .un, .un], 0⟩) (n := _) ⟨0, by first | omega | (simp; done) | (simp; omega) | assumption, rfl, rfl⟩ ?_
  rintro fuel st ⟨i, hi, rfl, rfl⟩
  refine Dd0 ?_
  refine TW_cond rfl (fun hc => ?_) (fun hc => ?_)
  ·have hlt : i < s.length := by simpa using hc
   have hg := mails_get s i hlt
   have hm2 := mails_2 s
   have hw := wrap_i64 (n := (i : Int) + 1) (by omega) (by omega)
   refine Dd0 ?_
   refine TW_sub (Sub_bl 68719476675) ?_
   refine TW_open mixed (by kernel_rfl) (fun b => ⟨[.junk, .junk, .ptr 2 0, .ptr 3 0, .junk, .int .i64 (↑i : Int), .junk, .junk, .junk, .junk, .junk, .junk, .junk, .junk, .junk, .junk, .junk, .junk, .junk, .junk, .junk, .junk, .junk, .junk, .junk, .junk, .junk, .junk, .junk, .junk, .junk, .junk, .junk, .junk, .junk, .junk, .int .i64 (↑i : Int), .ptr 2 2, .sl false (mails s), .int .i64 (↑s.length : Int), .bool (decide ((↑i : Int) < (↑s.length : Int))), .junk, .junk, if b 0 = true then .ptr 2 2 else .junk, if b 1 = true then .sl false (mails s) else .junk, if b 2 = true then .int .i64 (↑i : Int) else .junk, if b 3 = true then .cptr [.int .i64 (s.getD i (0, 0)).fst, .int .i64 (s.getD i (0, 0)).snd] else .junk, if b 4 = true then .agg [.int .i64 (s.getD i (0, 0)).fst, .int .i64 (s.getD i (0, 0)).snd] else .junk, if b 5 = true then .ptr 3 2 else .junk, if b 6 = true then .sl false (mails s) else .junk, if b 7 = true then .int .i64 (↑i : Int) else .junk, if b 8 = true then .cptr [.int .i64 (s.getD i (0, 0)).fst, .int .i64 (s.getD i (0, 0)).snd] else .junk, if b 9 = true then .agg [.int .i64 (s.getD i (0, 0)).fst, .int .i64 (s.getD i (0, 0)).snd] else .junk, if b 10 = true then .bool false else .junk], [.un, .un, .box [.int .i64 r, .sl false (ints m), .sl false (mails s), .sl false (ints w)], .box [.int .i64 r, .sl false (ints m), .sl false (mails s), .sl false (ints w)], .un, .un, .un, .un, .un, .un, .un, .un, .un, .un, .un, .un, .un, .un, .un, .un, .un, .un, .un, .un, .un, .un, .un, .un, .un, .un, .un, .un, .un, .un, .un, .un, .un, .un, .un, .un, .un, .un, .un, .un, .un, .un, .un, .un, .un, .un, .un, .un, .un, .un], 0⟩) rfl ?_ ?_
   ·skip
    (repeat refine Di ?_ (fun b hwW hbB hcC => ?_)); (exact trivial)
    ·exact Ds3 hbB (hwW.at 4 rfl) (hwW.at 9 rfl) @hg
    ·exact Ds3 hbB (hwW.at 8 rfl) (hcC.l hbB 10 rfl) @hg
    ·exact Ds4 hbB (hwW.at 6 rfl) (hwW.at 7 rfl) (hcC.l hbB 9 rfl) @hg
    ·exact Ds2 hbB (hcC.l hbB 8 rfl) @hg
    ·exact Ds3 hbB (hwW.at 5 rfl) (hcC.l hbB 8 rfl) @hg
    ·exact Ds2 hbB (hcC.l hbB 6 rfl) @hg
    ·exact Ds3 hbB (hwW.at 3 rfl) (hcC.l hbB 10 rfl) @hg
    ·exact Ds4 hbB (hwW.at 1 rfl) (hwW.at 2 rfl) (hcC.l hbB 4 rfl) @hg
    ·exact Ds2 hbB (hcC.l hbB 3 rfl) @hg
    ·exact Ds3 hbB (hwW.at 0 rfl) (hcC.l hbB 3 rfl) @hg
    ·exact Ds2 hbB (hcC.l hbB 1 rfl) @hg
   simp only [List.length_cons, List.length_nil, Nat.reduceAdd, Nat.reduceLT, decide_true, if_true]
   refine Dd0 ?_
   refine TW_cond rfl (fun hc => ?_) (fun hc => ?_)
   ·exact absurd hc (by simp)
   ·refine Dd1 @hw ?_
    exact ⟨_, _, by omega, ⟨i + 1, by omega, rfl, rfl⟩, Sub_bl 18014398509481939⟩
  ·refine Dd0 ?_
   (refine ⟨by simp, ?_⟩; simp only [go_sem, Try.results35])
theorem xsend1_spec (r : Int) (m : List Int) (s : List (Int × Int)) (w : List Int) (g n : Int) (hm : m.length ≤ 1000000) (hs : s.length ≤ 1000000) (hw : w.length ≤ 1000000) (h : 0 < w.length) : Ret Try.prog 31 [.agg [.int .i64 r, .sl false (ints m), .sl false (mails s), .sl false (ints w)], .int .i64 g, .int .i64 n] (.tup [.agg [.int .i64 r, .sl false (ints m), .sl false (mails s), .sl false (ints (w.drop 1))], .int .i64 (w.getD 0 0), .bool true]) := by
 have hg := ints_get w 0 h
 refine Ret_of_body Try.func31 (by kernel_rfl) rfl ?_; rw [Try.ntmps31]
 refine Dd0 ?_
 refine TW_cond rfl (fun hc => ?_) (fun hc => ?_)
 ·refine Dd0 ?_
  refine TW_sub (Sub_bl 7729) ?_
  refine TW_open mixed (by kernel_rfl) (fun b => ⟨[.junk, .int .i64 g, .int .i64 n, .ptr 3 0, .junk, .junk, .ptr 6 0, if b 15 = true then .int .i64 (w.getD 0 0) else .int .i64 0, if b 16 = true then .bool true else .bool false, .junk, .junk, .junk, .junk, if b 0 = true then .ptr 3 0 else .junk, if b 1 = true then .int .i64 r else .junk, if b 2 = true then .ptr 3 1 else .junk, if b 3 = true then .sl false (ints m) else .junk, if b 4 = true then .ptr 3 2 else .junk, if b 5 = true then .sl false (mails s) else .junk, if b 6 = true then .ptr 3 3 else .junk, if b 7 = true then .sl false (ints w) else .junk, if b 8 = true then .sl false (ints (List.drop 1 (List.take w.length w))) else .junk, if b 9 = true then .agg [.int .i64 r, .sl false (ints m), .sl false (mails s), .sl false (ints (List.drop 1 (List.take w.length w)))] else .junk, if b 10 = true then .ptr 3 3 else .junk, if b 11 = true then .sl false (ints w) else .junk, if b 12 = true then .cptr [.int .i64 (w.getD 0 0)] else .junk, if b 13 = true then .int .i64 (w.getD 0 0) else .junk, .junk, .junk, .junk, .junk, .junk, .junk, .junk, .junk, .junk, .junk, .junk, .junk, .junk, .junk, .junk, .junk, .junk, .junk, .junk, .junk, .junk, .junk, .junk, .junk, .junk, .junk, .junk, .junk, .junk, .junk, .junk, .junk], [.un, .un, .un, .box [.int .i64 r, .sl false (ints m), .sl false (mails s), .sl false (ints w)], .un, .un, if b 14 = true then .box [.int .i64 r, .sl false (ints m), .sl false (mails s), .sl false (ints (List.drop 1 (List.take w.length w)))] else .box [.int .i64 0, .nils, .nils, .nils], .un, .un, .un, .un, .un, .un, .un, .un, .un, .un, .un, .un, .un, .un, .un, .un, .un, .un, .un, .un, .un, .un, .un, .un, .un, .un, .un, .un, .un, .un, .un, .un, .un, .un, .un, .un, .un, .un, .un, .un, .un, .un, .un, .un, .un, .un, .un, .un, .un, .un, .un, .un], 0⟩) rfl ?_ ?_
  ·skip
   (repeat refine Di ?_ (fun b hwW hbB hcC => ?_)); (exact trivial)
   ·have hbB : b 16 = false := hbB; have w15 := hwW.at 15 rfl; have w0 := hwW.at 0 rfl; have w1 := hwW.at 1 rfl; have w2 := hwW.at 2 rfl; have w3 := hwW.at 3 rfl; have w4 := hwW.at 4 rfl; have w5 := hwW.at 5 rfl; have w6 := hwW.at 6 rfl; have w7 := hwW.at 7 rfl; have w8 := hwW.at 8 rfl; have w9 := hwW.at 9 rfl; have w10 := hwW.at 10 rfl; have w11 := hwW.at 11 rfl; have w12 := hwW.at 12 rfl; have w13 := hwW.at 13 rfl; have w14 := hwW.at 14 rfl; simp only [vGuard, go_sem, hbB, upd, Bool.false_eq_true, w0, w1, w2, w3, w4, w5, w6, w7, w8, w9, w10, w11, w12, w13, w14, w15, Int.toNat_zero, hg, Int.reduceToNat] <;> (try refine Or.inl ?_) <;> (repeat (refine And.intro (by first | omega | ((try simp only [go_sem, List.length_append, lim, lim2]) <;> omega) | assumption | exact ints_1 _ | exact rfl | (simp [ints]; done)) ?_)) <;> (first | rfl | first | omega | ((try simp only [go_sem, List.length_append, lim, lim2]) <;> omega) | assumption | exact ints_1 _ | exact rfl | (simp [ints]; done))
   ·have hbB : b 15 = false := hbB; have w13 := hwW.at 13 rfl; have w14 := hwW.at 14 rfl; have w0 := hwW.at 0 rfl; have w1 := hwW.at 1 rfl; have w2 := hwW.at 2 rfl; have w3 := hwW.at 3 rfl; have w4 := hwW.at 4 rfl; have w5 := hwW.at 5 rfl; have w6 := hwW.at 6 rfl; have w7 := hwW.at 7 rfl; have w8 := hwW.at 8 rfl; have w9 := hwW.at 9 rfl; have w10 := hwW.at 10 rfl; have w11 := hwW.at 11 rfl; have w12 := hwW.at 12 rfl; have l16 := hcC.l hbB 16 rfl; simp only [vGuard, go_sem, hbB, upd, Bool.false_eq_true, w0, w1, w2, w3, w4, w5, w6, w7, w8, w9, w10, w11, w12, w13, w14, l16, Int.toNat_zero, hg, Int.reduceToNat] <;> (try refine Or.inl ?_) <;> (repeat (refine And.intro (by first | omega | ((try simp only [go_sem, List.length_append, lim, lim2]) <;> omega) | assumption | exact ints_1 _ | exact rfl | (simp [ints]; done)) ?_)) <;> (first | rfl | first | omega | ((try simp only [go_sem, List.length_append, lim, lim2]) <;> omega) | assumption | exact ints_1 _ | exact rfl | (simp [ints]; done))
   ·have hbB : b 14 = false := hbB; have w9 := hwW.at 9 rfl; have w0 := hwW.at 0 rfl; have w1 := hwW.at 1 rfl; have w2 := hwW.at 2 rfl; have w3 := hwW.at 3 rfl; have w4 := hwW.at 4 rfl; have w5 := hwW.at 5 rfl; have w6 := hwW.at 6 rfl; have w7 := hwW.at 7 rfl; have w8 := hwW.at 8 rfl; have l15 := hcC.l hbB 15 rfl; have l16 := hcC.l hbB 16 rfl; simp only [vGuard, go_sem, hbB, upd, Bool.false_eq_true, w0, w1, w2, w3, w4, w5, w6, w7, w8, w9, l15, l16, Int.toNat_zero, hg, Int.reduceToNat] <;> (try refine Or.inl ?_) <;> (repeat (refine And.intro (by first | omega | ((try simp only [go_sem, List.length_append, lim, lim2]) <;> omega) | assumption | exact ints_1 _ | exact rfl | (simp [ints]; done)) ?_)) <;> (first | rfl | first | omega | ((try simp only [go_sem, List.length_append, lim, lim2]) <;> omega) | assumption | exact ints_1 _ | exact rfl | (simp [ints]; done))
   ·have hbB : b 13 = false := hbB; have w12 := hwW.at 12 rfl; have l15 := hcC.l hbB 15 rfl; have l16 := hcC.l hbB 16 rfl; simp only [vGuard, go_sem, hbB, upd, Bool.false_eq_true, w12, l15, l16, Int.toNat_zero, hg, Int.reduceToNat] <;> (try refine Or.inl ?_) <;> (repeat (refine And.intro (by first | omega | ((try simp only [go_sem, List.length_append, lim, lim2]) <;> omega) | assumption | exact ints_1 _ | exact rfl | (simp [ints]; done)) ?_)) <;> (first | rfl | first | omega | ((try simp only [go_sem, List.length_append, lim, lim2]) <;> omega) | assumption | exact ints_1 _ | exact rfl | (simp [ints]; done))
   ·have hbB : b 12 = false := hbB; have w11 := hwW.at 11 rfl; have l13 := hcC.l hbB 13 rfl; have l15 := hcC.l hbB 15 rfl; have l16 := hcC.l hbB 16 rfl; simp only [vGuard, go_sem, hbB, upd, Bool.false_eq_true, w11, l13, l15, l16, Int.toNat_zero, hg, Int.reduceToNat] <;> (try refine Or.inl ?_) <;> (repeat (refine And.intro (by first | omega | ((try simp only [go_sem, List.length_append, lim, lim2]) <;> omega) | assumption | exact ints_1 _ | exact rfl | (simp [ints]; done)) ?_)) <;> (first | rfl | first | omega | ((try simp only [go_sem, List.length_append, lim, lim2]) <;> omega) | assumption | exact ints_1 _ | exact rfl | (simp [ints]; done))
   ·have hbB : b 11 = false := hbB; have w10 := hwW.at 10 rfl; have l12 := hcC.l hbB 12 rfl; have l15 := hcC.l hbB 15 rfl; have l16 := hcC.l hbB 16 rfl; simp only [vGuard, go_sem, hbB, upd, Bool.false_eq_true, w10, l12, l15, l16, Int.toNat_zero, hg, Int.reduceToNat] <;> (try refine Or.inl ?_) <;> (repeat (refine And.intro (by first | omega | ((try simp only [go_sem, List.length_append, lim, lim2]) <;> omega) | assumption | exact ints_1 _ | exact rfl | (simp [ints]; done)) ?_)) <;> (first | rfl | first | omega | ((try simp only [go_sem, List.length_append, lim, lim2]) <;> omega) | assumption | exact ints_1 _ | exact rfl | (simp [ints]; done))
   ·have hbB : b 10 = false := hbB; have l11 := hcC.l hbB 11 rfl; have l15 := hcC.l hbB 15 rfl; have l16 := hcC.l hbB 16 rfl; simp only [vGuard, go_sem, hbB, upd, Bool.false_eq_true, l11, l15, l16, Int.toNat_zero, hg, Int.reduceToNat] <;> (try refine Or.inl ?_) <;> (repeat (refine And.intro (by first | omega | ((try simp only [go_sem, List.length_append, lim, lim2]) <;> omega) | assumption | exact ints_1 _ | exact rfl | (simp [ints]; done)) ?_)) <;> (first | rfl | first | omega | ((try simp only [go_sem, List.length_append, lim, lim2]) <;> omega) | assumption | exact ints_1 _ | exact rfl | (simp [ints]; done))
   ·have hbB : b 9 = false := hbB; have w1 := hwW.at 1 rfl; have w3 := hwW.at 3 rfl; have w5 := hwW.at 5 rfl; have w8 := hwW.at 8 rfl; have l14 := hcC.l hbB 14 rfl; have l15 := hcC.l hbB 15 rfl; have l16 := hcC.l hbB 16 rfl; simp only [vGuard, go_sem, hbB, upd, Bool.false_eq_true, w1, w3, w5, w8, l14, l15, l16, Int.toNat_zero, hg, Int.reduceToNat] <;> (try refine Or.inl ?_) <;> (repeat (refine And.intro (by first | omega | ((try simp only [go_sem, List.length_append, lim, lim2]) <;> omega) | assumption | exact ints_1 _ | exact rfl | (simp [ints]; done)) ?_)) <;> (first | rfl | first | omega | ((try simp only [go_sem, List.length_append, lim, lim2]) <;> omega) | assumption | exact ints_1 _ | exact rfl | (simp [ints]; done))
   ·have hbB : b 8 = false := hbB; have w7 := hwW.at 7 rfl; have l9 := hcC.l hbB 9 rfl; have l14 := hcC.l hbB 14 rfl; have l15 := hcC.l hbB 15 rfl; have l16 := hcC.l hbB 16 rfl; simp only [vGuard, go_sem, hbB, upd, Bool.false_eq_true, w7, l9, l14, l15, l16, Int.toNat_zero, hg, Int.reduceToNat] <;> (try refine Or.inl ?_) <;> (repeat (refine And.intro (by first | omega | ((try simp only [go_sem, List.length_append, lim, lim2]) <;> omega) | assumption | exact ints_1 _ | exact rfl | (simp [ints]; done)) ?_)) <;> (first | rfl | first | omega | ((try simp only [go_sem, List.length_append, lim, lim2]) <;> omega) | assumption | exact ints_1 _ | exact rfl | (simp [ints]; done))
   ·have hbB : b 7 = false := hbB; have w6 := hwW.at 6 rfl; have l8 := hcC.l hbB 8 rfl; have l14 := hcC.l hbB 14 rfl; have l15 := hcC.l hbB 15 rfl; have l16 := hcC.l hbB 16 rfl; simp only [vGuard, go_sem, hbB, upd, Bool.false_eq_true, w6, l8, l14, l15, l16, Int.toNat_zero, hg, Int.reduceToNat] <;> (try refine Or.inl ?_) <;> (repeat (refine And.intro (by first | omega | ((try simp only [go_sem, List.length_append, lim, lim2]) <;> omega) | assumption | exact ints_1 _ | exact rfl | (simp [ints]; done)) ?_)) <;> (first | rfl | first | omega | ((try simp only [go_sem, List.length_append, lim, lim2]) <;> omega) | assumption | exact ints_1 _ | exact rfl | (simp [ints]; done))
   ·have hbB : b 6 = false := hbB; have l7 := hcC.l hbB 7 rfl; have l8 := hcC.l l7 8 rfl; have l14 := hcC.l hbB 14 rfl; have l15 := hcC.l hbB 15 rfl; have l16 := hcC.l hbB 16 rfl; simp only [vGuard, go_sem, hbB, upd, Bool.false_eq_true, l7, l8, l14, l15, l16, Int.toNat_zero, hg, Int.reduceToNat] <;> (try refine Or.inl ?_) <;> (repeat (refine And.intro (by first | omega | ((try simp only [go_sem, List.length_append, lim, lim2]) <;> omega) | assumption | exact ints_1 _ | exact rfl | (simp [ints]; done)) ?_)) <;> (first | rfl | first | omega | ((try simp only [go_sem, List.length_append, lim, lim2]) <;> omega) | assumption | exact ints_1 _ | exact rfl | (simp [ints]; done))
   ·have hbB : b 5 = false := hbB; have w4 := hwW.at 4 rfl; have l9 := hcC.l hbB 9 rfl; have l14 := hcC.l hbB 14 rfl; have l15 := hcC.l hbB 15 rfl; have l16 := hcC.l hbB 16 rfl; simp only [vGuard, go_sem, hbB, upd, Bool.false_eq_true, w4, l9, l14, l15, l16, Int.toNat_zero, hg, Int.reduceToNat] <;> (try refine Or.inl ?_) <;> (repeat (refine And.intro (by first | omega | ((try simp only [go_sem, List.length_append, lim, lim2]) <;> omega) | assumption | exact ints_1 _ | exact rfl | (simp [ints]; done)) ?_)) <;> (first | rfl | first | omega | ((try simp only [go_sem, List.length_append, lim, lim2]) <;> omega) | assumption | exact ints_1 _ | exact rfl | (simp [ints]; done))
   ·have hbB : b 4 = false := hbB; have l5 := hcC.l hbB 5 rfl; have l14 := hcC.l hbB 14 rfl; have l15 := hcC.l hbB 15 rfl; have l16 := hcC.l hbB 16 rfl; simp only [vGuard, go_sem, hbB, upd, Bool.false_eq_true, l5, l14, l15, l16, Int.toNat_zero, hg, Int.reduceToNat] <;> (try refine Or.inl ?_) <;> (repeat (refine And.intro (by first | omega | ((try simp only [go_sem, List.length_append, lim, lim2]) <;> omega) | assumption | exact ints_1 _ | exact rfl | (simp [ints]; done)) ?_)) <;> (first | rfl | first | omega | ((try simp only [go_sem, List.length_append, lim, lim2]) <;> omega) | assumption | exact ints_1 _ | exact rfl | (simp [ints]; done))
   ·have hbB : b 3 = false := hbB; have w2 := hwW.at 2 rfl; have l9 := hcC.l hbB 9 rfl; have l14 := hcC.l hbB 14 rfl; have l15 := hcC.l hbB 15 rfl; have l16 := hcC.l hbB 16 rfl; simp only [vGuard, go_sem, hbB, upd, Bool.false_eq_true, w2, l9, l14, l15, l16, Int.toNat_zero, hg, Int.reduceToNat] <;> (try refine Or.inl ?_) <;> (repeat (refine And.intro (by first | omega | ((try simp only [go_sem, List.length_append, lim, lim2]) <;> omega) | assumption | exact ints_1 _ | exact rfl | (simp [ints]; done)) ?_)) <;> (first | rfl | first | omega | ((try simp only [go_sem, List.length_append, lim, lim2]) <;> omega) | assumption | exact ints_1 _ | exact rfl | (simp [ints]; done))
   ·have hbB : b 2 = false := hbB; have l3 := hcC.l hbB 3 rfl; have l14 := hcC.l hbB 14 rfl; have l15 := hcC.l hbB 15 rfl; have l16 := hcC.l hbB 16 rfl; simp only [vGuard, go_sem, hbB, upd, Bool.false_eq_true, l3, l14, l15, l16, Int.toNat_zero, hg, Int.reduceToNat] <;> (try refine Or.inl ?_) <;> (repeat (refine And.intro (by first | omega | ((try simp only [go_sem, List.length_append, lim, lim2]) <;> omega) | assumption | exact ints_1 _ | exact rfl | (simp [ints]; done)) ?_)) <;> (first | rfl | first | omega | ((try simp only [go_sem, List.length_append, lim, lim2]) <;> omega) | assumption | exact ints_1 _ | exact rfl | (simp [ints]; done))
   ·have hbB : b 1 = false := hbB; have w0 := hwW.at 0 rfl; have l9 := hcC.l hbB 9 rfl; have l14 := hcC.l hbB 14 rfl; have l15 := hcC.l hbB 15 rfl; have l16 := hcC.l hbB 16 rfl; simp only [vGuard, go_sem, hbB, upd, Bool.false_eq_true, w0, l9, l14, l15, l16, Int.toNat_zero, hg, Int.reduceToNat] <;> (try refine Or.inl ?_) <;> (repeat (refine And.intro (by first | omega | ((try simp only [go_sem, List.length_append, lim, lim2]) <;> omega) | assumption | exact ints_1 _ | exact rfl | (simp [ints]; done)) ?_)) <;> (first | rfl | first | omega | ((try simp only [go_sem, List.length_append, lim, lim2]) <;> omega) | assumption | exact ints_1 _ | exact rfl | (simp [ints]; done))
   ·have hbB : b 0 = false := hbB; have l1 := hcC.l hbB 1 rfl; have l14 := hcC.l hbB 14 rfl; have l15 := hcC.l hbB 15 rfl; have l16 := hcC.l hbB 16 rfl; simp only [vGuard, go_sem, hbB, upd, Bool.false_eq_true, l1, l14, l15, l16, Int.toNat_zero, hg, Int.reduceToNat] <;> (try refine Or.inl ?_) <;> (repeat (refine And.intro (by first | omega | ((try simp only [go_sem, List.length_append, lim, lim2]) <;> omega) | assumption | exact ints_1 _ | exact rfl | (simp [ints]; done)) ?_)) <;> (first | rfl | first | omega | ((try simp only [go_sem, List.length_append, lim, lim2]) <;> omega) | assumption | exact ints_1 _ | exact rfl | (simp [ints]; done))
  simp only [List.length_cons, List.length_nil, Nat.reduceAdd, Nat.reduceLT, decide_true, if_true]
  refine Dd0 ?_
  (refine ⟨by simp, ?_⟩; simp only [go_sem, Try.results31])
  rw [List.take_length]
 ·have : w = [] := by simpa using hc
  simp [this] at h
theorem xsend2_spec (r : Int) (m : List Int) (s : List (Int × Int)) (w : List Int) (g n : Int) (hm : m.length ≤ 1000000) (hs : s.length ≤ 1000000) (hw : w.length ≤ 1000000) (h : w = []) (h2 : (m.length : Int) < r) : Ret Try.prog 31 [.agg [.int .i64 r, .sl false (ints m), .sl false (mails s), .sl false (ints w)], .int .i64 g, .int .i64 n] (.tup [.agg [.int .i64 r, .sl false (ints (m ++ [n])), .sl false (mails s), .sl false (ints [])], .int .i64 0, .bool true]) := by
 subst h
 refine Ret_of_body Try.func31 (by kernel_rfl) rfl ?_; rw [Try.ntmps31]
 refine Dd0 ?_
 refine TW_cond rfl (fun hc => ?_) (fun hc => ?_)
 ·simp at hc
 ·refine Dd0 ?_
  refine TW_cond rfl (fun hc => ?_) (fun hc => ?_)
  ·refine Dd0 ?_
   refine TW_sub (Sub_bl 8589934129) ?_
   refine TW_open mixed (by kernel_rfl) (fun b => ⟨[.junk, .int .i64 g, .int .i64 n, .ptr 3 0, .junk, .junk, .ptr 6 0, .int .i64 0, if b 14 = true then .bool true else .bool false, .junk, .junk, .junk, .junk, .junk, .junk, .junk, .junk, .junk, .junk, .junk, .junk, .junk, .junk, .junk, .junk, .junk, .junk, .junk, .junk, .junk, .junk, .junk, .junk, if b 0 = true then .ptr 3 0 else .junk, if b 1 = true then .int .i64 r else .junk, if b 2 = true then .bsl 35 else .junk, if b 3 = true then .ptr 3 1 else .junk, if b 4 = true then .sl false (ints m) else .junk, if b 5 = true then .bsl 38 else .junk, if b 6 = true then .int .i64 n else .junk, if b 7 = true then .bsl 40 else .junk, if b 8 = true then .bsl 41 else .junk, if b 9 = true then .ptr 3 2 else .junk, if b 10 = true then .sl false (mails s) else .junk, if b 11 = true then .agg [.int .i64 r, .bsl 41, .sl false (mails s), .nils] else .junk, .junk, .junk, .junk, .junk, .junk, .junk, .junk, .junk, .junk, .junk, .junk, .junk, .junk, .junk], [.un, .un, .un, .box [.int .i64 r, .sl false (ints m), .sl false (mails s), .sl false (ints [])], .un, .un, if b 12 = true then .box [.int .i64 r, .bsl 41, .sl false (mails s), .nils] else .box [.int .i64 0, .nils, .nils, .nils], .un, .un, .un, .un, .un, .un, .un, .un, .un, .un, .un, .un, .un, .un, .un, .un, .un, .un, .un, .un, .un, .un, .un, .un, .un, .un, .un, .un, if b 5 = true then .dead else if b 2 = true then .arr 2 1 [] else .un, .un, .un, if b 8 = true then .dead else if b 5 = true then .arr 2 1 (ints m) else .un, .un, if b 7 = true then .arr 2 1 [[.int .i64 n]] else .un, if b 8 = true then .arr 2 1 (ints (m ++ [n])) else .un, .un, .un, .un, .un, .un, .un, .un, .un, .un, .un, .un, .un, .un, .un, .un, .un, .un], 0⟩) rfl ?_ ?_
   ·skip
    (repeat refine Di ?_ (fun b hwW hbB hcC => ?_)); (exact trivial)
    ·exact Ds14 hbB (hwW.at 0 rfl) (hwW.at 1 rfl) (hwW.at 2 rfl) (hwW.at 3 rfl) (hwW.at 4 rfl) (hwW.at 5 rfl) (hwW.at 6 rfl) (hwW.at 7 rfl) (hwW.at 8 rfl) (hwW.at 9 rfl) (hwW.at 10 rfl) (hwW.at 11 rfl) (hwW.at 12 rfl) (hwW.at 13 rfl)
    ·exact Ds14 hbB (hwW.at 0 rfl) (hwW.at 1 rfl) (hwW.at 2 rfl) (hwW.at 3 rfl) (hwW.at 4 rfl) (hwW.at 5 rfl) (hwW.at 6 rfl) (hwW.at 7 rfl) (hwW.at 8 rfl) (hwW.at 9 rfl) (hwW.at 10 rfl) (hwW.at 11 rfl) (hwW.at 12 rfl) (hcC.l hbB 14 rfl)
    ·exact Ds14 hbB (hwW.at 0 rfl) (hwW.at 1 rfl) (hwW.at 2 rfl) (hwW.at 3 rfl) (hwW.at 4 rfl) (hwW.at 5 rfl) (hwW.at 6 rfl) (hwW.at 7 rfl) (hwW.at 8 rfl) (hwW.at 9 rfl) (hwW.at 10 rfl) (hwW.at 11 rfl) (hcC.l hbB 13 rfl) (hcC.l hbB 14 rfl)
    ·have w8 := hwW.at 8 rfl; have w5 := (hcC 8 _ rfl w8).at 5 rfl; exact Ds9 hbB (hwW.at 1 rfl) ((hcC 5 _ rfl w5).at 2 rfl) w5 ((hcC 8 _ rfl w8).at 7 rfl) w8 (hwW.at 10 rfl) (hcC.l hbB 12 rfl) (hcC.l hbB 13 rfl) (hcC.l hbB 14 rfl)
    ·exact Ds5 hbB (hwW.at 9 rfl) (hcC.l hbB 11 rfl) (hcC.l hbB 12 rfl) (hcC.l hbB 13 rfl) (hcC.l hbB 14 rfl)
    ·exact Ds4 hbB (hcC.l hbB 10 rfl) (hcC.l hbB 12 rfl) (hcC.l hbB 13 rfl) (hcC.l hbB 14 rfl)
    ·have w5 := hwW.at 5 rfl; exact Ds7 hbB ((hcC 5 _ rfl w5).at 2 rfl) w5 (hwW.at 7 rfl) (hcC.l hbB 11 rfl) (hcC.l hbB 12 rfl) (hcC.l hbB 13 rfl) (hcC.l hbB 14 rfl)
    ·exact Ds5 hbB (hwW.at 6 rfl) (hcC.l hbB 8 rfl) (hcC.l hbB 12 rfl) (hcC.l hbB 13 rfl) (hcC.l hbB 14 rfl)
    ·have l7 := hcC.l hbB 7 rfl; exact Ds5 hbB l7 (hcC.l l7 8 rfl) (hcC.l hbB 12 rfl) (hcC.l hbB 13 rfl) (hcC.l hbB 14 rfl)
    ·exact Ds6 hbB (hwW.at 2 rfl) (hwW.at 4 rfl) (hcC.l hbB 8 rfl) (hcC.l hbB 12 rfl) (hcC.l hbB 13 rfl) (hcC.l hbB 14 rfl)
    ·have l5 := hcC.l hbB 5 rfl; exact Ds6 hbB (hwW.at 3 rfl) l5 (hcC.l l5 8 rfl) (hcC.l hbB 12 rfl) (hcC.l hbB 13 rfl) (hcC.l hbB 14 rfl)
    ·have l4 := hcC.l hbB 4 rfl; have l5 := hcC.l l4 5 rfl; exact Ds6 hbB l4 l5 (hcC.l l5 8 rfl) (hcC.l hbB 12 rfl) (hcC.l hbB 13 rfl) (hcC.l hbB 14 rfl)
    ·have l5 := hcC.l hbB 5 rfl; exact Ds5 hbB l5 (hcC.l l5 8 rfl) (hcC.l hbB 12 rfl) (hcC.l hbB 13 rfl) (hcC.l hbB 14 rfl)
    ·exact Ds5 hbB (hwW.at 0 rfl) (hcC.l hbB 11 rfl) (hcC.l hbB 12 rfl) (hcC.l hbB 13 rfl) (hcC.l hbB 14 rfl)
    ·exact Ds4 hbB (hcC.l hbB 1 rfl) (hcC.l hbB 12 rfl) (hcC.l hbB 13 rfl) (hcC.l hbB 14 rfl)
   simp only [List.length_cons, List.length_nil, Nat.reduceAdd, Nat.reduceLT, decide_true, if_true]
   refine Dd0 ?_
   (refine ⟨by simp, ?_⟩; simp only [go_sem, Try.results31])
  ·simp at hc; omega
theorem xsend3_spec (r : Int) (m : List Int) (s : List (Int × Int)) (w : List Int) (g n : Int) (hm : m.length ≤ 1000000) (hs : s.length ≤ 1000000) (hw : w.length ≤ 1000000) (h : w = []) (h2 : ¬ (m.length : Int) < r) : Ret Try.prog 31 [.agg [.int .i64 r, .sl false (ints m), .sl false (mails s), .sl false (ints w)], .int .i64 g, .int .i64 n] (.tup [.agg [.int .i64 r, .sl false (ints m), .sl false (mails (s ++ [(g, n)])), .sl false (ints [])], .int .i64 0, .bool false]) := by
 subst h
 have hm2 := mails_2 s
 refine Ret_of_body Try.func31 (by kernel_rfl) rfl ?_; rw [Try.ntmps31]
 refine Dd0 ?_
 refine TW_cond rfl (fun hc => ?_) (fun hc => ?_)
 ·simp at hc
 ·refine Dd0 ?_
  refine TW_cond rfl (fun hc => ?_) (fun hc => ?_)
  ·simp at hc; omega
  ·refine Dd0 ?_
   refine TW_sub (Sub_bl 35184372088369) ?_
   refine TW_open mixed (by kernel_rfl) (fun b => ⟨[.junk, .int .i64 g, .int .i64 n, .ptr 3 0, .junk, .junk, .ptr 6 0, .int .i64 0, .bool false, .junk, .junk, .junk, .junk, .junk, .junk, .junk, .junk, .junk, .junk, .junk, .junk, .junk, .junk, .junk, .junk, .junk, .junk, .junk, .junk, .junk, .junk, .junk, .junk, .junk, .junk, .junk, .junk, .junk, .junk, .junk, .junk, .junk, .junk, .junk, .junk, if b 0 = true then .ptr 3 0 else .junk, if b 1 = true then .int .i64 r else .junk, if b 2 = true then .ptr 3 1 else .junk, if b 3 = true then .sl false (ints m) else .junk, if b 4 = true then .bsl 49 else .junk, if b 5 = true then .ptr 3 2 else .junk, if b 6 = true then .sl false (mails s) else .junk, if b 7 = true then .bsl 52 else .junk, if b 8 = true then .int .i64 g else .junk, if b 9 = true then .int .i64 n else .junk, if b 10 = true then .agg [.int .i64 g, .int .i64 n] else .junk, if b 11 = true then .bsl 56 else .junk, if b 12 = true then .bsl 57 else .junk, if b 13 = true then .agg [.int .i64 r, .sl false (ints m), .bsl 57, .nils] else .junk], [.un, .un, .un, .box [.int .i64 r, .sl false (ints m), .sl false (mails s), .sl false (ints [])], .un, .un, if b 14 = true then .box [.int .i64 r, .sl false (ints m), .bsl 57, .nils] else .box [.int .i64 0, .nils, .nils, .nils], .un, .un, .un, .un, .un, .un, .un, .un, .un, .un, .un, .un, .un, .un, .un, .un, .un, .un, .un, .un, .un, .un, .un, .un, .un, .un, .un, .un, .un, .un, .un, .un, .un, .un, .un, .un, .un, .un, .un, .un, .un, .un, if b 7 = true then .dead else if b 4 = true then .arr 70 2 [] else .un, .un, .un, if b 12 = true then .dead else if b 7 = true then .arr 70 2 (mails s) else .un, .un, .un, .un, if b 11 = true then .arr 70 2 [[.int .i64 g, .int .i64 n]] else .un, if b 12 = true then .arr 70 2 (mails (s ++ [(g, n)])) else .un, .un], 0⟩) rfl ?_ ?_
   ·skip
    (repeat refine Di ?_ (fun b hwW hbB hcC => ?_)); (exact trivial)
    ·exact Ds16 hbB (hwW.at 0 rfl) (hwW.at 1 rfl) (hwW.at 2 rfl) (hwW.at 3 rfl) (hwW.at 4 rfl) (hwW.at 5 rfl) (hwW.at 6 rfl) (hwW.at 7 rfl) (hwW.at 8 rfl) (hwW.at 9 rfl) (hwW.at 10 rfl) (hwW.at 11 rfl) (hwW.at 12 rfl) (hwW.at 13 rfl) (hwW.at 14 rfl) (hwW.at 15 rfl)
    ·exact Ds16 hbB (hwW.at 0 rfl) (hwW.at 1 rfl) (hwW.at 2 rfl) (hwW.at 3 rfl) (hwW.at 4 rfl) (hwW.at 5 rfl) (hwW.at 6 rfl) (hwW.at 7 rfl) (hwW.at 8 rfl) (hwW.at 9 rfl) (hwW.at 10 rfl) (hwW.at 11 rfl) (hwW.at 12 rfl) (hwW.at 13 rfl) (hwW.at 14 rfl) (hcC.l hbB 16 rfl)
    ·exact Ds16 hbB (hwW.at 0 rfl) (hwW.at 1 rfl) (hwW.at 2 rfl) (hwW.at 3 rfl) (hwW.at 4 rfl) (hwW.at 5 rfl) (hwW.at 6 rfl) (hwW.at 7 rfl) (hwW.at 8 rfl) (hwW.at 9 rfl) (hwW.at 10 rfl) (hwW.at 11 rfl) (hwW.at 12 rfl) (hwW.at 13 rfl) (hcC.l hbB 15 rfl) (hcC.l hbB 16 rfl)
    ·have w12 := hwW.at 12 rfl; have w7 := (hcC 12 _ rfl w12).at 7 rfl; exact Ds9 hbB (hwW.at 1 rfl) (hwW.at 3 rfl) ((hcC 7 _ rfl w7).at 4 rfl) w7 ((hcC 12 _ rfl w12).at 11 rfl) w12 (hcC.l hbB 14 rfl) (hcC.l hbB 15 rfl) (hcC.l hbB 16 rfl)
    ·have w7 := hwW.at 7 rfl; exact Ds7 hbB ((hcC 7 _ rfl w7).at 4 rfl) w7 (hwW.at 11 rfl) (hcC.l hbB 13 rfl) (hcC.l hbB 14 rfl) (hcC.l hbB 15 rfl) (hcC.l hbB 16 rfl)
    ·exact Ds5 hbB (hwW.at 10 rfl) (hcC.l hbB 12 rfl) (hcC.l hbB 14 rfl) (hcC.l hbB 15 rfl) (hcC.l hbB 16 rfl)
    ·have l11 := hcC.l hbB 11 rfl; exact Ds7 hbB (hwW.at 8 rfl) (hwW.at 9 rfl) l11 (hcC.l l11 12 rfl) (hcC.l hbB 14 rfl) (hcC.l hbB 15 rfl) (hcC.l hbB 16 rfl)
    ·have l10 := hcC.l hbB 10 rfl; have l11 := hcC.l l10 11 rfl; exact Ds6 hbB l10 l11 (hcC.l l11 12 rfl) (hcC.l hbB 14 rfl) (hcC.l hbB 15 rfl) (hcC.l hbB 16 rfl)
    ·have l10 := hcC.l hbB 10 rfl; have l11 := hcC.l l10 11 rfl; exact Ds6 hbB l10 l11 (hcC.l l11 12 rfl) (hcC.l hbB 14 rfl) (hcC.l hbB 15 rfl) (hcC.l hbB 16 rfl)
    ·exact Ds6 hbB (hwW.at 4 rfl) (hwW.at 6 rfl) (hcC.l hbB 12 rfl) (hcC.l hbB 14 rfl) (hcC.l hbB 15 rfl) (hcC.l hbB 16 rfl)
    ·have l7 := hcC.l hbB 7 rfl; exact Ds6 hbB (hwW.at 5 rfl) l7 (hcC.l l7 12 rfl) (hcC.l hbB 14 rfl) (hcC.l hbB 15 rfl) (hcC.l hbB 16 rfl)
    ·have l6 := hcC.l hbB 6 rfl; have l7 := hcC.l l6 7 rfl; exact Ds6 hbB l6 l7 (hcC.l l7 12 rfl) (hcC.l hbB 14 rfl) (hcC.l hbB 15 rfl) (hcC.l hbB 16 rfl)
    ·have l7 := hcC.l hbB 7 rfl; exact Ds5 hbB l7 (hcC.l l7 12 rfl) (hcC.l hbB 14 rfl) (hcC.l hbB 15 rfl) (hcC.l hbB 16 rfl)
    ·exact Ds5 hbB (hwW.at 2 rfl) (hcC.l hbB 13 rfl) (hcC.l hbB 14 rfl) (hcC.l hbB 15 rfl) (hcC.l hbB 16 rfl)
    ·exact Ds4 hbB (hcC.l hbB 3 rfl) (hcC.l hbB 14 rfl) (hcC.l hbB 15 rfl) (hcC.l hbB 16 rfl)
    ·exact Ds5 hbB (hwW.at 0 rfl) (hcC.l hbB 13 rfl) (hcC.l hbB 14 rfl) (hcC.l hbB 15 rfl) (hcC.l hbB 16 rfl)
    ·exact Ds4 hbB (hcC.l hbB 1 rfl) (hcC.l hbB 14 rfl) (hcC.l hbB 15 rfl) (hcC.l hbB 16 rfl)
   simp only [List.length_cons, List.length_nil, Nat.reduceAdd, Nat.reduceLT, decide_true, if_true]
   refine Dd0 ?_
   (refine ⟨by simp, ?_⟩; simp only [go_sem, Try.results31])
theorem xrecv1_spec (r : Int) (m : List Int) (s : List (Int × Int)) (w : List Int) (g : Int) (hm : m.length ≤ 1000000) (hs : s.length ≤ 1000000) (hw : w.length ≤ 1000000) (h : m = []) (h2 : s = []) : Ret Try.prog 33 [.agg [.int .i64 r, .sl false (ints m), .sl false (mails s), .sl false (ints w)], .int .i64 g] (.tup [.agg [.int .i64 r, .sl false (ints []), .sl false (mails []), .sl false (ints (w ++ [g]))], .int .i64 0, .int .i64 0, .bool false]) := by
 subst h; subst h2
 refine Ret_of_body Try.func33 (by kernel_rfl) rfl ?_; rw [Try.ntmps33]
 refine Dd0 ?_
 refine TW_cond rfl (fun hc => ?_) (fun hc => ?_)
 ·simp at hc
 ·refine Dd0 ?_
  refine TW_cond rfl (fun hc => ?_) (fun hc => ?_)
  ·simp at hc
  ·refine Dd0 ?_
   refine TW_sub (Sub_bl 1208925819614629174705929) ?_
   refine TW_open mixed (by kernel_rfl) (fun b => ⟨[.junk, .int .i64 g, .ptr 2 0, .junk, .ptr 4 0, .int .i64 0, .int .i64 0, .bool false, .junk, .junk, .junk, .junk, .junk, .junk, .junk, .junk, .junk, .junk, .junk, .junk, .junk, .junk, .junk, .junk, .junk, .junk, .junk, .junk, .junk, .junk, .junk, .junk, .junk, .junk, .junk, .junk, .junk, .junk, .junk, .junk, .junk, .junk, .junk, .junk, .junk, .junk, .junk, .junk, .junk, .junk, .junk, .junk, .junk, .junk, .junk, .junk, .junk, .junk, .junk, .junk, .junk, .junk, .junk, .junk, .junk, .junk, .junk, .junk, .junk, .junk, .junk, .junk, .junk, .junk, .junk, .junk, .junk, .junk, .junk, .junk, if b 0 = true then .ptr 2 0 else .junk, if b 1 = true then .int .i64 r else .junk, if b 2 = true then .bsl 82 else .junk, if b 3 = true then .ptr 2 3 else .junk, if b 4 = true then .sl false (ints w) else .junk, if b 5 = true then .bsl 85 else .junk, if b 6 = true then .int .i64 g else .junk, if b 7 = true then .bsl 87 else .junk, if b 8 = true then .bsl 88 else .junk, if b 9 = true then .agg [.int .i64 r, .nils, .nils, .bsl 88] else .junk], [.un, .un, .box [.int .i64 r, .sl false (ints []), .sl false (mails []), .sl false (ints w)], .un, if b 10 = true then .box [.int .i64 r, .nils, .nils, .bsl 88] else .box [.int .i64 0, .nils, .nils, .nils], .un, .un, .un, .un, .un, .un, .un, .un, .un, .un, .un, .un, .un, .un, .un, .un, .un, .un, .un, .un, .un, .un, .un, .un, .un, .un, .un, .un, .un, .un, .un, .un, .un, .un, .un, .un, .un, .un, .un, .un, .un, .un, .un, .un, .un, .un, .un, .un, .un, .un, .un, .un, .un, .un, .un, .un, .un, .un, .un, .un, .un, .un, .un, .un, .un, .un, .un, .un, .un, .un, .un, .un, .un, .un, .un, .un, .un, if b 5 = true then .dead else if b 2 = true then .arr 3 1 [] else .un, .un, .un, if b 8 = true then .dead else if b 5 = true then .arr 3 1 (ints w) else .un, .un, if b 7 = true then .arr 3 1 [[.int .i64 g]] else .un, if b 8 = true then .arr 3 1 (ints (w ++ [g])) else .un, .un], 0⟩) rfl ?_ ?_
   ·skip
    (repeat refine Di ?_ (fun b hwW hbB hcC => ?_)); (exact trivial)
    ·exact Ds13 hbB (hwW.at 0 rfl) (hwW.at 1 rfl) (hwW.at 2 rfl) (hwW.at 3 rfl) (hwW.at 4 rfl) (hwW.at 5 rfl) (hwW.at 6 rfl) (hwW.at 7 rfl) (hwW.at 8 rfl) (hwW.at 9 rfl) (hwW.at 10 rfl) (hwW.at 11 rfl) (hwW.at 12 rfl)
    ·exact Ds13 hbB (hwW.at 0 rfl) (hwW.at 1 rfl) (hwW.at 2 rfl) (hwW.at 3 rfl) (hwW.at 4 rfl) (hwW.at 5 rfl) (hwW.at 6 rfl) (hwW.at 7 rfl) (hwW.at 8 rfl) (hwW.at 9 rfl) (hwW.at 10 rfl) (hwW.at 11 rfl) (hcC.l hbB 13 rfl)
    ·exact Ds13 hbB (hwW.at 0 rfl) (hwW.at 1 rfl) (hwW.at 2 rfl) (hwW.at 3 rfl) (hwW.at 4 rfl) (hwW.at 5 rfl) (hwW.at 6 rfl) (hwW.at 7 rfl) (hwW.at 8 rfl) (hwW.at 9 rfl) (hwW.at 10 rfl) (hcC.l hbB 12 rfl) (hcC.l hbB 13 rfl)
    ·exact Ds13 hbB (hwW.at 0 rfl) (hwW.at 1 rfl) (hwW.at 2 rfl) (hwW.at 3 rfl) (hwW.at 4 rfl) (hwW.at 5 rfl) (hwW.at 6 rfl) (hwW.at 7 rfl) (hwW.at 8 rfl) (hwW.at 9 rfl) (hcC.l hbB 11 rfl) (hcC.l hbB 12 rfl) (hcC.l hbB 13 rfl)
    ·have w8 := hwW.at 8 rfl; have w5 := (hcC 8 _ rfl w8).at 5 rfl; exact Ds9 hbB (hwW.at 1 rfl) ((hcC 5 _ rfl w5).at 2 rfl) w5 ((hcC 8 _ rfl w8).at 7 rfl) w8 (hcC.l hbB 10 rfl) (hcC.l hbB 11 rfl) (hcC.l hbB 12 rfl) (hcC.l hbB 13 rfl)
    ·have w5 := hwW.at 5 rfl; exact Ds8 hbB ((hcC 5 _ rfl w5).at 2 rfl) w5 (hwW.at 7 rfl) (hcC.l hbB 9 rfl) (hcC.l hbB 10 rfl) (hcC.l hbB 11 rfl) (hcC.l hbB 12 rfl) (hcC.l hbB 13 rfl)
    ·exact Ds6 hbB (hwW.at 6 rfl) (hcC.l hbB 8 rfl) (hcC.l hbB 10 rfl) (hcC.l hbB 11 rfl) (hcC.l hbB 12 rfl) (hcC.l hbB 13 rfl)
    ·have l7 := hcC.l hbB 7 rfl; exact Ds6 hbB l7 (hcC.l l7 8 rfl) (hcC.l hbB 10 rfl) (hcC.l hbB 11 rfl) (hcC.l hbB 12 rfl) (hcC.l hbB 13 rfl)
    ·exact Ds7 hbB (hwW.at 2 rfl) (hwW.at 4 rfl) (hcC.l hbB 8 rfl) (hcC.l hbB 10 rfl) (hcC.l hbB 11 rfl) (hcC.l hbB 12 rfl) (hcC.l hbB 13 rfl)
    ·have l5 := hcC.l hbB 5 rfl; exact Ds7 hbB (hwW.at 3 rfl) l5 (hcC.l l5 8 rfl) (hcC.l hbB 10 rfl) (hcC.l hbB 11 rfl) (hcC.l hbB 12 rfl) (hcC.l hbB 13 rfl)
    ·have l4 := hcC.l hbB 4 rfl; have l5 := hcC.l l4 5 rfl; exact Ds7 hbB l4 l5 (hcC.l l5 8 rfl) (hcC.l hbB 10 rfl) (hcC.l hbB 11 rfl) (hcC.l hbB 12 rfl) (hcC.l hbB 13 rfl)
    ·have l5 := hcC.l hbB 5 rfl; exact Ds6 hbB l5 (hcC.l l5 8 rfl) (hcC.l hbB 10 rfl) (hcC.l hbB 11 rfl) (hcC.l hbB 12 rfl) (hcC.l hbB 13 rfl)
    ·exact Ds6 hbB (hwW.at 0 rfl) (hcC.l hbB 9 rfl) (hcC.l hbB 10 rfl) (hcC.l hbB 11 rfl) (hcC.l hbB 12 rfl) (hcC.l hbB 13 rfl)
    ·exact Ds5 hbB (hcC.l hbB 1 rfl) (hcC.l hbB 10 rfl) (hcC.l hbB 11 rfl) (hcC.l hbB 12 rfl) (hcC.l hbB 13 rfl)
   simp only [List.length_cons, List.length_nil, Nat.reduceAdd, Nat.reduceLT, decide_true, if_true]
   refine Dd0 ?_
   (refine ⟨by simp, ?_⟩; simp only [go_sem, Try.results33])
theorem xrecv2_spec (r : Int) (m : List Int) (s : List (Int × Int)) (w : List Int) (g : Int) (hm : m.length ≤ 1000000) (hs : s.length ≤ 1000000) (hw : w.length ≤ 1000000) (h : 0 < m.length) (h2 : s = []) : Ret Try.prog 33 [.agg [.int .i64 r, .sl false (ints m), .sl false (mails s), .sl false (ints w)], .int .i64 g] (.tup [.agg [.int .i64 r, .sl false (ints (m.drop 1)), .sl false (mails []), .sl false (ints w)], .int .i64 (m.getD 0 0), .int .i64 0, .bool true]) := by
 subst h2
 have hg := ints_get m 0 h
 refine Ret_of_body Try.func33 (by kernel_rfl) rfl ?_; rw [Try.ntmps33]
 refine Dd0 ?_
 refine TW_cond rfl (fun hc => ?_) (fun hc => ?_)
 ·repeat (first | ((with_reducible first | refine O1 rfl (fun N hN => ?_) | refine O2 rfl rfl rfl (fun N hN => ?_)); simp only [go_sem, Int.toNat_zero, hg, Int.reduceToNat]; (try refine Or.inl ?_); (repeat (refine And.intro (by first | omega | ((try simp only [go_sem, Int.toNat_zero, hg, Int.reduceToNat, List.length_append, lim, lim2]) <;> omega) | assumption | exact ints_1 _ | exact rfl | (simp [ints]; done)) ?_)); (first | refine hN _ ?_ | (intro _ _; refine hN _ ?_)); clear hN N) | with_reducible (first | apply Ea | apply Eb | apply Ec | apply Ed | apply Ee | apply Ef | apply Eg | apply Eh | apply Ei | apply Ej | apply Ek | apply El | apply Em | refine En rfl ?_ | apply Eo | apply Ep | apply Eq1 | apply Er | apply Es) | ((with_reducible first | refine O3 rfl rfl rfl rfl ?_ | refine O4 rfl rfl rfl ?_); simp only [go_sem, Int.toNat_zero, hg, Int.reduceToNat]))
  refine TW_cond rfl (fun hc => ?_) (fun hc => ?_)
  ·refine Dd0 ?_
   refine TW_sub (Sub_bl 4193289) ?_
   refine TW_open mixed (by kernel_rfl) (fun b => ⟨[.junk, .int .i64 g, .ptr 2 0, .junk, .ptr 4 0, if b 10 = true then .int .i64 (m.getD 0 0) else .int .i64 0, .int .i64 0, if b 12 = true then .bool true else .bool false, .int .i64 (m.getD 0 0), .junk, .junk, .junk, .junk, .junk, .junk, .junk, .junk, .junk, .junk, .junk, .junk, .junk, if b 0 = true then .ptr 2 0 else .junk, if b 1 = true then .int .i64 r else .junk, if b 2 = true then .ptr 2 1 else .junk, if b 3 = true then .sl false (ints m) else .junk, if b 4 = true then .sl false (ints (List.drop (Int.toNat 1) (List.take m.length m))) else .junk, if b 5 = true then .ptr 2 3 else .junk, if b 6 = true then .sl false (ints w) else .junk, if b 7 = true then .agg [.int .i64 r, .sl false (ints (List.drop (Int.toNat 1) (List.take m.length m))), .nils, .sl false (ints w)] else .junk, if b 8 = true then .int .i64 (m.getD 0 0) else .junk, .junk, .junk, .junk, .junk, .junk, .junk, .junk, .junk, .junk, .junk, .junk, .junk, .junk, .junk, .junk, .junk, .junk, .junk, .junk, .junk, .junk, .junk, .junk, .junk, .junk, .junk, .junk, .junk, .junk, .junk, .junk, .junk, .junk, .junk, .junk, .junk, .junk, .junk, .junk, .junk, .junk, .junk, .junk, .junk, .junk, .junk, .junk, .junk, .junk, .junk, .junk, .junk, .junk, .junk, .junk, .junk, .junk, .junk, .junk], [.un, .un, .box [.int .i64 r, .sl false (ints m), .sl false (mails []), .sl false (ints w)], .un, if b 9 = true then .box [.int .i64 r, .sl false (ints (List.drop (Int.toNat 1) (List.take m.length m))), .nils, .sl false (ints w)] else .box [.int .i64 0, .nils, .nils, .nils], .un, .un, .un, .un, .un, .un, .un, .un, .un, .un, .un, .un, .un, .un, .un, .un, .un, .un, .un, .un, .un, .un, .un, .un, .un, .un, .un, .un, .un, .un, .un, .un, .un, .un, .un, .un, .un, .un, .un, .un, .un, .un, .un, .un, .un, .un, .un, .un, .un, .un, .un, .un, .un, .un, .un, .un, .un, .un, .un, .un, .un, .un, .un, .un, .un, .un, .un, .un, .un, .un, .un, .un, .un, .un, .un, .un, .un, .un, .un, .un, .un, .un, .un, .un, .un], 0⟩) rfl ?_ ?_
   ·skip
    (repeat refine Di ?_ (fun b hwW hbB hcC => ?_)); (exact trivial)
    ·exact Ds12 hbB (hwW.at 0 rfl) (hwW.at 1 rfl) (hwW.at 2 rfl) (hwW.at 3 rfl) (hwW.at 4 rfl) (hwW.at 5 rfl) (hwW.at 6 rfl) (hwW.at 7 rfl) (hwW.at 8 rfl) (hwW.at 9 rfl) (hwW.at 10 rfl) (hwW.at 11 rfl)
    ·exact Ds12 hbB (hwW.at 0 rfl) (hwW.at 1 rfl) (hwW.at 2 rfl) (hwW.at 3 rfl) (hwW.at 4 rfl) (hwW.at 5 rfl) (hwW.at 6 rfl) (hwW.at 7 rfl) (hwW.at 8 rfl) (hwW.at 9 rfl) (hwW.at 10 rfl) (hcC.l hbB 12 rfl)
    ·exact Ds12 hbB (hwW.at 0 rfl) (hwW.at 1 rfl) (hwW.at 2 rfl) (hwW.at 3 rfl) (hwW.at 4 rfl) (hwW.at 5 rfl) (hwW.at 6 rfl) (hwW.at 7 rfl) (hwW.at 8 rfl) (hwW.at 9 rfl) (hcC.l hbB 11 rfl) (hcC.l hbB 12 rfl)
    ·exact Ds11 hbB (hwW.at 0 rfl) (hwW.at 1 rfl) (hwW.at 2 rfl) (hwW.at 3 rfl) (hwW.at 4 rfl) (hwW.at 5 rfl) (hwW.at 6 rfl) (hwW.at 7 rfl) (hcC.l hbB 10 rfl) (hcC.l hbB 11 rfl) (hcC.l hbB 12 rfl)
    ·exact Ds3 hbB (hcC.l hbB 10 rfl) (hcC.l hbB 11 rfl) (hcC.l hbB 12 rfl)
    ·exact Ds7 hbB (hwW.at 1 rfl) (hwW.at 4 rfl) (hwW.at 6 rfl) (hcC.l hbB 9 rfl) (hcC.l hbB 10 rfl) (hcC.l hbB 11 rfl) (hcC.l hbB 12 rfl)
    ·exact Ds6 hbB (hwW.at 5 rfl) (hcC.l hbB 7 rfl) (hcC.l hbB 9 rfl) (hcC.l hbB 10 rfl) (hcC.l hbB 11 rfl) (hcC.l hbB 12 rfl)
    ·exact Ds5 hbB (hcC.l hbB 6 rfl) (hcC.l hbB 9 rfl) (hcC.l hbB 10 rfl) (hcC.l hbB 11 rfl) (hcC.l hbB 12 rfl)
    ·exact Ds6 hbB (hwW.at 3 rfl) (hcC.l hbB 7 rfl) (hcC.l hbB 9 rfl) (hcC.l hbB 10 rfl) (hcC.l hbB 11 rfl) (hcC.l hbB 12 rfl)
    ·exact Ds6 hbB (hwW.at 2 rfl) (hcC.l hbB 4 rfl) (hcC.l hbB 9 rfl) (hcC.l hbB 10 rfl) (hcC.l hbB 11 rfl) (hcC.l hbB 12 rfl)
    ·have l3 := hcC.l hbB 3 rfl; exact Ds6 hbB l3 (hcC.l l3 4 rfl) (hcC.l hbB 9 rfl) (hcC.l hbB 10 rfl) (hcC.l hbB 11 rfl) (hcC.l hbB 12 rfl)
    ·exact Ds6 hbB (hwW.at 0 rfl) (hcC.l hbB 7 rfl) (hcC.l hbB 9 rfl) (hcC.l hbB 10 rfl) (hcC.l hbB 11 rfl) (hcC.l hbB 12 rfl)
    ·exact Ds5 hbB (hcC.l hbB 1 rfl) (hcC.l hbB 9 rfl) (hcC.l hbB 10 rfl) (hcC.l hbB 11 rfl) (hcC.l hbB 12 rfl)
   simp only [List.length_cons, List.length_nil, Nat.reduceAdd, Nat.reduceLT, decide_true, if_true]
   refine Dd0 ?_
   (refine ⟨by simp, ?_⟩; simp only [go_sem, Try.results33])
   simp
  ·simp at hc
 ·have : m = [] := by simpa using hc
  simp [this] at h
theorem xrecv3_spec (r : Int) (m : List Int) (s : List (Int × Int)) (w : List Int) (g : Int) (hm : m.length ≤ 999999) (hs : s.length ≤ 1000000) (hw : w.length ≤ 1000000) (h : 0 < m.length) (h2 : 0 < s.length) : Ret Try.prog 33 [.agg [.int .i64 r, .sl false (ints m), .sl false (mails s), .sl false (ints w)], .int .i64 g] (.tup [.agg [.int .i64 r, .sl false (ints (m.drop 1 ++ [(s.getD 0 (0, 0)).2])), .sl false (mails (s.drop 1)), .sl false (ints w)], .int .i64 (m.getD 0 0), .int .i64 (s.getD 0 (0, 0)).1, .bool true]) := by
 have hg := ints_get m 0 h
 have hg2 := mails_get s 0 h2
 have hm2 := mails_2 s
 refine Ret_of_body Try.func33 (by kernel_rfl) rfl ?_; rw [Try.ntmps33]
 refine Dd0 ?_
 refine TW_cond rfl (fun hc => ?_) (fun hc => ?_)
 ·repeat (first | ((with_reducible first | refine O1 rfl (fun N hN => ?_) | refine O2 rfl rfl rfl (fun N hN => ?_)); simp only [go_sem, Int.toNat_zero, hg, Int.reduceToNat]; (try refine Or.inl ?_); (repeat (refine And.intro (by first | omega | ((try simp only [go_sem, Int.toNat_zero, hg, Int.reduceToNat, List.length_append, lim, lim2]) <;> omega) | assumption | exact ints_1 _ | exact rfl | (simp [ints]; done)) ?_)); (first | refine hN _ ?_ | (intro _ _; refine hN _ ?_)); clear hN N) | with_reducible (first | apply Ea | apply Eb | apply Ec | apply Ed | apply Ee | apply Ef | apply Eg | apply Eh | apply Ei | apply Ej | apply Ek | apply El | apply Em | refine En rfl ?_ | apply Eo | apply Ep | apply Eq1 | apply Er | apply Es) | ((with_reducible first | refine O3 rfl rfl rfl rfl ?_ | refine O4 rfl rfl rfl ?_); simp only [go_sem, Int.toNat_zero, hg, Int.reduceToNat]))
  refine TW_cond rfl (fun hc => ?_) (fun hc => ?_)
  ·have : s = [] := by simpa using hc
   simp [this] at h2
  ·refine Dd0 ?_
   refine TW_sub (Sub_bl 2147482633) ?_
   refine TW_open mixed (by kernel_rfl) (fun b => ⟨[.junk, .int .i64 g, .ptr 2 0, .junk, .ptr 4 0, .int .i64 0, .int .i64 0, .bool false, .int .i64 (m.getD 0 0), if b 12 = true then .bsl 42 else .junk, .junk, .junk, .junk, .junk, .junk, .junk, .junk, .junk, .junk, .junk, .junk, .junk, .junk, .junk, .junk, .junk, .junk, .junk, .junk, .junk, .junk, if b 0 = true then .bsl 31 else .junk, if b 1 = true then .ptr 2 1 else .junk, if b 2 = true then .sl false (ints m) else .junk, if b 3 = true then .sl false (ints (List.drop 1 (List.take m.length m))) else .junk, if b 4 = true then .bsl 35 else .junk, if b 5 = true then .ptr 2 2 else .junk, if b 6 = true then .sl false (mails s) else .junk, if b 7 = true then .cptr [.int .i64 (s.getD 0 (0, 0)).fst, .int .i64 (s.getD 0 (0, 0)).snd] else .junk, if b 8 = true then .cptr [.int .i64 (s.getD 0 (0, 0)).snd] else .junk, if b 9 = true then .int .i64 (s.getD 0 (0, 0)).snd else .junk, if b 10 = true then .bsl 41 else .junk, if b 11 = true then .bsl 42 else .junk, .junk, .junk, .junk, .junk, .junk, .junk, .junk, .junk, .junk, .junk, .junk, .junk, .junk, .junk, .junk, .junk, .junk, .junk, .junk, .junk, .junk, .junk, .junk, .junk, .junk, .junk, .junk, .junk, .junk, .junk, .junk, .junk, .junk, .junk, .junk, .junk, .junk, .junk, .junk, .junk, .junk, .junk, .junk, .junk, .junk, .junk, .junk], [.un, .un, .box [.int .i64 r, .sl false (ints m), .sl false (mails s), .sl false (ints w)], .un, .box [.int .i64 0, .nils, .nils, .nils], .un, .un, .un, .un, .un, .un, .un, .un, .un, .un, .un, .un, .un, .un, .un, .un, .un, .un, .un, .un, .un, .un, .un, .un, .un, .un, if b 4 = true then .dead else if b 0 = true then .arr 2 1 [] else .un, .un, .un, .un, if b 11 = true then .dead else if b 4 = true then .arr 2 1 (ints (List.drop 1 (List.take m.length m))) else .un, .un, .un, .un, .un, .un, if b 10 = true then .arr 2 1 [[.int .i64 (s.getD 0 (0, 0)).snd]] else .un, if b 11 = true then .arr 2 1 (ints (List.drop 1 (List.take m.length m) ++ [(s.getD 0 (0, 0)).snd])) else .un, .un, .un, .un, .un, .un, .un, .un, .un, .un, .un, .un, .un, .un, .un, .un, .un, .un, .un, .un, .un, .un, .un, .un, .un, .un, .un, .un, .un, .un, .un, .un, .un, .un, .un, .un, .un, .un, .un, .un, .un, .un, .un, .un, .un, .un, .un, .un], 0⟩) rfl ?_ ?_
   ·skip
    (repeat refine Di ?_ (fun b hwW hbB hcC => ?_)); (exact trivial)
    ·have hbB : b 12 = false := hbB; have w11 := hwW.at 11 rfl; have w0 := hwW.at 0 rfl; have w1 := hwW.at 1 rfl; have w2 := hwW.at 2 rfl; have w3 := hwW.at 3 rfl; have w4 := hwW.at 4 rfl; have w5 := hwW.at 5 rfl; have w6 := hwW.at 6 rfl; have w7 := hwW.at 7 rfl; have w8 := hwW.at 8 rfl; have w9 := hwW.at 9 rfl; have w10 := hwW.at 10 rfl; simp only [vGuard, go_sem, hbB, upd, Bool.false_eq_true, w0, w1, w2, w3, w4, w5, w6, w7, w8, w9, w10, w11, Int.toNat_zero, hg, hg2, Int.reduceToNat] <;> (try refine Or.inl ?_) <;> (repeat (refine And.intro (by first | omega | ((try simp only [go_sem, List.length_append, lim, lim2]) <;> omega) | assumption | exact ints_1 _ | exact rfl | (simp [ints]; done)) ?_)) <;> (first | rfl | first | omega | ((try simp only [go_sem, List.length_append, lim, lim2]) <;> omega) | assumption | exact ints_1 _ | exact rfl | (simp [ints]; done))
    ·have hbB : b 11 = false := hbB; have w4 := hwW.at 4 rfl; have w10 := hwW.at 10 rfl; have w0 := (hcC 4 _ rfl w4).at 0 rfl; have w3 := (hcC 4 _ rfl w4).at 3 rfl; have l12 := hcC.l hbB 12 rfl; simp only [vGuard, go_sem, hbB, upd, Bool.false_eq_true, w0, w3, w4, w10, l12, Int.toNat_zero, hg, hg2, Int.reduceToNat] <;> (try refine Or.inl ?_) <;> (repeat (refine And.intro (by first | omega | ((try simp only [go_sem, List.length_append, lim, lim2]) <;> omega) | assumption | exact ints_1 _ | exact rfl | (simp [ints]; done)) ?_)) <;> (first | rfl | first | omega | ((try simp only [go_sem, List.length_append, lim, lim2]) <;> omega) | assumption | exact ints_1 _ | exact rfl | (simp [ints]; done))
    ·have hbB : b 10 = false := hbB; have w9 := hwW.at 9 rfl; have l11 := hcC.l hbB 11 rfl; have l12 := hcC.l hbB 12 rfl; simp only [vGuard, go_sem, hbB, upd, Bool.false_eq_true, w9, l11, l12, Int.toNat_zero, hg, hg2, Int.reduceToNat] <;> (try refine Or.inl ?_) <;> (repeat (refine And.intro (by first | omega | ((try simp only [go_sem, List.length_append, lim, lim2]) <;> omega) | assumption | exact ints_1 _ | exact rfl | (simp [ints]; done)) ?_)) <;> (first | rfl | first | omega | ((try simp only [go_sem, List.length_append, lim, lim2]) <;> omega) | assumption | exact ints_1 _ | exact rfl | (simp [ints]; done))
    ·have hbB : b 9 = false := hbB; have w8 := hwW.at 8 rfl; have l10 := hcC.l hbB 10 rfl; have l11 := hcC.l l10 11 rfl; have l12 := hcC.l hbB 12 rfl; simp only [vGuard, go_sem, hbB, upd, Bool.false_eq_true, w8, l10, l11, l12, Int.toNat_zero, hg, hg2, Int.reduceToNat] <;> (try refine Or.inl ?_) <;> (repeat (refine And.intro (by first | omega | ((try simp only [go_sem, List.length_append, lim, lim2]) <;> omega) | assumption | exact ints_1 _ | exact rfl | (simp [ints]; done)) ?_)) <;> (first | rfl | first | omega | ((try simp only [go_sem, List.length_append, lim, lim2]) <;> omega) | assumption | exact ints_1 _ | exact rfl | (simp [ints]; done))
    ·have hbB : b 8 = false := hbB; have w7 := hwW.at 7 rfl; have l9 := hcC.l hbB 9 rfl; have l10 := hcC.l l9 10 rfl; have l11 := hcC.l l10 11 rfl; have l12 := hcC.l hbB 12 rfl; simp only [vGuard, go_sem, hbB, upd, Bool.false_eq_true, w7, l9, l10, l11, l12, Int.toNat_zero, hg, hg2, Int.reduceToNat] <;> (try refine Or.inl ?_) <;> (repeat (refine And.intro (by first | omega | ((try simp only [go_sem, List.length_append, lim, lim2]) <;> omega) | assumption | exact ints_1 _ | exact rfl | (simp [ints]; done)) ?_)) <;> (first | rfl | first | omega | ((try simp only [go_sem, List.length_append, lim, lim2]) <;> omega) | assumption | exact ints_1 _ | exact rfl | (simp [ints]; done))
    ·have hbB : b 7 = false := hbB; have w6 := hwW.at 6 rfl; have l8 := hcC.l hbB 8 rfl; have l9 := hcC.l l8 9 rfl; have l10 := hcC.l l9 10 rfl; have l11 := hcC.l l10 11 rfl; have l12 := hcC.l hbB 12 rfl; simp only [vGuard, go_sem, hbB, upd, Bool.false_eq_true, w6, l8, l10, l11, l12, Int.toNat_zero, hg, hg2, Int.reduceToNat] <;> (try refine Or.inl ?_) <;> (repeat (refine And.intro (by first | omega | ((try simp only [go_sem, List.length_append, lim, lim2]) <;> omega) | assumption | exact ints_1 _ | exact rfl | (simp [ints]; done)) ?_)) <;> (first | rfl | first | omega | ((try simp only [go_sem, List.length_append, lim, lim2]) <;> omega) | assumption | exact ints_1 _ | exact rfl | (simp [ints]; done))
    ·have hbB : b 6 = false := hbB; have w5 := hwW.at 5 rfl; have l7 := hcC.l hbB 7 rfl; have l8 := hcC.l l7 8 rfl; have l9 := hcC.l l8 9 rfl; have l10 := hcC.l l9 10 rfl; have l11 := hcC.l l10 11 rfl; have l12 := hcC.l hbB 12 rfl; simp only [vGuard, go_sem, hbB, upd, Bool.false_eq_true, w5, l7, l10, l11, l12, Int.toNat_zero, hg, hg2, Int.reduceToNat] <;> (try refine Or.inl ?_) <;> (repeat (refine And.intro (by first | omega | ((try simp only [go_sem, List.length_append, lim, lim2]) <;> omega) | assumption | exact ints_1 _ | exact rfl | (simp [ints]; done)) ?_)) <;> (first | rfl | first | omega | ((try simp only [go_sem, List.length_append, lim, lim2]) <;> omega) | assumption | exact ints_1 _ | exact rfl | (simp [ints]; done))
    ·have hbB : b 5 = false := hbB; have l6 := hcC.l hbB 6 rfl; have l7 := hcC.l l6 7 rfl; have l8 := hcC.l l7 8 rfl; have l9 := hcC.l l8 9 rfl; have l10 := hcC.l l9 10 rfl; have l11 := hcC.l l10 11 rfl; have l12 := hcC.l hbB 12 rfl; simp only [vGuard, go_sem, hbB, upd, Bool.false_eq_true, l6, l10, l11, l12, Int.toNat_zero, hg, hg2, Int.reduceToNat] <;> (try refine Or.inl ?_) <;> (repeat (refine And.intro (by first | omega | ((try simp only [go_sem, List.length_append, lim, lim2]) <;> omega) | assumption | exact ints_1 _ | exact rfl | (simp [ints]; done)) ?_)) <;> (first | rfl | first | omega | ((try simp only [go_sem, List.length_append, lim, lim2]) <;> omega) | assumption | exact ints_1 _ | exact rfl | (simp [ints]; done))
    ·have hbB : b 4 = false := hbB; have w0 := hwW.at 0 rfl; have w3 := hwW.at 3 rfl; have l11 := hcC.l hbB 11 rfl; have l12 := hcC.l hbB 12 rfl; simp only [vGuard, go_sem, hbB, upd, Bool.false_eq_true, w0, w3, l11, l12, Int.toNat_zero, hg, hg2, Int.reduceToNat] <;> (try refine Or.inl ?_) <;> (repeat (refine And.intro (by first | omega | ((try simp only [go_sem, List.length_append, lim, lim2]) <;> omega) | assumption | exact ints_1 _ | exact rfl | (simp [ints]; done)) ?_)) <;> (first | rfl | first | omega | ((try simp only [go_sem, List.length_append, lim, lim2]) <;> omega) | assumption | exact ints_1 _ | exact rfl | (simp [ints]; done))
    ·have hbB : b 3 = false := hbB; have w2 := hwW.at 2 rfl; have l4 := hcC.l hbB 4 rfl; have l11 := hcC.l l4 11 rfl; have l12 := hcC.l hbB 12 rfl; simp only [vGuard, go_sem, hbB, upd, Bool.false_eq_true, w2, l4, l11, l12, Int.toNat_zero, hg, hg2, Int.reduceToNat] <;> (try refine Or.inl ?_) <;> (repeat (refine And.intro (by first | omega | ((try simp only [go_sem, List.length_append, lim, lim2]) <;> omega) | assumption | exact ints_1 _ | exact rfl | (simp [ints]; done)) ?_)) <;> (first | rfl | first | omega | ((try simp only [go_sem, List.length_append, lim, lim2]) <;> omega) | assumption | exact ints_1 _ | exact rfl | (simp [ints]; done))
    ·have hbB : b 2 = false := hbB; have w1 := hwW.at 1 rfl; have l3 := hcC.l hbB 3 rfl; have l4 := hcC.l l3 4 rfl; have l11 := hcC.l l4 11 rfl; have l12 := hcC.l hbB 12 rfl; simp only [vGuard, go_sem, hbB, upd, Bool.false_eq_true, w1, l3, l4, l11, l12, Int.toNat_zero, hg, hg2, Int.reduceToNat] <;> (try refine Or.inl ?_) <;> (repeat (refine And.intro (by first | omega | ((try simp only [go_sem, List.length_append, lim, lim2]) <;> omega) | assumption | exact ints_1 _ | exact rfl | (simp [ints]; done)) ?_)) <;> (first | rfl | first | omega | ((try simp only [go_sem, List.length_append, lim, lim2]) <;> omega) | assumption | exact ints_1 _ | exact rfl | (simp [ints]; done))
    ·have hbB : b 1 = false := hbB; have l2 := hcC.l hbB 2 rfl; have l3 := hcC.l l2 3 rfl; have l4 := hcC.l l3 4 rfl; have l11 := hcC.l l4 11 rfl; have l12 := hcC.l hbB 12 rfl; simp only [vGuard, go_sem, hbB, upd, Bool.false_eq_true, l2, l3, l4, l11, l12, Int.toNat_zero, hg, hg2, Int.reduceToNat] <;> (try refine Or.inl ?_) <;> (repeat (refine And.intro (by first | omega | ((try simp only [go_sem, List.length_append, lim, lim2]) <;> omega) | assumption | exact ints_1 _ | exact rfl | (simp [ints]; done)) ?_)) <;> (first | rfl | first | omega | ((try simp only [go_sem, List.length_append, lim, lim2]) <;> omega) | assumption | exact ints_1 _ | exact rfl | (simp [ints]; done))
    ·have hbB : b 0 = false := hbB; have l4 := hcC.l hbB 4 rfl; have l11 := hcC.l l4 11 rfl; have l12 := hcC.l hbB 12 rfl; simp only [vGuard, go_sem, hbB, upd, Bool.false_eq_true, l4, l11, l12, Int.toNat_zero, hg, hg2, Int.reduceToNat] <;> (try refine Or.inl ?_) <;> (repeat (refine And.intro (by first | omega | ((try simp only [go_sem, List.length_append, lim, lim2]) <;> omega) | assumption | exact ints_1 _ | exact rfl | (simp [ints]; done)) ?_)) <;> (first | rfl | first | omega | ((try simp only [go_sem, List.length_append, lim, lim2]) <;> omega) | assumption | exact ints_1 _ | exact rfl | (simp [ints]; done))
   simp only [List.length_cons, List.length_nil, Nat.reduceAdd, Nat.reduceLT, decide_true, if_true]
   refine Dd0 ?_
   refine TW_sub (Sub_bl 8796093021193) ?_
   refine TW_open mixed (by kernel_rfl) (fun b => ⟨[.junk, .int .i64 g, .ptr 2 0, .junk, .ptr 4 0, if b 16 = true then .int .i64 (m.getD 0 0) else .int .i64 0, if b 17 = true then .int .i64 (s.getD 0 (0, 0)).fst else .int .i64 0, if b 18 = true then .bool true else .bool false, .int .i64 (m.getD 0 0), .bsl 42, .junk, .junk, .junk, .junk, .junk, .junk, .junk, .junk, .junk, .junk, .junk, .junk, .junk, .junk, .junk, .junk, .junk, .junk, .junk, .junk, .junk, .junk, .junk, .junk, .junk, .junk, .junk, .junk, .junk, .junk, .junk, .junk, .junk, if b 0 = true then .ptr 2 0 else .junk, if b 1 = true then .int .i64 r else .junk, if b 2 = true then .bsl 42 else .junk, if b 3 = true then .ptr 2 2 else .junk, if b 4 = true then .sl false (mails s) else .junk, if b 5 = true then .sl false (mails (List.drop 1 (List.take s.length s))) else .junk, if b 6 = true then .ptr 2 3 else .junk, if b 7 = true then .sl false (ints w) else .junk, if b 8 = true then .agg [.int .i64 r, .bsl 42, .sl false (mails (List.drop 1 (List.take s.length s))), .sl false (ints w)] else .junk, if b 9 = true then .int .i64 (m.getD 0 0) else .junk, if b 10 = true then .ptr 2 2 else .junk, if b 11 = true then .sl false (mails s) else .junk, if b 12 = true then .cptr [.int .i64 (s.getD 0 (0, 0)).fst, .int .i64 (s.getD 0 (0, 0)).snd] else .junk, if b 13 = true then .cptr [.int .i64 (s.getD 0 (0, 0)).fst, .int .i64 (s.getD 0 (0, 0)).snd] else .junk, if b 14 = true then .int .i64 (s.getD 0 (0, 0)).fst else .junk, .junk, .junk, .junk, .junk, .junk, .junk, .junk, .junk, .junk, .junk, .junk, .junk, .junk, .junk, .junk, .junk, .junk, .junk, .junk, .junk, .junk, .junk, .junk, .junk, .junk, .junk, .junk, .junk, .junk, .junk, .junk, .junk], [.un, .un, .box [.int .i64 r, .sl false (ints m), .sl false (mails s), .sl false (ints w)], .un, if b 15 = true then .box [.int .i64 r, .bsl 42, .sl false (mails (List.drop 1 (List.take s.length s))), .sl false (ints w)] else .box [.int .i64 0, .nils, .nils, .nils], .un, .un, .un, .un, .un, .un, .un, .un, .un, .un, .un, .un, .un, .un, .un, .un, .un, .un, .un, .un, .un, .un, .un, .un, .un, .un, .dead, .un, .un, .un, .dead, .un, .un, .un, .un, .un, .arr 2 1 [[.int .i64 (s.getD 0 (0, 0)).snd]], .arr 2 1 (ints (List.drop 1 (List.take m.length m) ++ [(s.getD 0 (0, 0)).snd])), .un, .un, .un, .un, .un, .un, .un, .un, .un, .un, .un, .un, .un, .un, .un, .un, .un, .un, .un, .un, .un, .un, .un, .un, .un, .un, .un, .un, .un, .un, .un, .un, .un, .un, .un, .un, .un, .un, .un, .un, .un, .un, .un, .un, .un, .un, .un], 0⟩) rfl ?_ ?_
   ·skip
    (repeat refine Di ?_ (fun b hwW hbB hcC => ?_)); (exact trivial)
    ·have hbB : b 18 = false := hbB; have w17 := hwW.at 17 rfl; have w0 := hwW.at 0 rfl; have w1 := hwW.at 1 rfl; have w2 := hwW.at 2 rfl; have w3 := hwW.at 3 rfl; have w4 := hwW.at 4 rfl; have w5 := hwW.at 5 rfl; have w6 := hwW.at 6 rfl; have w7 := hwW.at 7 rfl; have w8 := hwW.at 8 rfl; have w9 := hwW.at 9 rfl; have w10 := hwW.at 10 rfl; have w11 := hwW.at 11 rfl; have w12 := hwW.at 12 rfl; have w13 := hwW.at 13 rfl; have w14 := hwW.at 14 rfl; have w15 := hwW.at 15 rfl; have w16 := hwW.at 16 rfl; simp only [vGuard, go_sem, hbB, upd, Bool.false_eq_true, w0, w1, w2, w3, w4, w5, w6, w7, w8, w9, w10, w11, w12, w13, w14, w15, w16, w17, Int.toNat_zero, hg, hg2, Int.reduceToNat] <;> (try refine Or.inl ?_) <;> (repeat (refine And.intro (by first | omega | ((try simp only [go_sem, List.length_append, lim, lim2]) <;> omega) | assumption | exact ints_1 _ | exact rfl | (simp [ints]; done)) ?_)) <;> (first | rfl | first | omega | ((try simp only [go_sem, List.length_append, lim, lim2]) <;> omega) | assumption | exact ints_1 _ | exact rfl | (simp [ints]; done))
    ·have hbB : b 17 = false := hbB; have w14 := hwW.at 14 rfl; have w16 := hwW.at 16 rfl; have w0 := hwW.at 0 rfl; have w1 := hwW.at 1 rfl; have w2 := hwW.at 2 rfl; have w3 := hwW.at 3 rfl; have w4 := hwW.at 4 rfl; have w5 := hwW.at 5 rfl; have w6 := hwW.at 6 rfl; have w7 := hwW.at 7 rfl; have w8 := hwW.at 8 rfl; have w9 := hwW.at 9 rfl; have w10 := hwW.at 10 rfl; have w11 := hwW.at 11 rfl; have w12 := hwW.at 12 rfl; have w13 := hwW.at 13 rfl; have w15 := hwW.at 15 rfl; have l18 := hcC.l hbB 18 rfl; simp only [vGuard, go_sem, hbB, upd, Bool.false_eq_true, w0, w1, w2, w3, w4, w5, w6, w7, w8, w9, w10, w11, w12, w13, w14, w15, w16, l18, Int.toNat_zero, hg, hg2, Int.reduceToNat] <;> (try refine Or.inl ?_) <;> (repeat (refine And.intro (by first | omega | ((try simp only [go_sem, List.length_append, lim, lim2]) <;> omega) | assumption | exact ints_1 _ | exact rfl | (simp [ints]; done)) ?_)) <;> (first | rfl | first | omega | ((try simp only [go_sem, List.length_append, lim, lim2]) <;> omega) | assumption | exact ints_1 _ | exact rfl | (simp [ints]; done))
    ·have hbB : b 16 = false := hbB; have w9 := hwW.at 9 rfl; have w15 := hwW.at 15 rfl; have w0 := hwW.at 0 rfl; have w1 := hwW.at 1 rfl; have w2 := hwW.at 2 rfl; have w3 := hwW.at 3 rfl; have w4 := hwW.at 4 rfl; have w5 := hwW.at 5 rfl; have w6 := hwW.at 6 rfl; have w7 := hwW.at 7 rfl; have w8 := hwW.at 8 rfl; have l17 := hcC.l hbB 17 rfl; have l18 := hcC.l hbB 18 rfl; simp only [vGuard, go_sem, hbB, upd, Bool.false_eq_true, w0, w1, w2, w3, w4, w5, w6, w7, w8, w9, w15, l17, l18, Int.toNat_zero, hg, hg2, Int.reduceToNat] <;> (try refine Or.inl ?_) <;> (repeat (refine And.intro (by first | omega | ((try simp only [go_sem, List.length_append, lim, lim2]) <;> omega) | assumption | exact ints_1 _ | exact rfl | (simp [ints]; done)) ?_)) <;> (first | rfl | first | omega | ((try simp only [go_sem, List.length_append, lim, lim2]) <;> omega) | assumption | exact ints_1 _ | exact rfl | (simp [ints]; done))
    ·have hbB : b 15 = false := hbB; have w8 := hwW.at 8 rfl; have w0 := hwW.at 0 rfl; have w1 := hwW.at 1 rfl; have w2 := hwW.at 2 rfl; have w3 := hwW.at 3 rfl; have w4 := hwW.at 4 rfl; have w5 := hwW.at 5 rfl; have w6 := hwW.at 6 rfl; have w7 := hwW.at 7 rfl; have l16 := hcC.l hbB 16 rfl; have l17 := hcC.l hbB 17 rfl; have l18 := hcC.l hbB 18 rfl; simp only [vGuard, go_sem, hbB, upd, Bool.false_eq_true, w0, w1, w2, w3, w4, w5, w6, w7, w8, l16, l17, l18, Int.toNat_zero, hg, hg2, Int.reduceToNat] <;> (try refine Or.inl ?_) <;> (repeat (refine And.intro (by first | omega | ((try simp only [go_sem, List.length_append, lim, lim2]) <;> omega) | assumption | exact ints_1 _ | exact rfl | (simp [ints]; done)) ?_)) <;> (first | rfl | first | omega | ((try simp only [go_sem, List.length_append, lim, lim2]) <;> omega) | assumption | exact ints_1 _ | exact rfl | (simp [ints]; done))
    ·have hbB : b 14 = false := hbB; have w13 := hwW.at 13 rfl; have l17 := hcC.l hbB 17 rfl; have l18 := hcC.l hbB 18 rfl; simp only [vGuard, go_sem, hbB, upd, Bool.false_eq_true, w13, l17, l18, Int.toNat_zero, hg, hg2, Int.reduceToNat] <;> (try refine Or.inl ?_) <;> (repeat (refine And.intro (by first | omega | ((try simp only [go_sem, List.length_append, lim, lim2]) <;> omega) | assumption | exact ints_1 _ | exact rfl | (simp [ints]; done)) ?_)) <;> (first | rfl | first | omega | ((try simp only [go_sem, List.length_append, lim, lim2]) <;> omega) | assumption | exact ints_1 _ | exact rfl | (simp [ints]; done))
    ·have hbB : b 13 = false := hbB; have w12 := hwW.at 12 rfl; have l14 := hcC.l hbB 14 rfl; have l17 := hcC.l hbB 17 rfl; have l18 := hcC.l hbB 18 rfl; simp only [vGuard, go_sem, hbB, upd, Bool.false_eq_true, w12, l14, l17, l18, Int.toNat_zero, hg, hg2, Int.reduceToNat] <;> (try refine Or.inl ?_) <;> (repeat (refine And.intro (by first | omega | ((try simp only [go_sem, List.length_append, lim, lim2]) <;> omega) | assumption | exact ints_1 _ | exact rfl | (simp [ints]; done)) ?_)) <;> (first | rfl | first | omega | ((try simp only [go_sem, List.length_append, lim, lim2]) <;> omega) | assumption | exact ints_1 _ | exact rfl | (simp [ints]; done))
    ·have hbB : b 12 = false := hbB; have w11 := hwW.at 11 rfl; have l13 := hcC.l hbB 13 rfl; have l17 := hcC.l hbB 17 rfl; have l18 := hcC.l hbB 18 rfl; simp only [vGuard, go_sem, hbB, upd, Bool.false_eq_true, w11, l13, l17, l18, Int.toNat_zero, hg, hg2, Int.reduceToNat] <;> (try refine Or.inl ?_) <;> (repeat (refine And.intro (by first | omega | ((try simp only [go_sem, List.length_append, lim, lim2]) <;> omega) | assumption | exact ints_1 _ | exact rfl | (simp [ints]; done)) ?_)) <;> (first | rfl | first | omega | ((try simp only [go_sem, List.length_append, lim, lim2]) <;> omega) | assumption | exact ints_1 _ | exact rfl | (simp [ints]; done))
    ·have hbB : b 11 = false := hbB; have w10 := hwW.at 10 rfl; have l12 := hcC.l hbB 12 rfl; have l17 := hcC.l hbB 17 rfl; have l18 := hcC.l hbB 18 rfl; simp only [vGuard, go_sem, hbB, upd, Bool.false_eq_true, w10, l12, l17, l18, Int.toNat_zero, hg, hg2, Int.reduceToNat] <;> (try refine Or.inl ?_) <;> (repeat (refine And.intro (by first | omega | ((try simp only [go_sem, List.length_append, lim, lim2]) <;> omega) | assumption | exact ints_1 _ | exact rfl | (simp [ints]; done)) ?_)) <;> (first | rfl | first | omega | ((try simp only [go_sem, List.length_append, lim, lim2]) <;> omega) | assumption | exact ints_1 _ | exact rfl | (simp [ints]; done))
    ·have hbB : b 10 = false := hbB; have l11 := hcC.l hbB 11 rfl; have l17 := hcC.l hbB 17 rfl; have l18 := hcC.l hbB 18 rfl; simp only [vGuard, go_sem, hbB, upd, Bool.false_eq_true, l11, l17, l18, Int.toNat_zero, hg, hg2, Int.reduceToNat] <;> (try refine Or.inl ?_) <;> (repeat (refine And.intro (by first | omega | ((try simp only [go_sem, List.length_append, lim, lim2]) <;> omega) | assumption | exact ints_1 _ | exact rfl | (simp [ints]; done)) ?_)) <;> (first | rfl | first | omega | ((try simp only [go_sem, List.length_append, lim, lim2]) <;> omega) | assumption | exact ints_1 _ | exact rfl | (simp [ints]; done))
    ·have hbB : b 9 = false := hbB; have l16 := hcC.l hbB 16 rfl; have l17 := hcC.l hbB 17 rfl; have l18 := hcC.l hbB 18 rfl; simp only [vGuard, go_sem, hbB, upd, Bool.false_eq_true, l16, l17, l18, Int.toNat_zero, hg, hg2, Int.reduceToNat] <;> (try refine Or.inl ?_) <;> (repeat (refine And.intro (by first | omega | ((try simp only [go_sem, List.length_append, lim, lim2]) <;> omega) | assumption | exact ints_1 _ | exact rfl | (simp [ints]; done)) ?_)) <;> (first | rfl | first | omega | ((try simp only [go_sem, List.length_append, lim, lim2]) <;> omega) | assumption | exact ints_1 _ | exact rfl | (simp [ints]; done))
    ·have hbB : b 8 = false := hbB; have w1 := hwW.at 1 rfl; have w2 := hwW.at 2 rfl; have w5 := hwW.at 5 rfl; have w7 := hwW.at 7 rfl; have l15 := hcC.l hbB 15 rfl; have l16 := hcC.l hbB 16 rfl; have l17 := hcC.l hbB 17 rfl; have l18 := hcC.l hbB 18 rfl; simp only [vGuard, go_sem, hbB, upd, Bool.false_eq_true, w1, w2, w5, w7, l15, l16, l17, l18, Int.toNat_zero, hg, hg2, Int.reduceToNat] <;> (try refine Or.inl ?_) <;> (repeat (refine And.intro (by first | omega | ((try simp only [go_sem, List.length_append, lim, lim2]) <;> omega) | assumption | exact ints_1 _ | exact rfl | (simp [ints]; done)) ?_)) <;> (first | rfl | first | omega | ((try simp only [go_sem, List.length_append, lim, lim2]) <;> omega) | assumption | exact ints_1 _ | exact rfl | (simp [ints]; done))
    ·have hbB : b 7 = false := hbB; have w6 := hwW.at 6 rfl; have l8 := hcC.l hbB 8 rfl; have l15 := hcC.l hbB 15 rfl; have l16 := hcC.l hbB 16 rfl; have l17 := hcC.l hbB 17 rfl; have l18 := hcC.l hbB 18 rfl; simp only [vGuard, go_sem, hbB, upd, Bool.false_eq_true, w6, l8, l15, l16, l17, l18, Int.toNat_zero, hg, hg2, Int.reduceToNat] <;> (try refine Or.inl ?_) <;> (repeat (refine And.intro (by first | omega | ((try simp only [go_sem, List.length_append, lim, lim2]) <;> omega) | assumption | exact ints_1 _ | exact rfl | (simp [ints]; done)) ?_)) <;> (first | rfl | first | omega | ((try simp only [go_sem, List.length_append, lim, lim2]) <;> omega) | assumption | exact ints_1 _ | exact rfl | (simp [ints]; done))
    ·have hbB : b 6 = false := hbB; have l7 := hcC.l hbB 7 rfl; have l15 := hcC.l hbB 15 rfl; have l16 := hcC.l hbB 16 rfl; have l17 := hcC.l hbB 17 rfl; have l18 := hcC.l hbB 18 rfl; simp only [vGuard, go_sem, hbB, upd, Bool.false_eq_true, l7, l15, l16, l17, l18, Int.toNat_zero, hg, hg2, Int.reduceToNat] <;> (try refine Or.inl ?_) <;> (repeat (refine And.intro (by first | omega | ((try simp only [go_sem, List.length_append, lim, lim2]) <;> omega) | assumption | exact ints_1 _ | exact rfl | (simp [ints]; done)) ?_)) <;> (first | rfl | first | omega | ((try simp only [go_sem, List.length_append, lim, lim2]) <;> omega) | assumption | exact ints_1 _ | exact rfl | (simp [ints]; done))
    ·have hbB : b 5 = false := hbB; have w4 := hwW.at 4 rfl; have l8 := hcC.l hbB 8 rfl; have l15 := hcC.l hbB 15 rfl; have l16 := hcC.l hbB 16 rfl; have l17 := hcC.l hbB 17 rfl; have l18 := hcC.l hbB 18 rfl; simp only [vGuard, go_sem, hbB, upd, Bool.false_eq_true, w4, l8, l15, l16, l17, l18, Int.toNat_zero, hg, hg2, Int.reduceToNat] <;> (try refine Or.inl ?_) <;> (repeat (refine And.intro (by first | omega | ((try simp only [go_sem, List.length_append, lim, lim2]) <;> omega) | assumption | exact ints_1 _ | exact rfl | (simp [ints]; done)) ?_)) <;> (first | rfl | first | omega | ((try simp only [go_sem, List.length_append, lim, lim2]) <;> omega) | assumption | exact ints_1 _ | exact rfl | (simp [ints]; done))
    ·have hbB : b 4 = false := hbB; have w3 := hwW.at 3 rfl; have l5 := hcC.l hbB 5 rfl; have l15 := hcC.l hbB 15 rfl; have l16 := hcC.l hbB 16 rfl; have l17 := hcC.l hbB 17 rfl; have l18 := hcC.l hbB 18 rfl; simp only [vGuard, go_sem, hbB, upd, Bool.false_eq_true, w3, l5, l15, l16, l17, l18, Int.toNat_zero, hg, hg2, Int.reduceToNat] <;> (try refine Or.inl ?_) <;> (repeat (refine And.intro (by first | omega | ((try simp only [go_sem, List.length_append, lim, lim2]) <;> omega) | assumption | exact ints_1 _ | exact rfl | (simp [ints]; done)) ?_)) <;> (first | rfl | first | omega | ((try simp only [go_sem, List.length_append, lim, lim2]) <;> omega) | assumption | exact ints_1 _ | exact rfl | (simp [ints]; done))
    ·have hbB : b 3 = false := hbB; have l4 := hcC.l hbB 4 rfl; have l5 := hcC.l l4 5 rfl; have l15 := hcC.l hbB 15 rfl; have l16 := hcC.l hbB 16 rfl; have l17 := hcC.l hbB 17 rfl; have l18 := hcC.l hbB 18 rfl; simp only [vGuard, go_sem, hbB, upd, Bool.false_eq_true, l4, l5, l15, l16, l17, l18, Int.toNat_zero, hg, hg2, Int.reduceToNat] <;> (try refine Or.inl ?_) <;> (repeat (refine And.intro (by first | omega | ((try simp only [go_sem, List.length_append, lim, lim2]) <;> omega) | assumption | exact ints_1 _ | exact rfl | (simp [ints]; done)) ?_)) <;> (first | rfl | first | omega | ((try simp only [go_sem, List.length_append, lim, lim2]) <;> omega) | assumption | exact ints_1 _ | exact rfl | (simp [ints]; done))
    ·have hbB : b 2 = false := hbB; have l8 := hcC.l hbB 8 rfl; have l15 := hcC.l hbB 15 rfl; have l16 := hcC.l hbB 16 rfl; have l17 := hcC.l hbB 17 rfl; have l18 := hcC.l hbB 18 rfl; simp only [vGuard, go_sem, hbB, upd, Bool.false_eq_true, l8, l15, l16, l17, l18, Int.toNat_zero, hg, hg2, Int.reduceToNat] <;> (try refine Or.inl ?_) <;> (repeat (refine And.intro (by first | omega | ((try simp only [go_sem, List.length_append, lim, lim2]) <;> omega) | assumption | exact ints_1 _ | exact rfl | (simp [ints]; done)) ?_)) <;> (first | rfl | first | omega | ((try simp only [go_sem, List.length_append, lim, lim2]) <;> omega) | assumption | exact ints_1 _ | exact rfl | (simp [ints]; done))
    ·have hbB : b 1 = false := hbB; have w0 := hwW.at 0 rfl; have l8 := hcC.l hbB 8 rfl; have l15 := hcC.l hbB 15 rfl; have l16 := hcC.l hbB 16 rfl; have l17 := hcC.l hbB 17 rfl; have l18 := hcC.l hbB 18 rfl; simp only [vGuard, go_sem, hbB, upd, Bool.false_eq_true, w0, l8, l15, l16, l17, l18, Int.toNat_zero, hg, hg2, Int.reduceToNat] <;> (try refine Or.inl ?_) <;> (repeat (refine And.intro (by first | omega | ((try simp only [go_sem, List.length_append, lim, lim2]) <;> omega) | assumption | exact ints_1 _ | exact rfl | (simp [ints]; done)) ?_)) <;> (first | rfl | first | omega | ((try simp only [go_sem, List.length_append, lim, lim2]) <;> omega) | assumption | exact ints_1 _ | exact rfl | (simp [ints]; done))
    ·have hbB : b 0 = false := hbB; have l1 := hcC.l hbB 1 rfl; have l15 := hcC.l hbB 15 rfl; have l16 := hcC.l hbB 16 rfl; have l17 := hcC.l hbB 17 rfl; have l18 := hcC.l hbB 18 rfl; simp only [vGuard, go_sem, hbB, upd, Bool.false_eq_true, l1, l15, l16, l17, l18, Int.toNat_zero, hg, hg2, Int.reduceToNat] <;> (try refine Or.inl ?_) <;> (repeat (refine And.intro (by first | omega | ((try simp only [go_sem, List.length_append, lim, lim2]) <;> omega) | assumption | exact ints_1 _ | exact rfl | (simp [ints]; done)) ?_)) <;> (first | rfl | first | omega | ((try simp only [go_sem, List.length_append, lim, lim2]) <;> omega) | assumption | exact ints_1 _ | exact rfl | (simp [ints]; done))
   simp only [List.length_cons, List.length_nil, Nat.reduceAdd, Nat.reduceLT, decide_true, if_true]
   refine Dd0 ?_
   (refine ⟨by simp, ?_⟩; simp only [go_sem, Try.results33])
   simp
 ·have : m = [] := by simpa using hc
  simp [this] at h
theorem xrecv4_spec (r : Int) (m : List Int) (s : List (Int × Int)) (w : List Int) (g : Int) (hm : m.length ≤ 999999) (hs : s.length ≤ 1000000) (hw : w.length ≤ 1000000) (h : m = []) (h2 : 0 < s.length) : Ret Try.prog 33 [.agg [.int .i64 r, .sl false (ints m), .sl false (mails s), .sl false (ints w)], .int .i64 g] (.tup [.agg [.int .i64 r, .sl false (ints []), .sl false (mails (s.drop 1)), .sl false (ints w)], .int .i64 (s.getD 0 (0, 0)).2, .int .i64 (s.getD 0 (0, 0)).1, .bool true]) := by
 subst h
 have hg2 := mails_get s 0 h2
 have hm2 := mails_2 s
 refine Ret_of_body Try.func33 (by kernel_rfl) rfl ?_; rw [Try.ntmps33]
 refine Dd0 ?_
 refine TW_cond rfl (fun hc => ?_) (fun hc => ?_)
 ·simp at hc
 ·refine Dd0 ?_
  refine TW_cond rfl (fun hc => ?_) (fun hc => ?_)
  ·refine Dd0 ?_
   refine TW_sub (Sub_bl 4611686018427387657) ?_
   refine TW_open mixed (by kernel_rfl) (fun b => ⟨[.junk, .int .i64 g, .ptr 2 0, .junk, .ptr 4 0, if b 19 = true then .int .i64 (s.getD 0 (0, 0)).snd else .int .i64 0, if b 20 = true then .int .i64 (s.getD 0 (0, 0)).fst else .int .i64 0, if b 21 = true then .bool true else .bool false, .junk, .junk, .junk, .junk, .junk, .junk, .junk, .junk, .junk, .junk, .junk, .junk, .junk, .junk, .junk, .junk, .junk, .junk, .junk, .junk, .junk, .junk, .junk, .junk, .junk, .junk, .junk, .junk, .junk, .junk, .junk, .junk, .junk, .junk, .junk, .junk, .junk, .junk, .junk, .junk, .junk, .junk, .junk, .junk, .junk, .junk, .junk, .junk, .junk, .junk, .junk, .junk, .junk, .junk, if b 0 = true then .ptr 2 0 else .junk, if b 1 = true then .int .i64 r else .junk, if b 2 = true then .ptr 2 2 else .junk, if b 3 = true then .sl false (mails s) else .junk, if b 4 = true then .sl false (mails (List.drop 1 (List.take s.length s))) else .junk, if b 5 = true then .ptr 2 3 else .junk, if b 6 = true then .sl false (ints w) else .junk, if b 7 = true then .agg [.int .i64 r, .nils, .sl false (mails (List.drop 1 (List.take s.length s))), .sl false (ints w)] else .junk, if b 8 = true then .ptr 2 2 else .junk, if b 9 = true then .sl false (mails s) else .junk, if b 10 = true then .cptr [.int .i64 (s.getD 0 (0, 0)).fst, .int .i64 (s.getD 0 (0, 0)).snd] else .junk, if b 11 = true then .cptr [.int .i64 (s.getD 0 (0, 0)).snd] else .junk, if b 12 = true then .int .i64 (s.getD 0 (0, 0)).snd else .junk, if b 13 = true then .ptr 2 2 else .junk, if b 14 = true then .sl false (mails s) else .junk, if b 15 = true then .cptr [.int .i64 (s.getD 0 (0, 0)).fst, .int .i64 (s.getD 0 (0, 0)).snd] else .junk, if b 16 = true then .cptr [.int .i64 (s.getD 0 (0, 0)).fst, .int .i64 (s.getD 0 (0, 0)).snd] else .junk, if b 17 = true then .int .i64 (s.getD 0 (0, 0)).fst else .junk, .junk, .junk, .junk, .junk, .junk, .junk, .junk, .junk, .junk, .junk], [.un, .un, .box [.int .i64 r, .sl false (ints []), .sl false (mails s), .sl false (ints w)], .un, if b 18 = true then .box [.int .i64 r, .nils, .sl false (mails (List.drop 1 (List.take s.length s))), .sl false (ints w)] else .box [.int .i64 0, .nils, .nils, .nils], .un, .un, .un, .un, .un, .un, .un, .un, .un, .un, .un, .un, .un, .un, .un, .un, .un, .un, .un, .un, .un, .un, .un, .un, .un, .un, .un, .un, .un, .un, .un, .un, .un, .un, .un, .un, .un, .un, .un, .un, .un, .un, .un, .un, .un, .un, .un, .un, .un, .un, .un, .un, .un, .un, .un, .un, .un, .un, .un, .un, .un, .un, .un, .un, .un, .un, .un, .un, .un, .un, .un, .un, .un, .un, .un, .un, .un, .un, .un, .un, .un, .un, .un, .un, .un], 0⟩) rfl ?_ ?_
   ·skip
    (repeat refine Di ?_ (fun b hwW hbB hcC => ?_)); (exact trivial)
    ·have hbB : b 21 = false := hbB; have w20 := hwW.at 20 rfl; have w0 := hwW.at 0 rfl; have w1 := hwW.at 1 rfl; have w2 := hwW.at 2 rfl; have w3 := hwW.at 3 rfl; have w4 := hwW.at 4 rfl; have w5 := hwW.at 5 rfl; have w6 := hwW.at 6 rfl; have w7 := hwW.at 7 rfl; have w8 := hwW.at 8 rfl; have w9 := hwW.at 9 rfl; have w10 := hwW.at 10 rfl; have w11 := hwW.at 11 rfl; have w12 := hwW.at 12 rfl; have w13 := hwW.at 13 rfl; have w14 := hwW.at 14 rfl; have w15 := hwW.at 15 rfl; have w16 := hwW.at 16 rfl; have w17 := hwW.at 17 rfl; have w18 := hwW.at 18 rfl; have w19 := hwW.at 19 rfl; simp only [vGuard, go_sem, hbB, upd, Bool.false_eq_true, w0, w1, w2, w3, w4, w5, w6, w7, w8, w9, w10, w11, w12, w13, w14, w15, w16, w17, w18, w19, w20, Int.toNat_zero, hg2, Int.reduceToNat] <;> (try refine Or.inl ?_) <;> (repeat (refine And.intro (by first | omega | ((try simp only [go_sem, List.length_append, lim, lim2]) <;> omega) | assumption | exact ints_1 _ | exact rfl | (simp [ints]; done)) ?_)) <;> (first | rfl | first | omega | ((try simp only [go_sem, List.length_append, lim, lim2]) <;> omega) | assumption | exact ints_1 _ | exact rfl | (simp [ints]; done))
    ·have hbB : b 20 = false := hbB; have w17 := hwW.at 17 rfl; have w19 := hwW.at 19 rfl; have w0 := hwW.at 0 rfl; have w1 := hwW.at 1 rfl; have w2 := hwW.at 2 rfl; have w3 := hwW.at 3 rfl; have w4 := hwW.at 4 rfl; have w5 := hwW.at 5 rfl; have w6 := hwW.at 6 rfl; have w7 := hwW.at 7 rfl; have w8 := hwW.at 8 rfl; have w9 := hwW.at 9 rfl; have w10 := hwW.at 10 rfl; have w11 := hwW.at 11 rfl; have w12 := hwW.at 12 rfl; have w13 := hwW.at 13 rfl; have w14 := hwW.at 14 rfl; have w15 := hwW.at 15 rfl; have w16 := hwW.at 16 rfl; have w18 := hwW.at 18 rfl; have l21 := hcC.l hbB 21 rfl; simp only [vGuard, go_sem, hbB, upd, Bool.false_eq_true, w0, w1, w2, w3, w4, w5, w6, w7, w8, w9, w10, w11, w12, w13, w14, w15, w16, w17, w18, w19, l21, Int.toNat_zero, hg2, Int.reduceToNat] <;> (try refine Or.inl ?_) <;> (repeat (refine And.intro (by first | omega | ((try simp only [go_sem, List.length_append, lim, lim2]) <;> omega) | assumption | exact ints_1 _ | exact rfl | (simp [ints]; done)) ?_)) <;> (first | rfl | first | omega | ((try simp only [go_sem, List.length_append, lim, lim2]) <;> omega) | assumption | exact ints_1 _ | exact rfl | (simp [ints]; done))
    ·have hbB : b 19 = false := hbB; have w12 := hwW.at 12 rfl; have w18 := hwW.at 18 rfl; have w0 := hwW.at 0 rfl; have w1 := hwW.at 1 rfl; have w2 := hwW.at 2 rfl; have w3 := hwW.at 3 rfl; have w4 := hwW.at 4 rfl; have w5 := hwW.at 5 rfl; have w6 := hwW.at 6 rfl; have w7 := hwW.at 7 rfl; have w8 := hwW.at 8 rfl; have w9 := hwW.at 9 rfl; have w10 := hwW.at 10 rfl; have w11 := hwW.at 11 rfl; have l20 := hcC.l hbB 20 rfl; have l21 := hcC.l hbB 21 rfl; simp only [vGuard, go_sem, hbB, upd, Bool.false_eq_true, w0, w1, w2, w3, w4, w5, w6, w7, w8, w9, w10, w11, w12, w18, l20, l21, Int.toNat_zero, hg2, Int.reduceToNat] <;> (try refine Or.inl ?_) <;> (repeat (refine And.intro (by first | omega | ((try simp only [go_sem, List.length_append, lim, lim2]) <;> omega) | assumption | exact ints_1 _ | exact rfl | (simp [ints]; done)) ?_)) <;> (first | rfl | first | omega | ((try simp only [go_sem, List.length_append, lim, lim2]) <;> omega) | assumption | exact ints_1 _ | exact rfl | (simp [ints]; done))
    ·have hbB : b 18 = false := hbB; have w7 := hwW.at 7 rfl; have w0 := hwW.at 0 rfl; have w1 := hwW.at 1 rfl; have w2 := hwW.at 2 rfl; have w3 := hwW.at 3 rfl; have w4 := hwW.at 4 rfl; have w5 := hwW.at 5 rfl; have w6 := hwW.at 6 rfl; have l19 := hcC.l hbB 19 rfl; have l20 := hcC.l hbB 20 rfl; have l21 := hcC.l hbB 21 rfl; simp only [vGuard, go_sem, hbB, upd, Bool.false_eq_true, w0, w1, w2, w3, w4, w5, w6, w7, l19, l20, l21, Int.toNat_zero, hg2, Int.reduceToNat] <;> (try refine Or.inl ?_) <;> (repeat (refine And.intro (by first | omega | ((try simp only [go_sem, List.length_append, lim, lim2]) <;> omega) | assumption | exact ints_1 _ | exact rfl | (simp [ints]; done)) ?_)) <;> (first | rfl | first | omega | ((try simp only [go_sem, List.length_append, lim, lim2]) <;> omega) | assumption | exact ints_1 _ | exact rfl | (simp [ints]; done))
    ·have hbB : b 17 = false := hbB; have w16 := hwW.at 16 rfl; have l20 := hcC.l hbB 20 rfl; have l21 := hcC.l hbB 21 rfl; simp only [vGuard, go_sem, hbB, upd, Bool.false_eq_true, w16, l20, l21, Int.toNat_zero, hg2, Int.reduceToNat] <;> (try refine Or.inl ?_) <;> (repeat (refine And.intro (by first | omega | ((try simp only [go_sem, List.length_append, lim, lim2]) <;> omega) | assumption | exact ints_1 _ | exact rfl | (simp [ints]; done)) ?_)) <;> (first | rfl | first | omega | ((try simp only [go_sem, List.length_append, lim, lim2]) <;> omega) | assumption | exact ints_1 _ | exact rfl | (simp [ints]; done))
    ·have hbB : b 16 = false := hbB; have w15 := hwW.at 15 rfl; have l17 := hcC.l hbB 17 rfl; have l20 := hcC.l hbB 20 rfl; have l21 := hcC.l hbB 21 rfl; simp only [vGuard, go_sem, hbB, upd, Bool.false_eq_true, w15, l17, l20, l21, Int.toNat_zero, hg2, Int.reduceToNat] <;> (try refine Or.inl ?_) <;> (repeat (refine And.intro (by first | omega | ((try simp only [go_sem, List.length_append, lim, lim2]) <;> omega) | assumption | exact ints_1 _ | exact rfl | (simp [ints]; done)) ?_)) <;> (first | rfl | first | omega | ((try simp only [go_sem, List.length_append, lim, lim2]) <;> omega) | assumption | exact ints_1 _ | exact rfl | (simp [ints]; done))
    ·have hbB : b 15 = false := hbB; have w14 := hwW.at 14 rfl; have l16 := hcC.l hbB 16 rfl; have l20 := hcC.l hbB 20 rfl; have l21 := hcC.l hbB 21 rfl; simp only [vGuard, go_sem, hbB, upd, Bool.false_eq_true, w14, l16, l20, l21, Int.toNat_zero, hg2, Int.reduceToNat] <;> (try refine Or.inl ?_) <;> (repeat (refine And.intro (by first | omega | ((try simp only [go_sem, List.length_append, lim, lim2]) <;> omega) | assumption | exact ints_1 _ | exact rfl | (simp [ints]; done)) ?_)) <;> (first | rfl | first | omega | ((try simp only [go_sem, List.length_append, lim, lim2]) <;> omega) | assumption | exact ints_1 _ | exact rfl | (simp [ints]; done))
    ·have hbB : b 14 = false := hbB; have w13 := hwW.at 13 rfl; have l15 := hcC.l hbB 15 rfl; have l20 := hcC.l hbB 20 rfl; have l21 := hcC.l hbB 21 rfl; simp only [vGuard, go_sem, hbB, upd, Bool.false_eq_true, w13, l15, l20, l21, Int.toNat_zero, hg2, Int.reduceToNat] <;> (try refine Or.inl ?_) <;> (repeat (refine And.intro (by first | omega | ((try simp only [go_sem, List.length_append, lim, lim2]) <;> omega) | assumption | exact ints_1 _ | exact rfl | (simp [ints]; done)) ?_)) <;> (first | rfl | first | omega | ((try simp only [go_sem, List.length_append, lim, lim2]) <;> omega) | assumption | exact ints_1 _ | exact rfl | (simp [ints]; done))
    ·have hbB : b 13 = false := hbB; have l14 := hcC.l hbB 14 rfl; have l20 := hcC.l hbB 20 rfl; have l21 := hcC.l hbB 21 rfl; simp only [vGuard, go_sem, hbB, upd, Bool.false_eq_true, l14, l20, l21, Int.toNat_zero, hg2, Int.reduceToNat] <;> (try refine Or.inl ?_) <;> (repeat (refine And.intro (by first | omega | ((try simp only [go_sem, List.length_append, lim, lim2]) <;> omega) | assumption | exact ints_1 _ | exact rfl | (simp [ints]; done)) ?_)) <;> (first | rfl | first | omega | ((try simp only [go_sem, List.length_append, lim, lim2]) <;> omega) | assumption | exact ints_1 _ | exact rfl | (simp [ints]; done))
    ·have hbB : b 12 = false := hbB; have w11 := hwW.at 11 rfl; have l19 := hcC.l hbB 19 rfl; have l20 := hcC.l hbB 20 rfl; have l21 := hcC.l hbB 21 rfl; simp only [vGuard, go_sem, hbB, upd, Bool.false_eq_true, w11, l19, l20, l21, Int.toNat_zero, hg2, Int.reduceToNat] <;> (try refine Or.inl ?_) <;> (repeat (refine And.intro (by first | omega | ((try simp only [go_sem, List.length_append, lim, lim2]) <;> omega) | assumption | exact ints_1 _ | exact rfl | (simp [ints]; done)) ?_)) <;> (first | rfl | first | omega | ((try simp only [go_sem, List.length_append, lim, lim2]) <;> omega) | assumption | exact ints_1 _ | exact rfl | (simp [ints]; done))
    ·have hbB : b 11 = false := hbB; have w10 := hwW.at 10 rfl; have l12 := hcC.l hbB 12 rfl; have l19 := hcC.l hbB 19 rfl; have l20 := hcC.l hbB 20 rfl; have l21 := hcC.l hbB 21 rfl; simp only [vGuard, go_sem, hbB, upd, Bool.false_eq_true, w10, l12, l19, l20, l21, Int.toNat_zero, hg2, Int.reduceToNat] <;> (try refine Or.inl ?_) <;> (repeat (refine And.intro (by first | omega | ((try simp only [go_sem, List.length_append, lim, lim2]) <;> omega) | assumption | exact ints_1 _ | exact rfl | (simp [ints]; done)) ?_)) <;> (first | rfl | first | omega | ((try simp only [go_sem, List.length_append, lim, lim2]) <;> omega) | assumption | exact ints_1 _ | exact rfl | (simp [ints]; done))
    ·have hbB : b 10 = false := hbB; have w9 := hwW.at 9 rfl; have l11 := hcC.l hbB 11 rfl; have l19 := hcC.l hbB 19 rfl; have l20 := hcC.l hbB 20 rfl; have l21 := hcC.l hbB 21 rfl; simp only [vGuard, go_sem, hbB, upd, Bool.false_eq_true, w9, l11, l19, l20, l21, Int.toNat_zero, hg2, Int.reduceToNat] <;> (try refine Or.inl ?_) <;> (repeat (refine And.intro (by first | omega | ((try simp only [go_sem, List.length_append, lim, lim2]) <;> omega) | assumption | exact ints_1 _ | exact rfl | (simp [ints]; done)) ?_)) <;> (first | rfl | first | omega | ((try simp only [go_sem, List.length_append, lim, lim2]) <;> omega) | assumption | exact ints_1 _ | exact rfl | (simp [ints]; done))
    ·have hbB : b 9 = false := hbB; have w8 := hwW.at 8 rfl; have l10 := hcC.l hbB 10 rfl; have l19 := hcC.l hbB 19 rfl; have l20 := hcC.l hbB 20 rfl; have l21 := hcC.l hbB 21 rfl; simp only [vGuard, go_sem, hbB, upd, Bool.false_eq_true, w8, l10, l19, l20, l21, Int.toNat_zero, hg2, Int.reduceToNat] <;> (try refine Or.inl ?_) <;> (repeat (refine And.intro (by first | omega | ((try simp only [go_sem, List.length_append, lim, lim2]) <;> omega) | assumption | exact ints_1 _ | exact rfl | (simp [ints]; done)) ?_)) <;> (first | rfl | first | omega | ((try simp only [go_sem, List.length_append, lim, lim2]) <;> omega) | assumption | exact ints_1 _ | exact rfl | (simp [ints]; done))
    ·have hbB : b 8 = false := hbB; have l9 := hcC.l hbB 9 rfl; have l19 := hcC.l hbB 19 rfl; have l20 := hcC.l hbB 20 rfl; have l21 := hcC.l hbB 21 rfl; simp only [vGuard, go_sem, hbB, upd, Bool.false_eq_true, l9, l19, l20, l21, Int.toNat_zero, hg2, Int.reduceToNat] <;> (try refine Or.inl ?_) <;> (repeat (refine And.intro (by first | omega | ((try simp only [go_sem, List.length_append, lim, lim2]) <;> omega) | assumption | exact ints_1 _ | exact rfl | (simp [ints]; done)) ?_)) <;> (first | rfl | first | omega | ((try simp only [go_sem, List.length_append, lim, lim2]) <;> omega) | assumption | exact ints_1 _ | exact rfl | (simp [ints]; done))
    ·have hbB : b 7 = false := hbB; have w1 := hwW.at 1 rfl; have w4 := hwW.at 4 rfl; have w6 := hwW.at 6 rfl; have l18 := hcC.l hbB 18 rfl; have l19 := hcC.l hbB 19 rfl; have l20 := hcC.l hbB 20 rfl; have l21 := hcC.l hbB 21 rfl; simp only [vGuard, go_sem, hbB, upd, Bool.false_eq_true, w1, w4, w6, l18, l19, l20, l21, Int.toNat_zero, hg2, Int.reduceToNat] <;> (try refine Or.inl ?_) <;> (repeat (refine And.intro (by first | omega | ((try simp only [go_sem, List.length_append, lim, lim2]) <;> omega) | assumption | exact ints_1 _ | exact rfl | (simp [ints]; done)) ?_)) <;> (first | rfl | first | omega | ((try simp only [go_sem, List.length_append, lim, lim2]) <;> omega) | assumption | exact ints_1 _ | exact rfl | (simp [ints]; done))
    ·have hbB : b 6 = false := hbB; have w5 := hwW.at 5 rfl; have l7 := hcC.l hbB 7 rfl; have l18 := hcC.l hbB 18 rfl; have l19 := hcC.l hbB 19 rfl; have l20 := hcC.l hbB 20 rfl; have l21 := hcC.l hbB 21 rfl; simp only [vGuard, go_sem, hbB, upd, Bool.false_eq_true, w5, l7, l18, l19, l20, l21, Int.toNat_zero, hg2, Int.reduceToNat] <;> (try refine Or.inl ?_) <;> (repeat (refine And.intro (by first | omega | ((try simp only [go_sem, List.length_append, lim, lim2]) <;> omega) | assumption | exact ints_1 _ | exact rfl | (simp [ints]; done)) ?_)) <;> (first | rfl | first | omega | ((try simp only [go_sem, List.length_append, lim, lim2]) <;> omega) | assumption | exact ints_1 _ | exact rfl | (simp [ints]; done))
    ·have hbB : b 5 = false := hbB; have l6 := hcC.l hbB 6 rfl; have l18 := hcC.l hbB 18 rfl; have l19 := hcC.l hbB 19 rfl; have l20 := hcC.l hbB 20 rfl; have l21 := hcC.l hbB 21 rfl; simp only [vGuard, go_sem, hbB, upd, Bool.false_eq_true, l6, l18, l19, l20, l21, Int.toNat_zero, hg2, Int.reduceToNat] <;> (try refine Or.inl ?_) <;> (repeat (refine And.intro (by first | omega | ((try simp only [go_sem, List.length_append, lim, lim2]) <;> omega) | assumption | exact ints_1 _ | exact rfl | (simp [ints]; done)) ?_)) <;> (first | rfl | first | omega | ((try simp only [go_sem, List.length_append, lim, lim2]) <;> omega) | assumption | exact ints_1 _ | exact rfl | (simp [ints]; done))
    ·have hbB : b 4 = false := hbB; have w3 := hwW.at 3 rfl; have l7 := hcC.l hbB 7 rfl; have l18 := hcC.l hbB 18 rfl; have l19 := hcC.l hbB 19 rfl; have l20 := hcC.l hbB 20 rfl; have l21 := hcC.l hbB 21 rfl; simp only [vGuard, go_sem, hbB, upd, Bool.false_eq_true, w3, l7, l18, l19, l20, l21, Int.toNat_zero, hg2, Int.reduceToNat] <;> (try refine Or.inl ?_) <;> (repeat (refine And.intro (by first | omega | ((try simp only [go_sem, List.length_append, lim, lim2]) <;> omega) | assumption | exact ints_1 _ | exact rfl | (simp [ints]; done)) ?_)) <;> (first | rfl | first | omega | ((try simp only [go_sem, List.length_append, lim, lim2]) <;> omega) | assumption | exact ints_1 _ | exact rfl | (simp [ints]; done))
    ·have hbB : b 3 = false := hbB; have w2 := hwW.at 2 rfl; have l4 := hcC.l hbB 4 rfl; have l18 := hcC.l hbB 18 rfl; have l19 := hcC.l hbB 19 rfl; have l20 := hcC.l hbB 20 rfl; have l21 := hcC.l hbB 21 rfl; simp only [vGuard, go_sem, hbB, upd, Bool.false_eq_true, w2, l4, l18, l19, l20, l21, Int.toNat_zero, hg2, Int.reduceToNat] <;> (try refine Or.inl ?_) <;> (repeat (refine And.intro (by first | omega | ((try simp only [go_sem, List.length_append, lim, lim2]) <;> omega) | assumption | exact ints_1 _ | exact rfl | (simp [ints]; done)) ?_)) <;> (first | rfl | first | omega | ((try simp only [go_sem, List.length_append, lim, lim2]) <;> omega) | assumption | exact ints_1 _ | exact rfl | (simp [ints]; done))
    ·have hbB : b 2 = false := hbB; have l3 := hcC.l hbB 3 rfl; have l4 := hcC.l l3 4 rfl; have l18 := hcC.l hbB 18 rfl; have l19 := hcC.l hbB 19 rfl; have l20 := hcC.l hbB 20 rfl; have l21 := hcC.l hbB 21 rfl; simp only [vGuard, go_sem, hbB, upd, Bool.false_eq_true, l3, l4, l18, l19, l20, l21, Int.toNat_zero, hg2, Int.reduceToNat] <;> (try refine Or.inl ?_) <;> (repeat (refine And.intro (by first | omega | ((try simp only [go_sem, List.length_append, lim, lim2]) <;> omega) | assumption | exact ints_1 _ | exact rfl | (simp [ints]; done)) ?_)) <;> (first | rfl | first | omega | ((try simp only [go_sem, List.length_append, lim, lim2]) <;> omega) | assumption | exact ints_1 _ | exact rfl | (simp [ints]; done))
    ·have hbB : b 1 = false := hbB; have w0 := hwW.at 0 rfl; have l7 := hcC.l hbB 7 rfl; have l18 := hcC.l hbB 18 rfl; have l19 := hcC.l hbB 19 rfl; have l20 := hcC.l hbB 20 rfl; have l21 := hcC.l hbB 21 rfl; simp only [vGuard, go_sem, hbB, upd, Bool.false_eq_true, w0, l7, l18, l19, l20, l21, Int.toNat_zero, hg2, Int.reduceToNat] <;> (try refine Or.inl ?_) <;> (repeat (refine And.intro (by first | omega | ((try simp only [go_sem, List.length_append, lim, lim2]) <;> omega) | assumption | exact ints_1 _ | exact rfl | (simp [ints]; done)) ?_)) <;> (first | rfl | first | omega | ((try simp only [go_sem, List.length_append, lim, lim2]) <;> omega) | assumption | exact ints_1 _ | exact rfl | (simp [ints]; done))
    ·have hbB : b 0 = false := hbB; have l1 := hcC.l hbB 1 rfl; have l18 := hcC.l hbB 18 rfl; have l19 := hcC.l hbB 19 rfl; have l20 := hcC.l hbB 20 rfl; have l21 := hcC.l hbB 21 rfl; simp only [vGuard, go_sem, hbB, upd, Bool.false_eq_true, l1, l18, l19, l20, l21, Int.toNat_zero, hg2, Int.reduceToNat] <;> (try refine Or.inl ?_) <;> (repeat (refine And.intro (by first | omega | ((try simp only [go_sem, List.length_append, lim, lim2]) <;> omega) | assumption | exact ints_1 _ | exact rfl | (simp [ints]; done)) ?_)) <;> (first | rfl | first | omega | ((try simp only [go_sem, List.length_append, lim, lim2]) <;> omega) | assumption | exact ints_1 _ | exact rfl | (simp [ints]; done))
   simp only [List.length_cons, List.length_nil, Nat.reduceAdd, Nat.reduceLT, decide_true, if_true]
   refine Dd0 ?_
   (refine ⟨by simp, ?_⟩; simp only [go_sem, Try.results33])
   simp
  ·have : s = [] := by simpa using hc
   simp [this] at h2
def boxM (r : Int) (m : List Int) (s : List (Int × Int)) (w : List Int) : Bool :=
 mayB (s.map (·.1) ++ w) && (decide (0 ≤ r) && decide (r ≤ 8) && decide ((m.length : Int) ≤ r) && (decide ((m.length : Int) = r) || decide (s.length = 0)) && (decide (w.length = 0) || (decide (m.length = 0) && decide (s.length = 0))))
theorem bmay_spec (r : Int) (m : List Int) (s : List (Int × Int)) (w : List Int) (hm : m.length ≤ 9223372036854775807) (hs : s.length ≤ 400000) (hw0 : w.length ≤ 400000) : Ret Try.prog 24 [.agg [.int .i64 r, .sl false (ints m), .sl false (mails s), .sl false (ints w)]] (.bool (boxM r m s w)) := by
 refine Ret_of_body Try.func24 (by kernel_rfl) rfl ?_; rw [Try.ntmps24]
 refine Dd0 ?_
 refine TW_sub (Sub_grow (t := 3) (id := 3) 3 1 rfl rfl (Nat.zero_le _)) ?_
 simp only [go_sem]
 refine TW_sub (Sub_bl 4194241) ?_
 refine TW_loop (fun fuel st => ∃ (i : Nat) (u : List Int), (i ≤ s.length) ∧ (u = (s.take i).map (·.1)) ∧  fuel = s.length - i ∧ st = ⟨[.junk, .ptr 1 0, .bool false, .bsl 3, .int .i64 i, .junk, .junk, .junk, .junk, .junk, .junk, .junk, .junk, .junk, .junk, .junk, .junk, .junk, .junk, .junk, .junk, .junk, .junk, .junk, .junk, .junk, .junk, .junk, .junk, .junk, .junk, .junk, .junk, .junk, .junk, .junk, .junk, .junk, .junk, .junk, .junk, .junk, .junk, .junk, .junk, .junk, .junk, .junk, .junk, .junk, .junk, .junk, .junk, .junk, .junk, .junk, .junk, .junk, .junk, .junk, .junk, .junk, .junk, .junk, .junk, .junk, .junk, .junk, .junk, .junk, .junk, .junk, .junk, .junk, .junk, .junk, .junk, .junk, .junk, .junk, .junk, .junk, .junk, .junk, .junk, .junk, .junk, .junk, .junk, .junk, .junk, .junk, .junk], [.un, .box [.int .i64 r, .sl false (ints m), .sl false (mails s), .sl false (ints w)], .un, .arr 3 1 (ints u), .un, .un, .un, .un, .un, .un, .un, .un, .un, .un, .un, .un, .un, .un, .un, .un, .un, .un, .un, .un, .un, .un, .un, .un, .un, .un, .un, .un, .un, .un, .un, .un, .un, .un, .un, .un, .un, .un, .un, .un, .un, .un, .un, .un, .un, .un, .un, .un, .un, .un, .un, .un, .un, .un, .un, .un, .un, .un, .un, .un, .un, .un, .un, .un, .un, .un, .un, .un, .un, .un, .un, .un, .un, .un, .un, .un, .un, .un, .un, .un, .un, .un, .un, .un, .un, .un, .un, .un, .un], 0⟩) (n := _) ⟨0, [], by first | omega | (simp; done) | (simp; omega) | assumption, by first | omega | (simp; done) | (simp; omega) | assumption, rfl, rfl⟩ ?_
 rintro fuel st ⟨i, u, hi, hu, rfl, rfl⟩
 refine Dd0 ?_
 refine TW_cond rfl (fun hc => ?_) (fun hc => ?_)
 ·have hlt : i < s.length := by simpa using hc
  have hg := mails_get s i hlt
  have hm2 := mails_2 s
  have hw := wrap_i64 (n := (i : Int) + 1) (by omega) (by omega)
  have hul : u.length ≤ 400000 := by rw [hu, List.length_map, List.length_take]; omega
  have hga := getD_atM hlt
  refine Dd2 @hg @hw ?_
  (refine ⟨(fun (i : Nat) (u : List Int) => s.length - i) (i + 1) ( u ++ [(s.getD i (0, 0)).1]), _, ?hm, ?hI, (Sub.trans (Sub_swap 3 21 (by first | (simp; done) | (simp [swap]; done)) (by first | (simp; done) | (simp [swap]; done)) (Nat.le_of_ble_eq_true rfl) (Nat.le_of_ble_eq_true rfl)) (Sub.trans (Sub_forget [20, 21] rfl) (Sub_bl 4194241)))⟩; (case hm => (first | omega | (simp only; omega) | (simp only [List.length_cons]; omega))); (case hI => (simp only [go_sem, forget, swap, scrL, scr, scrH, scrO, renL, ren, renO, sw, blankN, Nat.reduceMod, Nat.reduceDiv, cond_true, cond_false, List.contains_cons, List.contains_nil, Nat.reduceBEq, Bool.or_false, Bool.false_or, Bool.or_true, Bool.true_or, Bool.false_eq_true, if_true, if_false] <;> exact ⟨i + 1, u ++ [(s.getD i (0, 0)).1], by omega, by rw [hu, hga, List.take_succ_eq_append_getElem hlt, List.map_append]; rfl, rfl, rfl⟩)))
 ·have hi2 : i = s.length := by have : ¬ (i < s.length) := by simpa using hc
                                omega
  have hul : u = s.map (·.1) := by rw [hu, hi2, List.take_length]
  have hull : u.length = s.length := by rw [hul, List.length_map]
  refine Dd0 ?_
  have hL : u ++ w = s.map (·.1) ++ w := by rw [hul]
  have hLl : (s.map (·.1) ++ w).length ≤ 800000 := by simp; omega
  rw [hL]
  generalize hLL : s.map (·.1) ++ w = L
  rw [hLL] at hLl
  refine TW_sub (Sub_fix 25) ?_
  simp only [go_sem]
  refine TW_sub (Sub_bl 140737488355285) ?_
  refine TW_loop (fun fuel st => ∃ (i : Nat), (i ≤ L.length) ∧ (∀ j < i, mayG L j = true) ∧  fuel = L.length - i ∧ st = ⟨[.junk, .ptr 1 0, .junk, .bsl 25, .junk, .int .i64 i, .junk, .junk, .junk, .junk, .junk, .junk, .junk, .junk, .junk, .junk, .junk, .junk, .junk, .junk, .junk, .junk, .junk, .junk, .junk, .junk, .junk, .junk, .junk, .junk, .junk, .junk, .junk, .junk, .junk, .junk, .junk, .junk, .junk, .junk, .junk, .junk, .junk, .junk, .junk, .junk, .junk, .junk, .junk, .junk, .junk, .junk, .junk, .junk, .junk, .junk, .junk, .junk, .junk, .junk, .junk, .junk, .junk, .junk, .junk, .junk, .junk, .junk, .junk, .junk, .junk, .junk, .junk, .junk, .junk, .junk, .junk, .junk, .junk, .junk, .junk, .junk, .junk, .junk, .junk, .junk, .junk, .junk, .junk, .junk, .junk, .junk, .junk], [.un, .box [.int .i64 r, .sl false (ints m), .sl false (mails s), .sl false (ints w)], .un, .dead, .un, .un, .un, .un, .un, .un, .un, .un, .un, .un, .un, .un, .un, .un, .un, .un, .un, .un, .un, .un, .un, .imm (ints L), .un, .un, .un, .un, .un, .un, .un, .un, .un, .un, .un, .un, .un, .un, .un, .un, .un, .un, .un, .un, .un, .un, .un, .un, .un, .un, .un, .un, .un, .un, .un, .un, .un, .un, .un, .un, .un, .un, .un, .un, .un, .un, .un, .un, .un, .un, .un, .un, .un, .un, .un, .un, .un, .un, .un, .un, .un, .un, .un, .un, .un, .un, .un, .un, .un, .un, .un], 0⟩) (n := _) ⟨0, by first | omega | (simp; done) | (simp; omega) | assumption, by first | omega | (simp; done) | (simp; omega) | assumption, rfl, rfl⟩ ?_
  rintro fuel st ⟨i, hi, hx, rfl, rfl⟩
  refine Dd0 ?_
  refine TW_cond rfl (fun hc => ?_) (fun hc => ?_)
  ·have hlt : i < L.length := by simpa using hc
   have hw := wrap_i64 (n := (i : Int) + 1) (by omega) (by omega)
   have hg := ints_get L i hlt
   by_cases h : L.getD i 0 < 1
   ·have hd : decide (L.getD i 0 < 1) = true := decide_eq_true h
    refine Dd0 ?_
    refine TW_sub (Sub_bl 67108817) ?_
    refine TW_open mixed (by kernel_rfl) (fun b => ⟨[.junk, .ptr 1 0, .junk, .bsl 25, .junk, .int .i64 (↑i : Int), .junk, .junk, .junk, .junk, .junk, .junk, .junk, .junk, .junk, .junk, .junk, .junk, .junk, .junk, .junk, .junk, .junk, .junk, .junk, .junk, .int .i64 (↑i : Int), .bsl 25, .int .i64 (↑L.length : Int), .bool (decide ((↑i : Int) < (↑L.length : Int))), .junk, .junk, if b 0 = true then .bsl 25 else .junk, if b 1 = true then .int .i64 (↑i : Int) else .junk, if b 2 = true then .cptr [.int .i64 (L.getD i 0)] else .junk, if b 3 = true then .int .i64 (L.getD i 0) else .junk, if b 4 = true then .bool true else .junk, if b 5 = true then .bool true else .junk, if b 6 = true then .tup [] else .junk, if b 7 = true then .tup [] else .junk, if b 8 = true then .tup [] else .junk, if b 9 = true then .tup [] else .junk, if b 10 = true then .tup [] else .junk, if b 11 = true then .tup [] else .junk, if b 12 = true then .tup [] else .junk, if b 13 = true then .tup [] else .junk, if b 14 = true then .bool true else .junk, .junk, .junk, .junk, .junk, .junk, .junk, .junk, .junk, .junk, .junk, .junk, .junk, .junk, .junk, .junk, .junk, .junk, .junk, .junk, .junk, .junk, .junk, .junk, .junk, .junk, .junk, .junk, .junk, .junk, .junk, .junk, .junk, .junk, .junk, .junk, .junk, .junk, .junk, .junk, .junk, .junk, .junk, .junk, .junk, .junk, .junk], [.un, .box [.int .i64 r, .sl false (ints m), .sl false (mails s), .sl false (ints w)], .un, .dead, .un, .un, .un, .un, .un, .un, .un, .un, .un, .un, .un, .un, .un, .un, .un, .un, .un, .un, .un, .un, .un, .imm (ints L), .un, .un, .un, .un, .un, .un, .un, .un, .un, .un, .un, .un, .un, .un, .un, .un, .un, .un, .un, .un, .un, .un, .un, .un, .un, .un, .un, .un, .un, .un, .un, .un, .un, .un, .un, .un, .un, .un, .un, .un, .un, .un, .un, .un, .un, .un, .un, .un, .un, .un, .un, .un, .un, .un, .un, .un, .un, .un, .un, .un, .un, .un, .un, .un, .un, .un, .un], 0⟩) rfl ?_ ?_
    ·skip
     (repeat refine Di ?_ (fun b hwW hbB hcC => ?_)); (exact trivial)
     ·have w13 := hwW.at 13 rfl; exact Ds5 hbB (hwW.at 5 rfl) ((hcC 13 _ rfl w13).at 8 rfl) w13 @hg @hd
     ·exact Ds6 hbB (hwW.at 5 rfl) (hwW.at 8 rfl) (hwW.at 12 rfl) (hcC.l hbB 14 rfl) @hg @hd
     ·exact Ds5 hbB (hwW.at 5 rfl) (hwW.at 11 rfl) (hcC.l hbB 13 rfl) @hg @hd
     ·have l12 := hcC.l hbB 12 rfl; exact Ds7 hbB (hwW.at 5 rfl) (hwW.at 9 rfl) (hwW.at 10 rfl) l12 (hcC.l l12 13 rfl) @hg @hd
     ·have l11 := hcC.l hbB 11 rfl; have l12 := hcC.l l11 12 rfl; exact Ds5 hbB (hwW.at 5 rfl) l11 (hcC.l l12 13 rfl) @hg @hd
     ·have l11 := hcC.l hbB 11 rfl; have l12 := hcC.l l11 12 rfl; exact Ds5 hbB (hwW.at 5 rfl) l11 (hcC.l l12 13 rfl) @hg @hd
     ·exact Ds6 hbB (hwW.at 5 rfl) (hwW.at 6 rfl) (hwW.at 7 rfl) (hcC.l hbB 13 rfl) @hg @hd
     ·have l8 := hcC.l hbB 8 rfl; exact Ds5 hbB (hwW.at 5 rfl) l8 (hcC.l l8 13 rfl) @hg @hd
     ·have l8 := hcC.l hbB 8 rfl; exact Ds5 hbB (hwW.at 5 rfl) l8 (hcC.l l8 13 rfl) @hg @hd
     ·exact Ds12 hbB (hwW.at 4 rfl) (hcC.l hbB 6 rfl) (hcC.l hbB 7 rfl) (hcC.l hbB 8 rfl) (hcC.l hbB 9 rfl) (hcC.l hbB 10 rfl) (hcC.l hbB 11 rfl) (hcC.l hbB 12 rfl) (hcC.l hbB 13 rfl) (hcC.l hbB 14 rfl) @hg @hd
     ·have l5 := hcC.l hbB 5 rfl; exact Ds6 hbB (hwW.at 3 rfl) l5 (hcC.l l5 8 rfl) (hcC.l l5 13 rfl) @hg @hd
     ·have l4 := hcC.l hbB 4 rfl; have l5 := hcC.l l4 5 rfl; exact Ds6 hbB (hwW.at 2 rfl) l4 (hcC.l l5 8 rfl) (hcC.l l5 13 rfl) @hg @hd
     ·have l3 := hcC.l hbB 3 rfl; have l4 := hcC.l l3 4 rfl; have l5 := hcC.l l4 5 rfl; exact Ds7 hbB (hwW.at 0 rfl) (hwW.at 1 rfl) l3 (hcC.l l5 8 rfl) (hcC.l l5 13 rfl) @hg @hd
     ·have l2 := hcC.l hbB 2 rfl; have l3 := hcC.l l2 3 rfl; have l4 := hcC.l l3 4 rfl; have l5 := hcC.l l4 5 rfl; exact Ds5 hbB l2 (hcC.l l5 8 rfl) (hcC.l l5 13 rfl) @hg @hd
     ·have l2 := hcC.l hbB 2 rfl; have l3 := hcC.l l2 3 rfl; have l4 := hcC.l l3 4 rfl; have l5 := hcC.l l4 5 rfl; exact Ds5 hbB l2 (hcC.l l5 8 rfl) (hcC.l l5 13 rfl) @hg @hd
    simp only [List.length_cons, List.length_nil, Nat.reduceAdd, Nat.reduceLT, decide_true, if_true]
    refine Dd0 ?_
    refine TW_cond rfl (fun hc => ?_) (fun hc => absurd hc (by simp))
    refine Dd0 ?_
    (refine ⟨by simp, ?_⟩; simp only [go_sem, Try.results24])
    have : mayB L = false := mayB_false hlt (by unfold mayG; rw [decide_eq_false (by omega), Bool.false_and])
    simp [boxM, hLL, this]
   ·have hd : decide (L.getD i 0 < 1) = false := decide_eq_false h
    refine Dd0 ?_
    refine TW_sub (Sub_bl 67108817) ?_
    refine TW_open mixed (by kernel_rfl) (fun b => ⟨[.junk, .ptr 1 0, .junk, .bsl 25, .junk, .int .i64 (↑i : Int), .junk, .junk, .junk, .junk, .junk, .junk, .junk, .junk, .junk, .junk, .junk, .junk, .junk, .junk, .junk, .junk, .junk, .junk, .junk, .junk, .int .i64 (↑i : Int), .bsl 25, .int .i64 (↑L.length : Int), .bool (decide ((↑i : Int) < (↑L.length : Int))), .junk, .junk, if b 0 = true then .bsl 25 else .junk, if b 1 = true then .int .i64 (↑i : Int) else .junk, if b 2 = true then .cptr [.int .i64 (L.getD i 0)] else .junk, if b 3 = true then .int .i64 (L.getD i 0) else .junk, if b 4 = true then .bool false else .junk, if b 5 = true then .bool false else .junk, if b 6 = true then .bsl 25 else .junk, if b 7 = true then .int .i64 (↑i : Int) else .junk, if b 8 = true then .sl false (ints (List.drop (Int.toNat 0) (List.take i L))) else .junk, if b 9 = true then .bsl 25 else .junk, if b 10 = true then .int .i64 (↑i : Int) else .junk, if b 11 = true then .cptr [.int .i64 (L.getD i 0)] else .junk, if b 12 = true then .int .i64 (L.getD i 0) else .junk, if b 13 = true then .bool ((List.take i L).contains (L.getD i 0)) else .junk, if b 14 = true then .bool ((List.take i L).contains (L.getD i 0)) else .junk, .junk, .junk, .junk, .junk, .junk, .junk, .junk, .junk, .junk, .junk, .junk, .junk, .junk, .junk, .junk, .junk, .junk, .junk, .junk, .junk, .junk, .junk, .junk, .junk, .junk, .junk, .junk, .junk, .junk, .junk, .junk, .junk, .junk, .junk, .junk, .junk, .junk, .junk, .junk, .junk, .junk, .junk, .junk, .junk, .junk, .junk], [.un, .box [.int .i64 r, .sl false (ints m), .sl false (mails s), .sl false (ints w)], .un, .dead, .un, .un, .un, .un, .un, .un, .un, .un, .un, .un, .un, .un, .un, .un, .un, .un, .un, .un, .un, .un, .un, .imm (ints L), .un, .un, .un, .un, .un, .un, .un, .un, .un, .un, .un, .un, .un, .un, .un, .un, .un, .un, .un, .un, .un, .un, .un, .un, .un, .un, .un, .un, .un, .un, .un, .un, .un, .un, .un, .un, .un, .un, .un, .un, .un, .un, .un, .un, .un, .un, .un, .un, .un, .un, .un, .un, .un, .un, .un, .un, .un, .un, .un, .un, .un, .un, .un, .un, .un, .un, .un], 0⟩) rfl ?_ ?_
    ·skip
     (repeat refine Di ?_ (fun b hwW hbB hcC => ?_)); (exact trivial)
     ·have w13 := hwW.at 13 rfl; exact Ds5 hbB (hwW.at 5 rfl) ((hcC 13 _ rfl w13).at 8 rfl) w13 @hg @hd
     ·exact Dksc6 hbB (hwW.at 5 rfl) (hwW.at 8 rfl) (hwW.at 12 rfl) (hcC.l hbB 14 rfl) @hg @hd (in_spec false (L.take i) (L.getD i 0) (by simp; omega))
     ·exact Ds5 hbB (hwW.at 5 rfl) (hwW.at 11 rfl) (hcC.l hbB 13 rfl) @hg @hd
     ·have l12 := hcC.l hbB 12 rfl; exact Ds7 hbB (hwW.at 5 rfl) (hwW.at 9 rfl) (hwW.at 10 rfl) l12 (hcC.l l12 13 rfl) @hg @hd
     ·have l11 := hcC.l hbB 11 rfl; have l12 := hcC.l l11 12 rfl; exact Ds5 hbB (hwW.at 5 rfl) l11 (hcC.l l12 13 rfl) @hg @hd
     ·have l11 := hcC.l hbB 11 rfl; have l12 := hcC.l l11 12 rfl; exact Ds5 hbB (hwW.at 5 rfl) l11 (hcC.l l12 13 rfl) @hg @hd
     ·exact Ds6 hbB (hwW.at 5 rfl) (hwW.at 6 rfl) (hwW.at 7 rfl) (hcC.l hbB 13 rfl) @hg @hd
     ·have l8 := hcC.l hbB 8 rfl; exact Ds5 hbB (hwW.at 5 rfl) l8 (hcC.l l8 13 rfl) @hg @hd
     ·have l8 := hcC.l hbB 8 rfl; exact Ds5 hbB (hwW.at 5 rfl) l8 (hcC.l l8 13 rfl) @hg @hd
     ·exact Ds12 hbB (hwW.at 4 rfl) (hcC.l hbB 6 rfl) (hcC.l hbB 7 rfl) (hcC.l hbB 8 rfl) (hcC.l hbB 9 rfl) (hcC.l hbB 10 rfl) (hcC.l hbB 11 rfl) (hcC.l hbB 12 rfl) (hcC.l hbB 13 rfl) (hcC.l hbB 14 rfl) @hg @hd
     ·have l5 := hcC.l hbB 5 rfl; exact Ds6 hbB (hwW.at 3 rfl) l5 (hcC.l l5 8 rfl) (hcC.l l5 13 rfl) @hg @hd
     ·have l4 := hcC.l hbB 4 rfl; have l5 := hcC.l l4 5 rfl; exact Ds6 hbB (hwW.at 2 rfl) l4 (hcC.l l5 8 rfl) (hcC.l l5 13 rfl) @hg @hd
     ·have l3 := hcC.l hbB 3 rfl; have l4 := hcC.l l3 4 rfl; have l5 := hcC.l l4 5 rfl; exact Ds7 hbB (hwW.at 0 rfl) (hwW.at 1 rfl) l3 (hcC.l l5 8 rfl) (hcC.l l5 13 rfl) @hg @hd
     ·have l2 := hcC.l hbB 2 rfl; have l3 := hcC.l l2 3 rfl; have l4 := hcC.l l3 4 rfl; have l5 := hcC.l l4 5 rfl; exact Ds5 hbB l2 (hcC.l l5 8 rfl) (hcC.l l5 13 rfl) @hg @hd
     ·have l2 := hcC.l hbB 2 rfl; have l3 := hcC.l l2 3 rfl; have l4 := hcC.l l3 4 rfl; have l5 := hcC.l l4 5 rfl; exact Ds5 hbB l2 (hcC.l l5 8 rfl) (hcC.l l5 13 rfl) @hg @hd
    simp only [List.length_cons, List.length_nil, Nat.reduceAdd, Nat.reduceLT, decide_true, if_true]
    refine Dd0 ?_
    refine TW_cond rfl (fun hc => ?_) (fun hc => ?_)
    ·refine Dd0 ?_
     (refine ⟨by simp, ?_⟩; simp only [go_sem, Try.results24])
     have : mayB L = false := mayB_false hlt (by unfold mayG; rw [hc, Bool.not_true, Bool.and_false])
     simp [boxM, hLL, this]
    ·refine Dd1 @hw ?_
     have hx' := mayG_grow hx (by unfold mayG; rw [decide_eq_true (by omega), hc]; rfl)
     exact ⟨_, _, by omega, ⟨i + 1, by omega, hx', rfl, rfl⟩, Sub_bl 140737488355285⟩
  ·have hmm : mayB L = true := mayB_true (by simp at hc; omega) hx
   repeat (first | ((with_reducible first | refine O1 rfl (fun N hN => ?_) | refine O2 rfl rfl rfl (fun N hN => ?_)); simp only [go_sem]; (try refine Or.inl ?_); (repeat (refine And.intro (by first | omega | ((try simp only [go_sem, List.length_append, lim, lim2]) <;> omega) | assumption | exact ints_1 _ | exact rfl | (simp [ints]; done)) ?_)); (first | refine hN _ ?_ | (intro _ _; refine hN _ ?_)); clear hN N) | with_reducible (first | apply Ea | apply Eb | apply Ec | apply Ed | apply Ee | apply Ef | apply Eg | apply Eh | apply Ei | apply Ej | apply Ek | apply El | apply Em | refine En rfl ?_ | apply Eo | apply Ep | apply Eq1 | apply Er | apply Es) | ((with_reducible first | refine O3 rfl rfl rfl rfl ?_ | refine O4 rfl rfl rfl ?_); simp only [go_sem]) | ((first | ((with_reducible apply D1); exact rfl) | ((with_reducible apply D2); iterate 4 exact rfl)); (intro tq N hH hR hN; (first | (simp only [go_sem] at hR; simp only [hR, hH, go_sem] at hN ⊢) | simp only [hH, go_sem] at hN ⊢); (try refine Or.inl ?_); (repeat (refine And.intro (by first | omega | ((try simp only [go_sem, List.length_append, lim, lim2]) <;> omega) | assumption | exact ints_1 _ | exact rfl | (simp [ints]; done)) ?_)); exact hN _ rfl); (try simp only [go_sem, Bool.not_not])) | ((first | ((with_reducible apply D5); exact rfl; iterate 4 exact rfl) | ((with_reducible apply D6); exact rfl; iterate 4 exact rfl) | ((with_reducible apply D7); iterate 4 exact rfl)); (try simp only [go_sem, Bool.not_not])) | ((first | ((with_reducible apply D3); iterate 4 exact rfl) | ((with_reducible apply D4); iterate 4 exact rfl)); (intro tq N hcq hH hR hN; (try simp only [beq_true, beq_false, Bool.not_eq_true', Bool.not_eq_false', Bool.and_eq_true, Bool.true_and, Bool.and_true, Bool.not_true, Bool.not_false, if_true] at hcq); have hd := hcq; (try simp only [decide_eq_true_eq, decide_eq_false_iff_not, Bool.or_eq_false_iff, Bool.and_eq_true] at hd); (first | (simp only [hcq, AV.opt_true, Bool.and_eq_true, Bool.true_and, Bool.and_true, Bool.not_true, Bool.not_false, if_true, go_sem] at hR; simp only [hR, hH, hcq, AV.opt_true, Bool.and_eq_true, Bool.true_and, Bool.and_true, Bool.not_true, Bool.not_false, if_true, go_sem] at hN ⊢) | simp only [hH, hcq, AV.opt_true, Bool.and_eq_true, Bool.true_and, Bool.and_true, Bool.not_true, Bool.not_false, if_true, go_sem] at hN ⊢); (try refine Or.inl ?_); (repeat (refine And.intro (by first | omega | ((try simp only [go_sem, List.length_append, lim, lim2]) <;> omega) | assumption | exact ints_1 _ | exact rfl | (simp [ints]; done)) ?_)); exact hN _ rfl); (try simp only [go_sem, Bool.not_not])) | (with_reducible first | apply D8 | apply D9 | refine Tq mixed (by kernel_rfl) (by kernel_rfl) ?_))
   refine TW_cond rfl (fun hc => ?_) (fun hc => ?_)
   ·refine Dd0 ?_
    (refine ⟨by simp, ?_⟩; simp only [go_sem, Try.results24])
    have : boxM r m s w = false := by
     rw [Bool.eq_false_iff]
     intro hb
     simp only [boxM, hLL, hmm, Bool.and_eq_true, Bool.or_eq_true, decide_eq_true_eq] at hb hc
     omega
    simp [this]
   ·repeat (first | ((with_reducible first | refine O1 rfl (fun N hN => ?_) | refine O2 rfl rfl rfl (fun N hN => ?_)); simp only [go_sem]; (try refine Or.inl ?_); (repeat (refine And.intro (by first | omega | ((try simp only [go_sem, List.length_append, lim, lim2]) <;> omega) | assumption | exact ints_1 _ | exact rfl | (simp [ints]; done)) ?_)); (first | refine hN _ ?_ | (intro _ _; refine hN _ ?_)); clear hN N) | with_reducible (first | apply Ea | apply Eb | apply Ec | apply Ed | apply Ee | apply Ef | apply Eg | apply Eh | apply Ei | apply Ej | apply Ek | apply El | apply Em | refine En rfl ?_ | apply Eo | apply Ep | apply Eq1 | apply Er | apply Es) | ((with_reducible first | refine O3 rfl rfl rfl rfl ?_ | refine O4 rfl rfl rfl ?_); simp only [go_sem]) | ((first | ((with_reducible apply D1); exact rfl) | ((with_reducible apply D2); iterate 4 exact rfl)); (intro tq N hH hR hN; (first | (simp only [go_sem] at hR; simp only [hR, hH, go_sem] at hN ⊢) | simp only [hH, go_sem] at hN ⊢); (try refine Or.inl ?_); (repeat (refine And.intro (by first | omega | ((try simp only [go_sem, List.length_append, lim, lim2]) <;> omega) | assumption | exact ints_1 _ | exact rfl | (simp [ints]; done)) ?_)); exact hN _ rfl); (try simp only [go_sem, Bool.not_not])) | ((first | ((with_reducible apply D5); exact rfl; iterate 4 exact rfl) | ((with_reducible apply D6); exact rfl; iterate 4 exact rfl) | ((with_reducible apply D7); iterate 4 exact rfl)); (try simp only [go_sem, Bool.not_not])) | ((first | ((with_reducible apply D3); iterate 4 exact rfl) | ((with_reducible apply D4); iterate 4 exact rfl)); (intro tq N hcq hH hR hN; (try simp only [beq_true, beq_false, Bool.not_eq_true', Bool.not_eq_false', Bool.and_eq_true, Bool.true_and, Bool.and_true, Bool.not_true, Bool.not_false, if_true] at hcq); have hd := hcq; (try simp only [decide_eq_true_eq, decide_eq_false_iff_not, Bool.or_eq_false_iff, Bool.and_eq_true] at hd); (first | (simp only [hcq, AV.opt_true, Bool.and_eq_true, Bool.true_and, Bool.and_true, Bool.not_true, Bool.not_false, if_true, go_sem] at hR; simp only [hR, hH, hcq, AV.opt_true, Bool.and_eq_true, Bool.true_and, Bool.and_true, Bool.not_true, Bool.not_false, if_true, go_sem] at hN ⊢) | simp only [hH, hcq, AV.opt_true, Bool.and_eq_true, Bool.true_and, Bool.and_true, Bool.not_true, Bool.not_false, if_true, go_sem] at hN ⊢); (try refine Or.inl ?_); (repeat (refine And.intro (by first | omega | ((try simp only [go_sem, List.length_append, lim, lim2]) <;> omega) | assumption | exact ints_1 _ | exact rfl | (simp [ints]; done)) ?_)); exact hN _ rfl); (try simp only [go_sem, Bool.not_not])) | (with_reducible first | apply D8 | apply D9 | refine Tq mixed (by kernel_rfl) (by kernel_rfl) ?_))
    (refine ⟨by simp, ?_⟩; simp only [go_sem, Try.results24])
    have : boxM r m s w = (decide ((w.length : Int) = 0) || (decide ((m.length : Int) = 0) && decide ((s.length : Int) = 0))) := by
     rw [Bool.eq_iff_iff]
     rw [Bool.eq_false_iff] at hc
     simp only [boxM, hLL, hmm, Bool.and_eq_true, Bool.or_eq_true, decide_eq_true_eq, ne_eq, true_and] at hc ⊢
     omega
    rw [this]

end Go.Proofs.YtodfkdnkgedgeaaT
