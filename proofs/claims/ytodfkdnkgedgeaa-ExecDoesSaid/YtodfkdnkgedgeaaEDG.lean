/- Walks over the program's functions, on values without memory, and what they come to. No condition. -/
import Derived.Test.YtodfkdnkgedgeaaTw25
import Derived.Test.YtodfkdnkgedgeaaBase
import Derived.Test.YtodfkdnkgedgeaaTw19
import Derived.Test.YtodfkdnkgedgeaaQA
import Derived.Test.YtodfkdnkgedgeaaQB
import Derived.Test.YtodfkdnkgedgeaaEDF
set_option linter.unusedVariables false
set_option linter.unusedSimpArgs false
namespace Go.Proofs.YtodfkdnkgedgeaaT
open Go Go.Proofs Go.RowKit Go.Proofs.YtodfkdnkgedgeaaT.Ty
attribute [local go_sem] vOp vCut eqv put hset ev vNew enterSt AV.solid AV.cells AV.leaf AV.pure AV.pures AV.scalar AV.scalars ofVal ofLeaf vLoad takeA vStore vBin vBuiltin elems vSlice intAt fillA fillR splice dense fills frz frzL names namesL fix frzH frzHL le leL vRes oneRes
attribute [local go_sem] c1 s1 a1 b1 z1 o1 i1 c2 s2 a2 b2 z2 o2 i2 u2 c3 s3 a3 b3 z3 o3 i3 u3 c4 s4 a4 b4 z4 o4 i4 u4 c5 s5 a5 b5 z5 o5 i5 u5 c6 s6 a6 b6 z6 o6 i6 u6 c7 s7 a7 b7 z7 o7 f7_0 f7_1 f7_2 f7_3 q7 fo7 r7 i7 c8 s8 a8 b8 z8 o8 f8_0 f8_1 f8_2 f8_3 q8 fo8 r8 i8 c9 s9 a9 b9 z9 o9 i9 u9 c10 s10 a10 b10 z10 o10 i10 u10 c11 s11 a11 b11 z11 o11 i11 u11 c12 s12 a12 b12 z12 o12 i12 u12 c13 s13 a13 b13 z13 o13 f13_0 f13_1 fo13 r13 i13 c14 s14 a14 b14 z14 o14 f14_0 f14_1 fo14 r14 i14 c15 s15 a15 b15 z15 o15 p15 i15 c16 s16 a16 b16 z16 o16 p16 i16 c17 s17 a17 b17 z17 o17 p17 i17 c18 s18 a18 b18 z18 o18 f18_0 fo18 r18 i18 c19 s19 a19 b19 z19 o19 f19_0 fo19 r19 i19 c21 s21 a21 b21 z21 o21 i21 u21 c22 s22 a22 b22 z22 o22 e22 u22 i22 c23 s23 a23 b23 z23 o23 e23 u23 i23 c24 s24 a24 b24 z24 o24 f24_0 f24_1 fo24 r24 i24 c25 s25 a25 b25 z25 o25 f25_0 f25_1 fo25 r25 i25 c26 s26 a26 b26 z26 o26 e26 u26 i26 c27 s27 a27 b27 z27 o27 f27_0 f27_1 f27_2 q27 fo27 r27 i27 c28 s28 a28 b28 z28 o28 f28_0 f28_1 f28_2 q28 fo28 r28 i28 c29 s29 a29 b29 z29 o29 i29 c30 s30 a30 b30 z30 o30 i30 c31 s31 a31 b31 z31 o31 e31 u31 i31 c32 s32 a32 b32 z32 o32 e32 u32 i32 c33 s33 a33 b33 z33 o33 f33_0 f33_1 fo33 r33 i33 c34 s34 a34 b34 z34 o34 f34_0 f34_1 fo34 r34 i34 c35 s35 a35 b35 z35 o35 i35 c36 s36 a36 b36 z36 o36 f36_0 f36_1 f36_2 q36 fo36 r36 i36 c37 s37 a37 b37 z37 o37 f37_0 f37_1 f37_2 f37_3 f37_4 q37 fo37 r37 i37 c38 s38 a38 b38 z38 o38 f38_0 f38_1 f38_2 f38_3 f38_4 q38 fo38 r38 i38 c39 s39 a39 b39 z39 o39 i39 u39 c41 s41 a41 b41 z41 o41 i41 c42 s42 a42 b42 z42 o42 i42 c43 s43 a43 b43 z43 o43 f43_0 f43_1 f43_2 f43_3 f43_4 q43 fo43 r43 i43 c45 s45 a45 b45 z45 o45 i45 c46 s46 a46 b46 z46 o46 f46_0 f46_1 q46 fo46 r46 i46 c47 s47 a47 b47 z47 o47 f47_0 f47_1 q47 fo47 r47 i47 c49 s49 a49 b49 z49 o49 i49 c50 s50 a50 b50 z50 o50 i50 c51 s51 a51 b51 z51 o51 i51 c52 s52 a52 b52 z52 o52 i52 c53 s53 a53 b53 z53 o53 i53 c54 s54 a54 b54 z54 o54 i54 c55 s55 a55 b55 z55 o55 e55 u55 i55 c57 s57 a57 b57 z57 o57 i57 c59 s59 a59 b59 z59 o59 i59 c60 s60 a60 b60 z60 o60 i60 c61 s61 a61 b61 z61 o61 i61 c62 s62 a62 b62 z62 o62 i62 c63 s63 a63 b63 z63 o63 f63_0 f63_1 fo63 r63 i63 c64 s64 a64 b64 z64 o64 f64_0 f64_1 fo64 r64 i64 c65 s65 a65 b65 z65 o65 e65 u65 i65 c66 s66 a66 b66 z66 o66 e66 u66 i66 c67 s67 a67 b67 z67 o67 f67_0 f67_1 f67_2 f67_3 fo67 r67 i67 c68 s68 a68 b68 z68 o68 f68_0 f68_1 f68_2 f68_3 fo68 r68 i68 c69 s69 a69 b69 z69 o69 f69_0 f69_1 q69 fo69 r69 i69 c70 s70 a70 b70 z70 o70 f70_0 f70_1 q70 fo70 r70 i70 c71 s71 a71 b71 z71 o71 e71 u71 i71 c72 s72 a72 b72 z72 o72 i72 c73 s73 a73 b73 z73 o73 i73 c74 s74 a74 b74 z74 o74 f74_0 f74_1 fo74 r74 i74 c75 s75 a75 b75 z75 o75 e75 u75 i75 c76 s76 a76 b76 z76 o76 f76_0 f76_1 f76_2 f76_3 fo76 r76 i76 c77 s77 a77 b77 z77 o77 f77_0 f77_1 f77_2 f77_3 fo77 r77 i77 c78 s78 a78 b78 z78 o78 f78_0 f78_1 q78 fo78 r78 i78 c79 s79 a79 b79 z79 o79 i79 c81 s81 a81 b81 z81 o81 i81 c82 s82 a82 b82 z82 o82 i82 c83 s83 a83 b83 z83 o83 p83 i83 c84 s84 a84 b84 z84 o84 f84_0 f84_1 f84_2 f84_3 f84_4 fo84 r84 i84 c85 s85 a85 b85 z85 o85 f85_0 f85_1 f85_2 f85_3 f85_4 fo85 r85 i85 c86 s86 a86 b86 z86 o86 i86 c88 s88 a88 b88 z88 o88 i88 c89 s89 a89 b89 z89 o89 i89 c91 s91 a91 b91 z91 o91 i91 c93 s93 a93 b93 z93 o93 i93 c94 s94 a94 b94 z94 o94 i94 c96 s96 a96 b96 z96 o96 i96 c97 s97 a97 b97 z97 o97 i97 c98 s98 a98 b98 z98 o98 i98 c99 s99 a99 b99 z99 o99 i99 c100 s100 a100 b100 z100 o100 i100 c101 s101 a101 b101 z101 o101 i101 c102 s102 a102 b102 z102 o102 i102 c104 s104 a104 b104 z104 o104 i104 c105 s105 a105 b105 z105 o105 i105 c107 s107 a107 b107 z107 o107 i107 c108 s108 a108 b108 z108 o108 i108 c110 s110 a110 b110 z110 o110 i110 c112 s112 a112 b112 z112 o112 i112 c113 s113 a113 b113 z113 o113 i113 c115 s115 a115 b115 z115 o115 i115 c116 s116 a116 b116 z116 o116 i116 c118 s118 a118 b118 z118 o118 i118 c119 s119 a119 b119 z119 o119 i119 c120 s120 a120 b120 z120 o120 i120 c122 s122 a122 b122 z122 o122 i122 c124 s124 a124 b124 z124 o124 i124 c125 s125 a125 b125 z125 o125 i125 c126 s126 a126 b126 z126 o126 f126_0 f126_1 f126_2 f126_3 fo126 r126 i126 c127 s127 a127 b127 z127 o127 f127_0 f127_1 f127_2 f127_3 fo127 r127 i127 c131 s131 a131 b131 z131 o131 i131 c132 s132 a132 b132 z132 o132 i132 u132 c133 s133 a133 b133 z133 o133 i133 u133 c134 s134 a134 b134 z134 o134 i134 u134 c135 s135 a135 b135 z135 o135 i135 c136 s136 a136 b136 z136 o136 p136 i136 c137 s137 a137 b137 z137 o137 i137 u137 c138 s138 a138 b138 z138 o138 i138 u138 c139 s139 a139 b139 z139 o139 f139_0 f139_1 f139_2 f139_3 f139_4 f139_5 f139_6 f139_7 f139_8 f139_9 f139_10 fo139 r139 i139 c140 s140 a140 b140 z140 o140 f140_0 f140_1 f140_2 f140_3 f140_4 f140_5 f140_6 f140_7 f140_8 f140_9 f140_10 fo140 r140 i140
attribute [local go_sem] List.replicate List.length_cons List.length_nil Nat.reduceAdd Nat.reduceSub List.cons_append List.nil_append List.append_nil List.set_cons_succ List.set_cons_zero List.getD_cons_succ List.getD_cons_zero Nat.zero_add List.getElem?_cons_succ List.getElem?_cons_zero List.foldl_cons List.foldl_nil Option.map_some Option.map_none List.drop_succ_cons List.drop_zero List.take_succ_cons List.take_zero List.map_cons List.map_nil List.all_cons List.all_nil  Bool.and_true Bool.true_and imp_self Nat.add_zero beq_self_eq_true Option.isSome_some true_and and_true if_true if_false ints_len
set_option linter.unusedSimpArgs false
set_option maxRecDepth 100000
set_option maxHeartbeats 4000000
attribute [local go_sem] ints_nil ints_take ints_drop ints_cat ints_snoc ints_cons List.length_take List.length_drop List.drop_zero decide_true decide_false List.getElem?_toArray Option.bind_some Bool.false_eq_true Bool.true_eq_false Bool.not_true Bool.not_false Int.toNat_natCast Int.cast_ofNat_Int forget swap grow growIn opt_or opt_orn opt_and beq_true beq_false rdAll rdOp rdTmp agree Option.getD_some Option.getD_none List.flatten_cons List.flatten_nil ownCut mp mpL mpO vl vlL matchH freshH setAll nodupB enterH List.contains_cons List.contains_nil Nat.reduceMul Nat.reduceLT Nat.reduceLeDiff Nat.reduceEqDiff
attribute [local go_sem] mails_len mails_nil mails_drop mails_take mails_snoc sms_len bxs_len pgs_len sms_nil bxs_nil sms_set bxs_set sms_snoc bxs_snoc
theorem task_spec (p k n : Int) : Ret Try.prog 12 [.agg [.int .i64 p, .int .i64 k, .int .i64 n]] (.agg [.int .i64 p, .int .i64 k, .int .i64 n]) := by
 refine Ret_of_body Try.func12 (by kernel_rfl) rfl ?_; rw [Try.ntmps12]
 refine Dd0 ?_
 (refine ⟨by simp, ?_⟩; simp only [go_sem, Try.results12])
theorem esame_spec (a1 a2 a3 : Int) (b4 : Bool) (a5 p k n : Int) : Ret Try.prog 18 [.agg [.int .i64 a1, .int .i64 a2, .int .i64 a3, .bool b4, .int .i64 a5], .agg [.int .i64 a1, .int .i64 a2, .int .i64 a3, .bool b4, .int .i64 a5], .agg [.int .i64 p, .int .i64 k, .int .i64 n], .agg [.int .i64 p, .int .i64 k, .int .i64 n]] (.bool true) := by
 have hs : ∀ x : Int, decide (x = x) = true := fun x => decide_eq_true rfl
 refine Ret_of_body Try.func18 (by kernel_rfl) rfl ?_; rw [Try.ntmps18]
 refine Dd1 @hs ?_
 (refine ⟨by simp, ?_⟩; simp only [go_sem, Try.results18])
def atR (P : List (List (Int × Int))) (p k : Int) : (Int × Int) × Bool :=
 if 0 ≤ p ∧ p < P.length ∧ 0 ≤ k ∧ k < (pgN P p.toNat).length then (atN (pgN P p.toNat) k.toNat, true) else ((0, 0), false)
theorem at_spec (f : Bool) (P : List (List (Int × Int))) (p k n : Int) (hP : P.length ≤ 1000000) (hq : ∀ i, (pgN P i).length ≤ 9223372036854775807) :
  Ret Try.prog 14 [.sl f (pgs P), .agg [.int .i64 p, .int .i64 k, .int .i64 n]] (.tup [.agg [.int .i64 (atR P p k).1.1, .int .i64 (atR P p k).1.2], .bool (atR P p k).2]) := by
 unfold atR
 by_cases h : 0 ≤ p ∧ p < P.length ∧ 0 ≤ k ∧ k < (pgN P p.toNat).length
 ·rw [if_pos h]
  obtain ⟨i, rfl⟩ := Int.eq_ofNat_of_zero_le h.1
  obtain ⟨j, rfl⟩ := Int.eq_ofNat_of_zero_le h.2.2.1
  rw [Int.toNat_natCast, Int.toNat_natCast]
  have hi : i < P.length := by have := h.2.1; omega
  have hj : j < (pgN P i).length := by have := h.2.2.2; rw [Int.toNat_natCast] at this; omega
  exact at_some f P i j n hP hi hj (hq i)
 ·rw [if_neg h]
  exact at_none f P p k n hP hq h
theorem rat_spec (f : Bool) (P : List (List (Int × Int))) (p k n : Int) (hq : ∀ i, (pgN P i).length ≤ 9223372036854775807) :
  Ret Try.prog 15 [.sl f (pgs P), .agg [.int .i64 p, .int .i64 k, .int .i64 n]] (.tup [.agg [.int .i64 (atR P p k).1.1, .int .i64 (atR P p k).1.2], .bool (atR P p k).2]) := by
 unfold atR
 by_cases h : 0 ≤ p ∧ p < P.length ∧ 0 ≤ k ∧ k < (pgN P p.toNat).length
 ·rw [if_pos h]
  obtain ⟨i, rfl⟩ := Int.eq_ofNat_of_zero_le h.1
  obtain ⟨j, rfl⟩ := Int.eq_ofNat_of_zero_le h.2.2.1
  rw [Int.toNat_natCast, Int.toNat_natCast]
  have hi : i < P.length := by have := h.2.1; omega
  have hj : j < (pgN P i).length := by have := h.2.2.2; rw [Int.toNat_natCast] at this; omega
  exact rat_some f P i j n hi hj
 ·rw [if_neg h]
  exact rat_none f P p k n h
theorem shown_spec : Ret Try.prog 8 [] (.bool true) := by
 have hS : Ret Try.prog 19 [.sl false [[.int .i64 0]], .sl false []] (.tup [.agg [.sl false [[.int .i64 0, .sl false []]], .sl false []], .int .i64 0]) := new_spec false false [0] []
 have hO : Okm 1000 [(0, [])] [] := ⟨by simp, by simp, by simp, by simp, by simp⟩
 have hq : ∀ i, (pgN [[(1, 3), (4, 0)]] i).length ≤ 9223372036854775807 := by
  intro i; match i with
  | 0 => simp [pgN]
  | i + 1 => simp [pgN]
 have hA : Ret Try.prog 11 [.agg [.sl false [[.int .i64 0, .sl false []]], .sl false []], .sl false [[.sl false [[.int .i64 1, .int .i64 3], [.int .i64 4, .int .i64 0]]]], .agg [.int .i64 0, .int .i64 0, .int .i64 0], .int .i64 1] (.tup [.agg [.sl false [[.int .i64 0, .sl false []]], .sl false []], .agg [.int .i64 0, .int .i64 1, .int .i64 3], .agg [.int .i64 1, .int .i64 0, .int .i64 0, .bool false, .int .i64 0], .int .i64 0]) :=
  do_spec false 1000 (by omega) [(0, [])] [] [[(1, 3), (4, 0)]] 0 0 0 1 hO (by simp) hq (by omega)
 have hB : Ret Try.prog 11 [.agg [.sl false [[.int .i64 0, .sl false []]], .sl false []], .sl false [[.sl false [[.int .i64 1, .int .i64 3], [.int .i64 4, .int .i64 0]]]], .agg [.int .i64 0, .int .i64 1, .int .i64 3], .int .i64 1] (.tup [.agg [.sl false [[.int .i64 0, .sl false [[.int .i64 1]]]], .sl false []], .agg [.int .i64 0, .int .i64 2, .int .i64 3], .agg [.int .i64 4, .int .i64 0, .int .i64 0, .bool false, .int .i64 0], .int .i64 0]) :=
  do_spec false 1000 (by omega) [(0, [])] [] [[(1, 3), (4, 0)]] 0 1 3 1 hO (by simp) hq (by omega)
 have hs : ∀ x : Int, decide (x = x) = true := fun x => decide_eq_true rfl
 refine Ret_of_body Try.func8 (by kernel_rfl) rfl ?_; rw [Try.ntmps8]
 refine Dd0 ?_
 refine Dpu0 (hS) ?_
 refine Dd0 ?_
 ((with_reducible first | refine O1 rfl (fun N hN => ?_) | refine O2 rfl rfl rfl (fun N hN => ?_)); simp only [go_sem]; refine vCall.pu _ _ (hA) ?ha2 (hN _ ?hk2); (case ha2 => (first | (simp only [go_sem]; done) | (simp only [go_sem] <;> (first | omega | ((try simp only [go_sem, List.length_append, lim, lim2]) <;> omega) | assumption | exact ints_1 _ | exact rfl | (simp [ints]; done))) | (simp [ints]; done))); clear hN N; apply Ops_eq; (simp only [go_sem]; rfl))
 refine Dd0 ?_
 ((with_reducible first | refine O1 rfl (fun N hN => ?_) | refine O2 rfl rfl rfl (fun N hN => ?_)); simp only [go_sem]; refine vCall.pu _ _ (hB) ?ha3 (hN _ ?hk3); (case ha3 => (first | (simp only [go_sem]; done) | (simp only [go_sem] <;> (first | omega | ((try simp only [go_sem, List.length_append, lim, lim2]) <;> omega) | assumption | exact ints_1 _ | exact rfl | (simp [ints]; done))) | (simp [ints]; done))); clear hN N; apply Ops_eq; (simp only [go_sem]; rfl))
 refine Dd1 @hs ?_
 (refine ⟨by simp, ?_⟩; simp only [go_sem, Try.results8])
theorem fine_okm {sm : List (Int × List Int)} {bx : List Bx} (h : fineM sm bx = true) : Okm 64 sm bx := by
 simp only [fineM, Bool.and_eq_true, decide_eq_true_eq, List.all_eq_true] at h
 obtain ⟨⟨h1, h2⟩, h3, h4⟩ := h
 refine ⟨h1, h2, fun x hx => ?_, fun x hx => ?_, fun x hx => ?_⟩
 ·have := h3 x hx
  simp only [fineS, Bool.and_eq_true, decide_eq_true_eq] at this
  exact this.1
 ·have := h3 x hx
  simp only [fineS, semM, Bool.and_eq_true, decide_eq_true_eq] at this
  exact this.2.2.1
 ·have := h4 x hx
  simp only [fineB, boxM, Bool.and_eq_true, decide_eq_true_eq] at this
  omega
theorem acqW_le (c : Int) (l : List Int) (g : Int) : (acqW c l g).length ≤ l.length + 1 := by
 unfold acqW; split <;> simp
theorem acqC_in {c : Int} (h : 0 ≤ c ∧ c ≤ 1000000) : 0 ≤ acqC c ∧ acqC c ≤ 1000000 := by
 unfold acqC; split <;> omega
theorem relC_in {c : Int} {l : List Int} (h : 0 ≤ c ∧ c ≤ 1000000) : 0 ≤ relC c l ∧ relC c l ≤ 1000000 := by
 unfold relC; split
 ·split <;> omega
 ·exact h
theorem okm_up {N : Nat} {sm : List (Int × List Int)} {bx : List Bx} (h : Okm N sm bx) : Okm (N + 1) sm bx :=
 ⟨h.a, h.b, fun x hx => by have := h.s x hx; omega, h.c, fun x hx => by have := h.x x hx; omega⟩
theorem okm_s {N : Nat} {sm : List (Int × List Int)} {bx : List Bx} (h : Okm N sm bx) (i : Nat) (c : Int) (l : List Int) (h1 : 0 ≤ c ∧ c ≤ 1000000) (h2 : l.length ≤ N + 1) : Okm (N + 1) (sm.set i (c, l)) bx := by
 have hu := okm_up h
 refine ⟨by rw [List.length_set]; exact h.a, h.b, fun x hx => ?_, fun x hx => ?_, hu.x⟩
 ·rcases List.mem_or_eq_of_mem_set hx with hx | rfl
  ·exact hu.s x hx
  ·exact h2
 ·rcases List.mem_or_eq_of_mem_set hx with hx | rfl
  ·exact hu.c x hx
  ·exact h1
theorem okm_x {N : Nat} {sm : List (Int × List Int)} {bx : List Bx} (h : Okm N sm bx) (i : Nat) (b0 : Bx) (h2 : b0.m.length ≤ N + 1 ∧ b0.s.length ≤ N + 1 ∧ b0.w.length ≤ N + 1) : Okm (N + 1) sm (bx.set i b0) := by
 have hu := okm_up h
 refine ⟨h.a, by rw [List.length_set]; exact h.b, hu.s, hu.c, fun x hx => ?_⟩
 rcases List.mem_or_eq_of_mem_set hx with hx | rfl
 ·exact hu.x x hx
 ·exact h2
theorem bsend_le {N : Nat} {x : Bx} {g n : Int} (h : x.m.length ≤ N ∧ x.s.length ≤ N ∧ x.w.length ≤ N) : (bsend x g n).1.m.length ≤ N + 1 ∧ (bsend x g n).1.s.length ≤ N + 1 ∧ (bsend x g n).1.w.length ≤ N + 1 := by
 unfold bsend
 split
 ·simp; omega
 ·split
  ·simp; omega
  ·simp; omega
theorem brecv_le {N : Nat} {x : Bx} {g : Int} (h : x.m.length ≤ N ∧ x.s.length ≤ N ∧ x.w.length ≤ N) : (brecv x g).1.m.length ≤ N + 1 ∧ (brecv x g).1.s.length ≤ N + 1 ∧ (brecv x g).1.w.length ≤ N + 1 := by
 unfold brecv
 split
 ·simp; omega
 ·split
  ·simp; omega
  ·simp; omega
theorem doF_okm {N : Nat} {sm : List (Int × List Int)} {bx : List Bx} (P : List (List (Int × Int))) (p k n g : Int) (h : Okm N sm bx) : Okm (N + 1) (doF sm bx P p k n g).sm (doF sm bx P p k n g).bx := by
 have hu := okm_up h
 unfold doF
 split
 ·split
  ·rename_i hm
   obtain ⟨hz1, hz2⟩ := may_in hm
   generalize (atN (pgN P p.toNat) k.toNat).1 = op at *
   generalize (atN (pgN P p.toNat) k.toNat).2 = a at *
   clear hm
   unfold doO
   split
   ·exact hu
   ·split
    ·exact hu
    ·split
     ·exact hu
     ·split
      ·rename_i h4
       obtain ⟨z, rfl, hz⟩ := hz1 (.inl h4)
       rw [Int.toNat_natCast]
       exact okm_s h z _ _ (acqC_in (h.c _ (smN_mem hz))) (Nat.le_trans (acqW_le _ _ _) (by have := h.s _ (smN_mem hz); omega))
      ·split
       ·rename_i h5
        obtain ⟨z, rfl, hz⟩ := hz1 (.inr h5)
        rw [Int.toNat_natCast]
        exact okm_s h z _ _ (relC_in (h.c _ (smN_mem hz))) (by have := h.s _ (smN_mem hz); rw [List.length_drop]; omega)
       ·split
        ·rename_i h6
         obtain ⟨z, rfl, hz⟩ := hz2 (.inl h6)
         rw [Int.toNat_natCast]
         exact okm_x h z _ (bsend_le (h.x _ (bxN_mem hz)))
        ·split
         ·rename_i h7
          obtain ⟨z, rfl, hz⟩ := hz2 (.inr h7)
          rw [Int.toNat_natCast]
          exact okm_x h z _ (brecv_le (h.x _ (bxN_mem hz)))
         ·split
          ·exact hu
          ·split
           ·split <;> exact hu
           ·exact hu
  ·exact hu
 ·exact hu
theorem msame_spec (sm : List (Int × List Int)) (bx : List Bx) (h1 : sm.length ≤ 1000000) (h2 : bx.length ≤ 1000000) (hs : ∀ x ∈ sm, x.2.length ≤ 1000000) (hb : ∀ x ∈ bx, x.m.length ≤ 1000000 ∧ x.s.length ≤ 1000000 ∧ x.w.length ≤ 1000000) :
  Ret Try.prog 16 [.agg [.sl false (sms sm), .sl false (bxs bx)], .agg [.sl false (sms sm), .sl false (bxs bx)]] (.bool true) := by
 have hd1 : decide ((sm.length : Int) ≠ sm.length) = false := decide_eq_false (by simp)
 have hd2 : decide ((bx.length : Int) ≠ bx.length) = false := decide_eq_false (by simp)
 have hr2 := sms_2 sm
 have hr4 := bxs_4 bx
 refine Ret_of_body Try.func16 (by kernel_rfl) rfl ?_; rw [Try.ntmps16]
 refine Dd2 @hd1 @hd2 ?_
 refine TW_cond rfl (fun hc => ?_) (fun hc => ?_)
 ·simp at hc
 ·refine Dd0 ?_
  refine TW_sub (Sub_bl 4398046510995) ?_
  refine TW_loop (fun fuel st => ∃ (i : Nat), (i ≤ sm.length) ∧  fuel = sm.length - i ∧ st = ⟨[.junk, .junk, .ptr 2 0, .ptr 3 0, .junk, .int .i64 i, .junk, .junk, .junk, .junk, .junk, .junk, .junk, .junk, .junk, .junk, .junk, .junk, .junk, .junk, .junk, .junk, .junk, .junk, .junk, .junk, .junk, .junk, .junk, .junk, .junk, .junk, .junk, .junk, .junk, .junk, .junk, .junk, .junk, .junk, .junk, .junk, .junk, .junk, .junk, .junk, .junk, .junk, .junk, .junk, .junk, .junk, .junk, .junk, .junk, .junk, .junk, .junk, .junk, .junk, .junk], [.un, .un, .box [.sl false (sms sm), .sl false (bxs bx)], .box [.sl false (sms sm), .sl false (bxs bx)], .un, .un, .un, .un, .un, .un, .un, .un, .un, .un, .un, .un, .un, .un, .un, .un, .un, .un, .un, .un, .un, .un, .un, .un, .un, .un, .un, .un, .un, .un, .un, .un, .un, .un, .un, .un, .un, .un, .un, .un, .un, .un, .un, .un, .un, .un, .un, .un, .un, .un, .un, .un, .un, .un, .un, .un, .un], 0⟩) (n := _) ⟨0, by first | omega | (simp; done) | (simp; omega) | assumption, rfl, rfl⟩ ?_
  rintro fuel st ⟨i, hi, rfl, rfl⟩
  refine Dd0 ?_
  refine TW_cond rfl (fun hc => ?_) (fun hc => ?_)
  ·have hlt : i < sm.length := by simpa using hc
   have hg := sms_get sm i hlt
   have hw := wrap_i64 (n := (i : Int) + 1) (by omega) (by omega)
   have hat0 := smN_at hlt
   have hl := hs _ (List.getElem_mem hlt)
   rw [← hat0] at hl
   have hsp := ssame_spec (smN sm i).1 (smN sm i).1 (smN sm i).2 (smN sm i).2 hl hl
   rw [decide_eq_true rfl, decide_eq_true rfl, Bool.true_and] at hsp
   refine Dd0 ?_
   refine TW_sub (Sub_bl 8388483) ?_
   refine TW_open mixed (by kernel_rfl) (fun b => ⟨[.junk, .junk, .ptr 2 0, .ptr 3 0, .junk, .int .i64 (↑i : Int), .junk, .junk, .junk, .junk, .junk, .junk, .junk, .junk, .junk, .junk, .junk, .junk, .junk, .junk, .junk, .junk, .junk, .int .i64 (↑i : Int), .ptr 2 0, .sl false (sms sm), .int .i64 (↑sm.length : Int), .bool (decide ((↑i : Int) < (↑sm.length : Int))), .junk, .junk, if b 0 = true then .ptr 2 0 else .junk, if b 1 = true then .sl false (sms sm) else .junk, if b 2 = true then .int .i64 (↑i : Int) else .junk, if b 3 = true then .cptr [.int .i64 (smN sm i).fst, .sl false (ints (smN sm i).snd)] else .junk, if b 4 = true then .agg [.int .i64 (smN sm i).fst, .sl false (ints (smN sm i).snd)] else .junk, if b 5 = true then .ptr 3 0 else .junk, if b 6 = true then .sl false (sms sm) else .junk, if b 7 = true then .int .i64 (↑i : Int) else .junk, if b 8 = true then .cptr [.int .i64 (smN sm i).fst, .sl false (ints (smN sm i).snd)] else .junk, if b 9 = true then .agg [.int .i64 (smN sm i).fst, .sl false (ints (smN sm i).snd)] else .junk, if b 10 = true then .bool true else .junk, if b 11 = true then .bool false else .junk, .junk, .junk, .junk, .junk, .junk, .junk, .junk, .junk, .junk, .junk, .junk, .junk, .junk, .junk, .junk, .junk, .junk, .junk, .junk], [.un, .un, .box [.sl false (sms sm), .sl false (bxs bx)], .box [.sl false (sms sm), .sl false (bxs bx)], .un, .un, .un, .un, .un, .un, .un, .un, .un, .un, .un, .un, .un, .un, .un, .un, .un, .un, .un, .un, .un, .un, .un, .un, .un, .un, .un, .un, .un, .un, .un, .un, .un, .un, .un, .un, .un, .un, .un, .un, .un, .un, .un, .un, .un, .un, .un, .un, .un, .un, .un, .un, .un, .un, .un, .un, .un], 0⟩) rfl ?_ ?_
   ·skip
    (repeat refine Di ?_ (fun b hwW hbB hcC => ?_)); (exact trivial)
    ·exact Ds2 hbB (hwW.at 10 rfl) @hg
    ·exact Dksc4 hbB (hwW.at 4 rfl) (hwW.at 9 rfl) (hcC.l hbB 11 rfl) @hg (hsp)
    ·exact Ds3 hbB (hwW.at 8 rfl) (hcC.l hbB 10 rfl) @hg
    ·have l9 := hcC.l hbB 9 rfl; exact Ds5 hbB (hwW.at 6 rfl) (hwW.at 7 rfl) l9 (hcC.l l9 10 rfl) @hg
    ·have l8 := hcC.l hbB 8 rfl; have l9 := hcC.l l8 9 rfl; exact Ds3 hbB l8 (hcC.l l9 10 rfl) @hg
    ·have l8 := hcC.l hbB 8 rfl; have l9 := hcC.l l8 9 rfl; exact Ds4 hbB (hwW.at 5 rfl) l8 (hcC.l l9 10 rfl) @hg
    ·have l6 := hcC.l hbB 6 rfl; have l8 := hcC.l l6 8 rfl; have l9 := hcC.l l8 9 rfl; exact Ds3 hbB l6 (hcC.l l9 10 rfl) @hg
    ·exact Ds3 hbB (hwW.at 3 rfl) (hcC.l hbB 10 rfl) @hg
    ·have l4 := hcC.l hbB 4 rfl; exact Ds5 hbB (hwW.at 1 rfl) (hwW.at 2 rfl) l4 (hcC.l l4 10 rfl) @hg
    ·have l3 := hcC.l hbB 3 rfl; have l4 := hcC.l l3 4 rfl; exact Ds3 hbB l3 (hcC.l l4 10 rfl) @hg
    ·have l3 := hcC.l hbB 3 rfl; have l4 := hcC.l l3 4 rfl; exact Ds4 hbB (hwW.at 0 rfl) l3 (hcC.l l4 10 rfl) @hg
    ·have l1 := hcC.l hbB 1 rfl; have l3 := hcC.l l1 3 rfl; have l4 := hcC.l l3 4 rfl; exact Ds3 hbB l1 (hcC.l l4 10 rfl) @hg
   simp only [List.length_cons, List.length_nil, Nat.reduceAdd, Nat.reduceLT, decide_true, if_true]
   refine Dd0 ?_
   refine TW_cond rfl (fun hc => ?_) (fun hc => ?_)
   ·simp at hc
   ·refine Dd1 @hw ?_
    exact ⟨_, _, by omega, ⟨i + 1, by omega, rfl, rfl⟩, Sub_bl 4398046510995⟩
  ·clear hi hc
   refine Dd0 ?_
   refine TW_sub (Sub_bl 2305843009213693875) ?_
   refine TW_loop (fun fuel st => ∃ (i : Nat), (i ≤ bx.length) ∧  fuel = bx.length - i ∧ st = ⟨[.junk, .junk, .ptr 2 0, .ptr 3 0, .junk, .junk, .int .i64 i, .junk, .junk, .junk, .junk, .junk, .junk, .junk, .junk, .junk, .junk, .junk, .junk, .junk, .junk, .junk, .junk, .junk, .junk, .junk, .junk, .junk, .junk, .junk, .junk, .junk, .junk, .junk, .junk, .junk, .junk, .junk, .junk, .junk, .junk, .junk, .junk, .junk, .junk, .junk, .junk, .junk, .junk, .junk, .junk, .junk, .junk, .junk, .junk, .junk, .junk, .junk, .junk, .junk, .junk], [.un, .un, .box [.sl false (sms sm), .sl false (bxs bx)], .box [.sl false (sms sm), .sl false (bxs bx)], .un, .un, .un, .un, .un, .un, .un, .un, .un, .un, .un, .un, .un, .un, .un, .un, .un, .un, .un, .un, .un, .un, .un, .un, .un, .un, .un, .un, .un, .un, .un, .un, .un, .un, .un, .un, .un, .un, .un, .un, .un, .un, .un, .un, .un, .un, .un, .un, .un, .un, .un, .un, .un, .un, .un, .un, .un], 0⟩) (n := _) ⟨0, by first | omega | (simp; done) | (simp; omega) | assumption, rfl, rfl⟩ ?_
   rintro fuel st ⟨i, hi, rfl, rfl⟩
   refine Dd0 ?_
   refine TW_cond rfl (fun hc => ?_) (fun hc => ?_)
   ·have hlt : i < bx.length := by simpa using hc
    have hg := bxs_get bx i hlt
    have hw := wrap_i64 (n := (i : Int) + 1) (by omega) (by omega)
    have hat0 := bxN_at hlt
    have hl := hb _ (List.getElem_mem hlt)
    rw [← hat0] at hl
    have hsp := bsame_spec (bxN bx i).r (bxN bx i).m (bxN bx i).s (bxN bx i).w hl.1 hl.2.1 hl.2.2
    refine Dd0 ?_
    refine TW_sub (Sub_bl 4398046511011) ?_
    refine TW_open mixed (by kernel_rfl) (fun b => ⟨[.junk, .junk, .ptr 2 0, .ptr 3 0, .junk, .junk, .int .i64 (↑i : Int), .junk, .junk, .junk, .junk, .junk, .junk, .junk, .junk, .junk, .junk, .junk, .junk, .junk, .junk, .junk, .junk, .junk, .junk, .junk, .junk, .junk, .junk, .junk, .junk, .junk, .junk, .junk, .junk, .junk, .junk, .junk, .junk, .junk, .junk, .junk, .int .i64 (↑i : Int), .ptr 2 1, .sl false (bxs bx), .int .i64 (↑bx.length : Int), .bool (decide ((↑i : Int) < (↑bx.length : Int))), .junk, .junk, if b 0 = true then .ptr 2 1 else .junk, if b 1 = true then .sl false (bxs bx) else .junk, if b 2 = true then .int .i64 (↑i : Int) else .junk, if b 3 = true then .cptr [.int .i64 (bxN bx i).r, .sl false (ints (bxN bx i).m), .sl false (mails (bxN bx i).s), .sl false (ints (bxN bx i).w)] else .junk, if b 4 = true then .agg [.int .i64 (bxN bx i).r, .sl false (ints (bxN bx i).m), .sl false (mails (bxN bx i).s), .sl false (ints (bxN bx i).w)] else .junk, if b 5 = true then .ptr 3 1 else .junk, if b 6 = true then .sl false (bxs bx) else .junk, if b 7 = true then .int .i64 (↑i : Int) else .junk, if b 8 = true then .cptr [.int .i64 (bxN bx i).r, .sl false (ints (bxN bx i).m), .sl false (mails (bxN bx i).s), .sl false (ints (bxN bx i).w)] else .junk, if b 9 = true then .agg [.int .i64 (bxN bx i).r, .sl false (ints (bxN bx i).m), .sl false (mails (bxN bx i).s), .sl false (ints (bxN bx i).w)] else .junk, if b 10 = true then .bool true else .junk, if b 11 = true then .bool false else .junk], [.un, .un, .box [.sl false (sms sm), .sl false (bxs bx)], .box [.sl false (sms sm), .sl false (bxs bx)], .un, .un, .un, .un, .un, .un, .un, .un, .un, .un, .un, .un, .un, .un, .un, .un, .un, .un, .un, .un, .un, .un, .un, .un, .un, .un, .un, .un, .un, .un, .un, .un, .un, .un, .un, .un, .un, .un, .un, .un, .un, .un, .un, .un, .un, .un, .un, .un, .un, .un, .un, .un, .un, .un, .un, .un, .un], 0⟩) rfl ?_ ?_
    ·skip
     (repeat refine Di ?_ (fun b hwW hbB hcC => ?_)); (exact trivial)
     ·exact Ds2 hbB (hwW.at 10 rfl) @hg
     ·exact Dksc4 hbB (hwW.at 4 rfl) (hwW.at 9 rfl) (hcC.l hbB 11 rfl) @hg (hsp)
     ·exact Ds3 hbB (hwW.at 8 rfl) (hcC.l hbB 10 rfl) @hg
     ·have l9 := hcC.l hbB 9 rfl; exact Ds5 hbB (hwW.at 6 rfl) (hwW.at 7 rfl) l9 (hcC.l l9 10 rfl) @hg
     ·have l8 := hcC.l hbB 8 rfl; have l9 := hcC.l l8 9 rfl; exact Ds3 hbB l8 (hcC.l l9 10 rfl) @hg
     ·have l8 := hcC.l hbB 8 rfl; have l9 := hcC.l l8 9 rfl; exact Ds4 hbB (hwW.at 5 rfl) l8 (hcC.l l9 10 rfl) @hg
     ·have l6 := hcC.l hbB 6 rfl; have l8 := hcC.l l6 8 rfl; have l9 := hcC.l l8 9 rfl; exact Ds3 hbB l6 (hcC.l l9 10 rfl) @hg
     ·exact Ds3 hbB (hwW.at 3 rfl) (hcC.l hbB 10 rfl) @hg
     ·have l4 := hcC.l hbB 4 rfl; exact Ds5 hbB (hwW.at 1 rfl) (hwW.at 2 rfl) l4 (hcC.l l4 10 rfl) @hg
     ·have l3 := hcC.l hbB 3 rfl; have l4 := hcC.l l3 4 rfl; exact Ds3 hbB l3 (hcC.l l4 10 rfl) @hg
     ·have l3 := hcC.l hbB 3 rfl; have l4 := hcC.l l3 4 rfl; exact Ds4 hbB (hwW.at 0 rfl) l3 (hcC.l l4 10 rfl) @hg
     ·have l1 := hcC.l hbB 1 rfl; have l3 := hcC.l l1 3 rfl; have l4 := hcC.l l3 4 rfl; exact Ds3 hbB l1 (hcC.l l4 10 rfl) @hg
    simp only [List.length_cons, List.length_nil, Nat.reduceAdd, Nat.reduceLT, decide_true, if_true]
    refine Dd0 ?_
    refine TW_cond rfl (fun hc => ?_) (fun hc => ?_)
    ·simp at hc
    ·refine Dd1 @hw ?_
     exact ⟨_, _, by omega, ⟨i + 1, by omega, rfl, rfl⟩, Sub_bl 2305843009213693875⟩
   ·refine Dd0 ?_
    (refine ⟨by simp, ?_⟩; simp only [go_sem, Try.results16])
theorem real_spec (sm : List (Int × List Int)) (bx : List Bx) (h1 : sm.length ≤ 1000000) (h2 : bx.length ≤ 1000000) (hb : ∀ x ∈ bx, x.s.length ≤ 1000000) : Ret Try.prog 17 [.agg [.sl false (sms sm), .sl false (bxs bx)]] (.agg [.sl false (sms sm), .sl false (bxs bx)]) := by
 have hr2 := sms_2 sm
 have hr4 := bxs_4 bx
 refine Ret_of_body Try.func17 (by kernel_rfl) rfl ?_; rw [Try.ntmps17]
 refine Dd0 ?_
 refine TW_sub (Sub_growIn (b := 3) (f := 0) (id := 33) 64 2 rfl rfl rfl (Nat.zero_le _)) ?_
 simp only [go_sem]
 refine TW_sub (Sub_bl 17179868929) ?_
 refine TW_loop (fun fuel st => ∃ (i : Nat) (u : List (Int × List Int)), (i ≤ sm.length) ∧ (u = sm.take i) ∧  fuel = sm.length - i ∧ st = ⟨[.junk, .ptr 1 0, .ptr 2 0, .ptr 3 0, .int .i64 i, .junk, .junk, .junk, .junk, .junk, .junk, .junk, .junk, .junk, .junk, .junk, .junk, .junk, .junk, .junk, .junk, .junk, .junk, .junk, .junk, .junk, .junk, .junk, .junk, .junk, .junk, .junk, .junk, .junk, .junk, .junk, .junk, .junk, .junk, .junk, .junk, .junk, .junk, .junk, .junk, .junk, .junk, .junk, .junk, .junk, .junk, .junk, .junk, .junk, .junk, .junk, .junk, .junk, .junk, .junk, .junk, .junk, .junk, .junk, .junk, .junk, .junk, .junk, .junk, .junk, .junk, .junk, .junk, .junk, .junk, .junk, .junk, .junk, .junk, .junk, .junk, .junk, .junk, .junk, .junk, .junk, .junk, .junk, .junk, .junk, .junk, .junk, .junk, .junk, .junk, .junk, .junk, .junk, .junk, .junk, .junk, .junk, .junk, .junk], [.un, .box [.sl false (sms sm), .sl false (bxs bx)], .box [.nils, .nils], .box [.bsl 33, .nils], .un, .un, .un, .un, .un, .un, .un, .un, .un, .un, .un, .un, .un, .un, .un, .un, .un, .un, .un, .un, .un, .un, .un, .un, .un, .un, .un, .un, .un, .arr 64 2 (sms u), .un, .un, .un, .un, .un, .un, .un, .un, .un, .un, .un, .un, .un, .un, .un, .un, .un, .un, .un, .un, .un, .un, .un, .un, .un, .un, .un, .un, .un, .un, .un, .un, .un, .un, .un, .un, .un, .un, .un, .un, .un, .un, .un, .un, .un, .un, .un, .un, .un, .un, .un, .un, .un, .un, .un, .un, .un, .un, .un, .un, .un, .un, .un, .un, .un, .un, .un, .un, .un, .un], 0⟩) (n := _) ⟨0, [], by first | omega | (simp; done) | (simp; omega) | assumption, by first | omega | (simp; done) | (simp; omega) | assumption, rfl, rfl⟩ ?_
 rintro fuel st ⟨i, u, hi, hu, rfl, rfl⟩
 refine Dd0 ?_
 refine TW_cond rfl (fun hc => ?_) (fun hc => ?_)
 ·have hlt : i < sm.length := by simpa using hc
  have hg := sms_get sm i hlt
  have hu2 := sms_2 u
  have hw := wrap_i64 (n := (i : Int) + 1) (by omega) (by omega)
  have hul : u.length ≤ 1000000 := by rw [hu, List.length_take]; omega
  have hat0 := smN_at hlt
  refine Dd0 ?_
  refine TW_sub (Sub_bl 257) ?_
  refine TW_open mixed (by kernel_rfl) (fun b => ⟨[.junk, .ptr 1 0, .ptr 2 0, .ptr 3 0, .int .i64 (↑i : Int), .junk, .junk, .junk, .junk, .int .i64 (↑i : Int), .ptr 1 0, .sl false (sms sm), .int .i64 (↑sm.length : Int), .bool (decide ((↑i : Int) < (↑sm.length : Int))), .junk, .junk, if b 0 = true then .ptr 3 0 else .junk, if b 1 = true then .bsl 33 else .junk, if b 2 = true then .ptr 1 0 else .junk, if b 3 = true then .sl false (sms sm) else .junk, if b 4 = true then .int .i64 (↑i : Int) else .junk, if b 5 = true then .cptr [.int .i64 (smN sm i).fst, .sl false (ints (smN sm i).snd)] else .junk, if b 6 = true then .cptr [.int .i64 (smN sm i).fst, .sl false (ints (smN sm i).snd)] else .junk, if b 7 = true then .int .i64 (smN sm i).fst else .junk, if b 8 = true then .ptr 1 0 else .junk, if b 9 = true then .sl false (sms sm) else .junk, if b 10 = true then .int .i64 (↑i : Int) else .junk, if b 11 = true then .cptr [.int .i64 (smN sm i).fst, .sl false (ints (smN sm i).snd)] else .junk, if b 12 = true then .cptr [.sl false (ints (smN sm i).snd)] else .junk, if b 13 = true then .sl false (ints (smN sm i).snd) else .junk, if b 14 = true then .agg [.int .i64 (smN sm i).fst, .sl false (ints (smN sm i).snd)] else .junk, if b 15 = true then .bsl 31 else .junk, if b 16 = true then .bsl 32 else .junk, if b 17 = true then .ptr 3 0 else .junk, .junk, .junk, .junk, .junk, .junk, .junk, .junk, .junk, .junk, .junk, .junk, .junk, .junk, .junk, .junk, .junk, .junk, .junk, .junk, .junk, .junk, .junk, .junk, .junk, .junk, .junk, .junk, .junk, .junk, .junk, .junk, .junk, .junk, .junk, .junk, .junk, .junk, .junk, .junk, .junk, .junk, .junk, .junk, .junk, .junk, .junk, .junk, .junk, .junk, .junk, .junk, .junk, .junk, .junk, .junk, .junk, .junk, .junk, .junk, .junk, .junk, .junk, .junk, .junk, .junk, .junk, .junk, .junk, .junk, .junk], [.un, .box [.sl false (sms sm), .sl false (bxs bx)], .box [.nils, .nils], if b 18 = true then .box [.bsl 32, .nils] else .box [.bsl 33, .nils], .un, .un, .un, .un, .un, .un, .un, .un, .un, .un, .un, .un, .un, .un, .un, .un, .un, .un, .un, .un, .un, .un, .un, .un, .un, .un, .un, if b 15 = true then .arr 64 2 [[.int .i64 (smN sm i).fst, .sl false (ints (smN sm i).snd)]] else .un, if b 16 = true then .arr 64 2 (sms (u ++ [((smN sm i).fst, (smN sm i).snd)])) else .un, if b 16 = true then .dead else .arr 64 2 (sms u), .un, .un, .un, .un, .un, .un, .un, .un, .un, .un, .un, .un, .un, .un, .un, .un, .un, .un, .un, .un, .un, .un, .un, .un, .un, .un, .un, .un, .un, .un, .un, .un, .un, .un, .un, .un, .un, .un, .un, .un, .un, .un, .un, .un, .un, .un, .un, .un, .un, .un, .un, .un, .un, .un, .un, .un, .un, .un, .un, .un, .un, .un, .un, .un, .un, .un, .un, .un, .un, .un], 0⟩) rfl ?_ ?_
  ·skip
   (repeat refine Di ?_ (fun b hwW hbB hcC => ?_)); (exact trivial)
   ·exact Ds19 hbB (hwW.at 0 rfl) (hwW.at 1 rfl) (hwW.at 2 rfl) (hwW.at 3 rfl) (hwW.at 4 rfl) (hwW.at 5 rfl) (hwW.at 6 rfl) (hwW.at 7 rfl) (hwW.at 8 rfl) (hwW.at 9 rfl) (hwW.at 10 rfl) (hwW.at 11 rfl) (hwW.at 12 rfl) (hwW.at 13 rfl) (hwW.at 14 rfl) (hwW.at 15 rfl) (hwW.at 16 rfl) (hwW.at 17 rfl) @hg
   ·exact Ds19 hbB (hwW.at 0 rfl) (hwW.at 1 rfl) (hwW.at 2 rfl) (hwW.at 3 rfl) (hwW.at 4 rfl) (hwW.at 5 rfl) (hwW.at 6 rfl) (hwW.at 7 rfl) (hwW.at 8 rfl) (hwW.at 9 rfl) (hwW.at 10 rfl) (hwW.at 11 rfl) (hwW.at 12 rfl) (hwW.at 13 rfl) (hwW.at 14 rfl) (hwW.at 15 rfl) (hwW.at 16 rfl) (hcC.l hbB 18 rfl) @hg
   ·exact Ds5 hbB (hwW.at 1 rfl) (hwW.at 15 rfl) (hcC.l hbB 17 rfl) (hcC.l hbB 18 rfl) @hg
   ·exact Ds5 hbB (hwW.at 14 rfl) (hcC.l hbB 16 rfl) (hcC.l hbB 17 rfl) (hcC.l hbB 18 rfl) @hg
   ·have l15 := hcC.l hbB 15 rfl; exact Ds7 hbB (hwW.at 7 rfl) (hwW.at 13 rfl) l15 (hcC.l l15 16 rfl) (hcC.l hbB 17 rfl) (hcC.l hbB 18 rfl) @hg
   ·have l14 := hcC.l hbB 14 rfl; have l15 := hcC.l l14 15 rfl; exact Ds7 hbB (hwW.at 12 rfl) l14 l15 (hcC.l l15 16 rfl) (hcC.l hbB 17 rfl) (hcC.l hbB 18 rfl) @hg
   ·have l13 := hcC.l hbB 13 rfl; have l14 := hcC.l l13 14 rfl; have l15 := hcC.l l14 15 rfl; exact Ds7 hbB (hwW.at 11 rfl) l13 l15 (hcC.l l15 16 rfl) (hcC.l hbB 17 rfl) (hcC.l hbB 18 rfl) @hg
   ·have l12 := hcC.l hbB 12 rfl; have l13 := hcC.l l12 13 rfl; have l14 := hcC.l l13 14 rfl; have l15 := hcC.l l14 15 rfl; exact Ds8 hbB (hwW.at 9 rfl) (hwW.at 10 rfl) l12 l15 (hcC.l l15 16 rfl) (hcC.l hbB 17 rfl) (hcC.l hbB 18 rfl) @hg
   ·have l11 := hcC.l hbB 11 rfl; have l12 := hcC.l l11 12 rfl; have l13 := hcC.l l12 13 rfl; have l14 := hcC.l l13 14 rfl; have l15 := hcC.l l14 15 rfl; exact Ds6 hbB l11 l15 (hcC.l l15 16 rfl) (hcC.l hbB 17 rfl) (hcC.l hbB 18 rfl) @hg
   ·have l11 := hcC.l hbB 11 rfl; have l12 := hcC.l l11 12 rfl; have l13 := hcC.l l12 13 rfl; have l14 := hcC.l l13 14 rfl; have l15 := hcC.l l14 15 rfl; exact Ds7 hbB (hwW.at 8 rfl) l11 l15 (hcC.l l15 16 rfl) (hcC.l hbB 17 rfl) (hcC.l hbB 18 rfl) @hg
   ·have l9 := hcC.l hbB 9 rfl; have l11 := hcC.l l9 11 rfl; have l12 := hcC.l l11 12 rfl; have l13 := hcC.l l12 13 rfl; have l14 := hcC.l l13 14 rfl; have l15 := hcC.l l14 15 rfl; exact Ds6 hbB l9 l15 (hcC.l l15 16 rfl) (hcC.l hbB 17 rfl) (hcC.l hbB 18 rfl) @hg
   ·have l14 := hcC.l hbB 14 rfl; have l15 := hcC.l l14 15 rfl; exact Ds7 hbB (hwW.at 6 rfl) l14 l15 (hcC.l l15 16 rfl) (hcC.l hbB 17 rfl) (hcC.l hbB 18 rfl) @hg
   ·have l7 := hcC.l hbB 7 rfl; have l14 := hcC.l l7 14 rfl; have l15 := hcC.l l14 15 rfl; exact Ds7 hbB (hwW.at 5 rfl) l7 l15 (hcC.l l15 16 rfl) (hcC.l hbB 17 rfl) (hcC.l hbB 18 rfl) @hg
   ·have l6 := hcC.l hbB 6 rfl; have l7 := hcC.l l6 7 rfl; have l14 := hcC.l l7 14 rfl; have l15 := hcC.l l14 15 rfl; exact Ds8 hbB (hwW.at 3 rfl) (hwW.at 4 rfl) l6 l15 (hcC.l l15 16 rfl) (hcC.l hbB 17 rfl) (hcC.l hbB 18 rfl) @hg
   ·have l5 := hcC.l hbB 5 rfl; have l6 := hcC.l l5 6 rfl; have l7 := hcC.l l6 7 rfl; have l14 := hcC.l l7 14 rfl; have l15 := hcC.l l14 15 rfl; exact Ds6 hbB l5 l15 (hcC.l l15 16 rfl) (hcC.l hbB 17 rfl) (hcC.l hbB 18 rfl) @hg
   ·have l5 := hcC.l hbB 5 rfl; have l6 := hcC.l l5 6 rfl; have l7 := hcC.l l6 7 rfl; have l14 := hcC.l l7 14 rfl; have l15 := hcC.l l14 15 rfl; exact Ds7 hbB (hwW.at 2 rfl) l5 l15 (hcC.l l15 16 rfl) (hcC.l hbB 17 rfl) (hcC.l hbB 18 rfl) @hg
   ·have l3 := hcC.l hbB 3 rfl; have l5 := hcC.l l3 5 rfl; have l6 := hcC.l l5 6 rfl; have l7 := hcC.l l6 7 rfl; have l14 := hcC.l l7 14 rfl; have l15 := hcC.l l14 15 rfl; exact Ds6 hbB l3 l15 (hcC.l l15 16 rfl) (hcC.l hbB 17 rfl) (hcC.l hbB 18 rfl) @hg
   ·exact Ds5 hbB (hwW.at 0 rfl) (hcC.l hbB 16 rfl) (hcC.l hbB 17 rfl) (hcC.l hbB 18 rfl) @hg
   ·have l1 := hcC.l hbB 1 rfl; exact Ds5 hbB l1 (hcC.l l1 16 rfl) (hcC.l hbB 17 rfl) (hcC.l hbB 18 rfl) @hg
  simp only [List.length_cons, List.length_nil, Nat.reduceAdd, Nat.reduceLT, decide_true, if_true]
  refine Dd1 @hw ?_
  (refine ⟨(fun (i : Nat) (u : List (Int × List Int)) => sm.length - i) (i + 1) ( u ++ [((smN sm i).1, (smN sm i).2)]), _, ?hm, ?hI, (Sub.trans (Sub_swap 33 32 (by first | (simp; done) | (simp [swap]; done)) (by first | (simp; done) | (simp [swap]; done)) (Nat.le_of_ble_eq_true rfl) (Nat.le_of_ble_eq_true rfl)) (Sub.trans (Sub_forget [31, 32] rfl) (Sub_bl 17179868929)))⟩; (case hm => (first | omega | (simp only; omega) | (simp only [List.length_cons]; omega))); (case hI => (simp only [go_sem, forget, swap, scrL, scr, scrH, scrO, renL, ren, renO, sw, blankN, Nat.reduceMod, Nat.reduceDiv, cond_true, cond_false, List.contains_cons, List.contains_nil, Nat.reduceBEq, Bool.or_false, Bool.false_or, Bool.or_true, Bool.true_or, Bool.false_eq_true, if_true, if_false] <;> exact ⟨i + 1, u ++ [((smN sm i).1, (smN sm i).2)], by omega, by rw [hu, hat0, List.take_succ_eq_append_getElem hlt], rfl, rfl⟩)))
 ·have hus : u = sm := by
   have hi2 : i = sm.length := by have : ¬ (i < sm.length) := by simpa using hc
                                  omega
   rw [hu, hi2, List.take_length]
  rw [hus]
  clear hus hu hi hc
  refine Dd0 ?_
  refine TW_sub (Sub_growIn (b := 3) (f := 1) (id := 102) 68 4 rfl rfl rfl (Nat.zero_le _)) ?_
  simp only [go_sem]
  refine TW_sub (Sub_bl 10141204801825835211973625642961) ?_
  refine TW_loop (fun fuel st => ∃ (j : Nat) (U : List Bx), (j ≤ bx.length) ∧ (U = bx.take j) ∧  fuel = bx.length - j ∧ st = ⟨[.junk, .ptr 1 0, .ptr 2 0, .ptr 3 0, .junk, .int .i64 j, .junk, .junk, .junk, .junk, .junk, .junk, .junk, .junk, .junk, .junk, .junk, .junk, .junk, .junk, .junk, .junk, .junk, .junk, .junk, .junk, .junk, .junk, .junk, .junk, .junk, .junk, .junk, .junk, .junk, .junk, .junk, .junk, .junk, .junk, .junk, .junk, .junk, .junk, .junk, .junk, .junk, .junk, .junk, .junk, .junk, .junk, .junk, .junk, .junk, .junk, .junk, .junk, .junk, .junk, .junk, .junk, .junk, .junk, .junk, .junk, .junk, .junk, .junk, .junk, .junk, .junk, .junk, .junk, .junk, .junk, .junk, .junk, .junk, .junk, .junk, .junk, .junk, .junk, .junk, .junk, .junk, .junk, .junk, .junk, .junk, .junk, .junk, .junk, .junk, .junk, .junk, .junk, .junk, .junk, .junk, .junk, .junk, .junk], [.un, .box [.sl false (sms sm), .sl false (bxs bx)], .box [.nils, .nils], .box [.bsl 33, .bsl 102], .un, .un, .un, .un, .un, .un, .un, .un, .un, .un, .un, .un, .un, .un, .un, .un, .un, .un, .un, .un, .un, .un, .un, .un, .un, .un, .un, .un, .un, .arr 64 2 (sms sm), .un, .un, .un, .un, .un, .un, .un, .un, .un, .un, .un, .un, .un, .un, .un, .un, .un, .un, .un, .un, .un, .un, .un, .un, .un, .un, .un, .un, .un, .un, .un, .un, .un, .un, .un, .un, .un, .un, .un, .un, .un, .un, .un, .un, .un, .un, .un, .un, .un, .un, .un, .un, .un, .un, .un, .un, .un, .un, .un, .un, .un, .un, .un, .un, .un, .un, .un, .un, .arr 68 4 (bxs U), .un], 0⟩) (n := _) ⟨0, [], by first | omega | (simp; done) | (simp; omega) | assumption, by first | omega | (simp; done) | (simp; omega) | assumption, rfl, rfl⟩ ?_
  rintro fuel st ⟨j, U, hj, hU, rfl, rfl⟩
  refine Dd0 ?_
  refine TW_cond rfl (fun hc => ?_) (fun hc => ?_)
  ·have hlt : j < bx.length := by simpa using hc
   have hg := bxs_get bx j hlt
   have hU2 := bxs_4 U
   have hw := wrap_i64 (n := (j : Int) + 1) (by omega) (by omega)
   have hUl : U.length ≤ 1000000 := by rw [hU, List.length_take]; omega
   have hat0 := bxN_at hlt
   have hs0 := hb _ (List.getElem_mem hlt)
   rw [← hat0] at hs0
   refine Dd0 ?_
   refine TW_sub (Sub_bl 17179868945) ?_
   refine TW_open mixed (by kernel_rfl) (fun b => ⟨[.junk, .ptr 1 0, .ptr 2 0, .ptr 3 0, .junk, .int .i64 (↑j : Int), if b 19 = true then .ptr 6 0 else .junk, .junk, .junk, .junk, .junk, .junk, .junk, .junk, .junk, .junk, .junk, .junk, .junk, .junk, .junk, .junk, .junk, .junk, .junk, .junk, .junk, .junk, .junk, .junk, .junk, .junk, .junk, .junk, .int .i64 (↑j : Int), .ptr 1 1, .sl false (bxs bx), .int .i64 (↑bx.length : Int), .bool (decide ((↑j : Int) < (↑bx.length : Int))), .junk, .junk, if b 0 = true then .ptr 1 1 else .junk, if b 1 = true then .sl false (bxs bx) else .junk, if b 2 = true then .int .i64 (↑j : Int) else .junk, if b 3 = true then .cptr [.int .i64 (bxN bx j).r, .sl false (ints (bxN bx j).m), .sl false (mails (bxN bx j).s), .sl false (ints (bxN bx j).w)] else .junk, if b 4 = true then .cptr [.int .i64 (bxN bx j).r, .sl false (ints (bxN bx j).m), .sl false (mails (bxN bx j).s), .sl false (ints (bxN bx j).w)] else .junk, if b 5 = true then .int .i64 (bxN bx j).r else .junk, if b 6 = true then .ptr 1 1 else .junk, if b 7 = true then .sl false (bxs bx) else .junk, if b 8 = true then .int .i64 (↑j : Int) else .junk, if b 9 = true then .cptr [.int .i64 (bxN bx j).r, .sl false (ints (bxN bx j).m), .sl false (mails (bxN bx j).s), .sl false (ints (bxN bx j).w)] else .junk, if b 10 = true then .cptr [.sl false (ints (bxN bx j).m), .sl false (mails (bxN bx j).s), .sl false (ints (bxN bx j).w)] else .junk, if b 11 = true then .sl false (ints (bxN bx j).m) else .junk, if b 12 = true then .ptr 1 1 else .junk, if b 13 = true then .sl false (bxs bx) else .junk, if b 14 = true then .int .i64 (↑j : Int) else .junk, if b 15 = true then .cptr [.int .i64 (bxN bx j).r, .sl false (ints (bxN bx j).m), .sl false (mails (bxN bx j).s), .sl false (ints (bxN bx j).w)] else .junk, if b 16 = true then .cptr [.sl false (ints (bxN bx j).w)] else .junk, if b 17 = true then .sl false (ints (bxN bx j).w) else .junk, if b 18 = true then .agg [.int .i64 (bxN bx j).r, .sl false (ints (bxN bx j).m), .nils, .sl false (ints (bxN bx j).w)] else .junk, .junk, .junk, .junk, .junk, .junk, .junk, .junk, .junk, .junk, .junk, .junk, .junk, .junk, .junk, .junk, .junk, .junk, .junk, .junk, .junk, .junk, .junk, .junk, .junk, .junk, .junk, .junk, .junk, .junk, .junk, .junk, .junk, .junk, .junk, .junk, .junk, .junk, .junk, .junk, .junk, .junk, .junk, .junk, .junk], [.un, .box [.sl false (sms sm), .sl false (bxs bx)], .box [.nils, .nils], .box [.bsl 33, .bsl 102], .un, .un, if b 20 = true then .box [.int .i64 (bxN bx j).r, .sl false (ints (bxN bx j).m), .nils, .sl false (ints (bxN bx j).w)] else if b 19 = true then .box [.int .i64 0, .nils, .nils, .nils] else .un, .un, .un, .un, .un, .un, .un, .un, .un, .un, .un, .un, .un, .un, .un, .un, .un, .un, .un, .un, .un, .un, .un, .un, .un, .un, .un, .arr 64 2 (sms sm), .un, .un, .un, .un, .un, .un, .un, .un, .un, .un, .un, .un, .un, .un, .un, .un, .un, .un, .un, .un, .un, .un, .un, .un, .un, .un, .un, .un, .un, .un, .un, .un, .un, .un, .un, .un, .un, .un, .un, .un, .un, .un, .un, .un, .un, .un, .un, .un, .un, .un, .un, .un, .un, .un, .un, .un, .un, .un, .un, .un, .un, .un, .un, .un, .un, .un, .un, .un, .arr 68 4 (bxs U), .un], 0⟩) rfl ?_ ?_
   ·skip
    (repeat refine Di ?_ (fun b hwW hbB hcC => ?_)); (exact trivial)
    ·exact Ds21 hbB (hwW.at 0 rfl) (hwW.at 1 rfl) (hwW.at 2 rfl) (hwW.at 3 rfl) (hwW.at 4 rfl) (hwW.at 5 rfl) (hwW.at 6 rfl) (hwW.at 7 rfl) (hwW.at 8 rfl) (hwW.at 9 rfl) (hwW.at 10 rfl) (hwW.at 11 rfl) (hwW.at 12 rfl) (hwW.at 13 rfl) (hwW.at 14 rfl) (hwW.at 15 rfl) (hwW.at 16 rfl) (hwW.at 17 rfl) (hwW.at 18 rfl) (hwW.at 19 rfl) @hg
    ·exact Ds2 hbB (hcC.l hbB 20 rfl) @hg
    ·exact Ds5 hbB (hwW.at 5 rfl) (hwW.at 11 rfl) (hwW.at 17 rfl) (hcC.l hbB 20 rfl) @hg
    ·exact Ds4 hbB (hwW.at 16 rfl) (hcC.l hbB 18 rfl) (hcC.l hbB 20 rfl) @hg
    ·exact Ds4 hbB (hwW.at 15 rfl) (hcC.l hbB 17 rfl) (hcC.l hbB 20 rfl) @hg
    ·exact Ds5 hbB (hwW.at 13 rfl) (hwW.at 14 rfl) (hcC.l hbB 16 rfl) (hcC.l hbB 20 rfl) @hg
    ·exact Ds3 hbB (hcC.l hbB 15 rfl) (hcC.l hbB 20 rfl) @hg
    ·exact Ds4 hbB (hwW.at 12 rfl) (hcC.l hbB 15 rfl) (hcC.l hbB 20 rfl) @hg
    ·exact Ds3 hbB (hcC.l hbB 13 rfl) (hcC.l hbB 20 rfl) @hg
    ·exact Ds4 hbB (hwW.at 10 rfl) (hcC.l hbB 18 rfl) (hcC.l hbB 20 rfl) @hg
    ·exact Ds4 hbB (hwW.at 9 rfl) (hcC.l hbB 11 rfl) (hcC.l hbB 20 rfl) @hg
    ·exact Ds5 hbB (hwW.at 7 rfl) (hwW.at 8 rfl) (hcC.l hbB 10 rfl) (hcC.l hbB 20 rfl) @hg
    ·exact Ds3 hbB (hcC.l hbB 9 rfl) (hcC.l hbB 20 rfl) @hg
    ·exact Ds4 hbB (hwW.at 6 rfl) (hcC.l hbB 9 rfl) (hcC.l hbB 20 rfl) @hg
    ·exact Ds3 hbB (hcC.l hbB 7 rfl) (hcC.l hbB 20 rfl) @hg
    ·exact Ds4 hbB (hwW.at 4 rfl) (hcC.l hbB 18 rfl) (hcC.l hbB 20 rfl) @hg
    ·exact Ds4 hbB (hwW.at 3 rfl) (hcC.l hbB 5 rfl) (hcC.l hbB 20 rfl) @hg
    ·exact Ds5 hbB (hwW.at 1 rfl) (hwW.at 2 rfl) (hcC.l hbB 4 rfl) (hcC.l hbB 20 rfl) @hg
    ·exact Ds3 hbB (hcC.l hbB 3 rfl) (hcC.l hbB 20 rfl) @hg
    ·exact Ds4 hbB (hwW.at 0 rfl) (hcC.l hbB 3 rfl) (hcC.l hbB 20 rfl) @hg
    ·exact Ds3 hbB (hcC.l hbB 1 rfl) (hcC.l hbB 20 rfl) @hg
   simp only [List.length_cons, List.length_nil, Nat.reduceAdd, Nat.reduceLT, decide_true, if_true]
   refine Dd0 ?_
   refine TW_sub (Sub_growIn (b := 6) (f := 2) (id := 96) 70 2 rfl rfl rfl (Nat.zero_le _)) ?_
   simp only [go_sem]
   refine TW_sub (Sub_bl 158456325027375753699660922641) ?_
   refine TW_loop (fun fuel st => ∃ (k : Nat) (v : List (Int × Int)), (k ≤ (bxN bx j).s.length) ∧ (v = (bxN bx j).s.take k) ∧  fuel = (bxN bx j).s.length - k ∧ st = ⟨[.junk, .ptr 1 0, .ptr 2 0, .ptr 3 0, .junk, .int .i64 (↑j : Int), .ptr 6 0, .int .i64 k, .junk, .junk, .junk, .junk, .junk, .junk, .junk, .junk, .junk, .junk, .junk, .junk, .junk, .junk, .junk, .junk, .junk, .junk, .junk, .junk, .junk, .junk, .junk, .junk, .junk, .junk, .int .i64 (↑j : Int), .ptr 1 1, .sl false (bxs bx), .int .i64 (↑bx.length : Int), .bool (decide ((↑j : Int) < (↑bx.length : Int))), .junk, .junk, .ptr 1 1, .sl false (bxs bx), .int .i64 (↑j : Int), .cptr [.int .i64 (bxN bx j).r, .sl false (ints (bxN bx j).m), .sl false (mails (bxN bx j).s), .sl false (ints (bxN bx j).w)], .cptr [.int .i64 (bxN bx j).r, .sl false (ints (bxN bx j).m), .sl false (mails (bxN bx j).s), .sl false (ints (bxN bx j).w)], .int .i64 (bxN bx j).r, .ptr 1 1, .sl false (bxs bx), .int .i64 (↑j : Int), .cptr [.int .i64 (bxN bx j).r, .sl false (ints (bxN bx j).m), .sl false (mails (bxN bx j).s), .sl false (ints (bxN bx j).w)], .cptr [.sl false (ints (bxN bx j).m), .sl false (mails (bxN bx j).s), .sl false (ints (bxN bx j).w)], .sl false (ints (bxN bx j).m), .ptr 1 1, .sl false (bxs bx), .int .i64 (↑j : Int), .cptr [.int .i64 (bxN bx j).r, .sl false (ints (bxN bx j).m), .sl false (mails (bxN bx j).s), .sl false (ints (bxN bx j).w)], .cptr [.sl false (ints (bxN bx j).w)], .sl false (ints (bxN bx j).w), .agg [.int .i64 (bxN bx j).r, .sl false (ints (bxN bx j).m), .nils, .sl false (ints (bxN bx j).w)], .junk, .junk, .junk, .junk, .junk, .junk, .junk, .junk, .junk, .junk, .junk, .junk, .junk, .junk, .junk, .junk, .junk, .junk, .junk, .junk, .junk, .junk, .junk, .junk, .junk, .junk, .junk, .junk, .junk, .junk, .junk, .junk, .junk, .junk, .junk, .junk, .junk, .junk, .junk, .junk, .junk, .junk, .junk, .junk], [.un, .box [.sl false (sms sm), .sl false (bxs bx)], .box [.nils, .nils], .box [.bsl 33, .bsl 102], .un, .un, .box [.int .i64 (bxN bx j).r, .sl false (ints (bxN bx j).m), .bsl 96, .sl false (ints (bxN bx j).w)], .un, .un, .un, .un, .un, .un, .un, .un, .un, .un, .un, .un, .un, .un, .un, .un, .un, .un, .un, .un, .un, .un, .un, .un, .un, .un, .arr 64 2 (sms sm), .un, .un, .un, .un, .un, .un, .un, .un, .un, .un, .un, .un, .un, .un, .un, .un, .un, .un, .un, .un, .un, .un, .un, .un, .un, .un, .un, .un, .un, .un, .un, .un, .un, .un, .un, .un, .un, .un, .un, .un, .un, .un, .un, .un, .un, .un, .un, .un, .un, .un, .un, .un, .un, .un, .un, .un, .un, .un, .un, .un, .un, .un, .arr 70 2 (mails v), .un, .un, .un, .un, .un, .arr 68 4 (bxs U), .un], 0⟩) (n := _) ⟨0, [], by first | omega | (simp; done) | (simp; omega) | assumption, by first | omega | (simp; done) | (simp; omega) | assumption, rfl, rfl⟩ ?_
   rintro fuel st ⟨k, v, hk0, hv, rfl, rfl⟩
   refine Dd1 @hg ?_
   refine TW_cond rfl (fun hc => ?_) (fun hc => ?_)
   ·have hkl : k < (bxN bx j).s.length := by simpa using hc
    have hgm := mails_getN (bxN bx j).s k hkl
    have hm2 := mails_2 (bxN bx j).s
    have hv2 := mails_2 v
    have hwk := wrap_i64 (n := (k : Int) + 1) (by omega) (by omega)
    have hvl : v.length ≤ 1000000 := by rw [hv, List.length_take]; omega
    have hga := getD_atM hkl
    refine Dd0 ?_
    refine TW_sub (Sub_bl 17179868945) ?_
    refine TW_open mixed (by kernel_rfl) (fun b => ⟨[.junk, .ptr 1 0, .ptr 2 0, .ptr 3 0, .junk, .int .i64 (↑j : Int), .ptr 6 0, .int .i64 (↑k : Int), .junk, .junk, .junk, .junk, .junk, .junk, .junk, .junk, .junk, .junk, .junk, .junk, .junk, .junk, .junk, .junk, .junk, .junk, .junk, .junk, .junk, .junk, .junk, .junk, .junk, .junk, .int .i64 (↑j : Int), .ptr 1 1, .sl false (bxs bx), .int .i64 (↑bx.length : Int), .bool (decide ((↑j : Int) < (↑bx.length : Int))), .junk, .junk, .ptr 1 1, .sl false (bxs bx), .int .i64 (↑j : Int), .cptr [.int .i64 (bxN bx j).r, .sl false (ints (bxN bx j).m), .sl false (mails (bxN bx j).s), .sl false (ints (bxN bx j).w)], .cptr [.int .i64 (bxN bx j).r, .sl false (ints (bxN bx j).m), .sl false (mails (bxN bx j).s), .sl false (ints (bxN bx j).w)], .int .i64 (bxN bx j).r, .ptr 1 1, .sl false (bxs bx), .int .i64 (↑j : Int), .cptr [.int .i64 (bxN bx j).r, .sl false (ints (bxN bx j).m), .sl false (mails (bxN bx j).s), .sl false (ints (bxN bx j).w)], .cptr [.sl false (ints (bxN bx j).m), .sl false (mails (bxN bx j).s), .sl false (ints (bxN bx j).w)], .sl false (ints (bxN bx j).m), .ptr 1 1, .sl false (bxs bx), .int .i64 (↑j : Int), .cptr [.int .i64 (bxN bx j).r, .sl false (ints (bxN bx j).m), .sl false (mails (bxN bx j).s), .sl false (ints (bxN bx j).w)], .cptr [.sl false (ints (bxN bx j).w)], .sl false (ints (bxN bx j).w), .agg [.int .i64 (bxN bx j).r, .sl false (ints (bxN bx j).m), .nils, .sl false (ints (bxN bx j).w)], .int .i64 (↑k : Int), .ptr 1 1, .sl false (bxs bx), .int .i64 (↑j : Int), .cptr [.int .i64 (bxN bx j).r, .sl false (ints (bxN bx j).m), .sl false (mails (bxN bx j).s), .sl false (ints (bxN bx j).w)], .cptr [.sl false (mails (bxN bx j).s), .sl false (ints (bxN bx j).w)], .sl false (mails (bxN bx j).s), .int .i64 (↑(bxN bx j).s.length : Int), .bool (decide ((↑k : Int) < (↑(bxN bx j).s.length : Int))), .junk, .junk, if b 0 = true then .ptr 6 2 else .junk, if b 1 = true then .bsl 96 else .junk, if b 2 = true then .ptr 1 1 else .junk, if b 3 = true then .sl false (bxs bx) else .junk, if b 4 = true then .int .i64 (↑j : Int) else .junk, if b 5 = true then .cptr [.int .i64 (bxN bx j).r, .sl false (ints (bxN bx j).m), .sl false (mails (bxN bx j).s), .sl false (ints (bxN bx j).w)] else .junk, if b 6 = true then .cptr [.sl false (mails (bxN bx j).s), .sl false (ints (bxN bx j).w)] else .junk, if b 7 = true then .sl false (mails (bxN bx j).s) else .junk, if b 8 = true then .int .i64 (↑k : Int) else .junk, if b 9 = true then .cptr [.int .i64 (atN (bxN bx j).s k).fst, .int .i64 (atN (bxN bx j).s k).snd] else .junk, if b 10 = true then .cptr [.int .i64 (atN (bxN bx j).s k).fst, .int .i64 (atN (bxN bx j).s k).snd] else .junk, if b 11 = true then .int .i64 (atN (bxN bx j).s k).fst else .junk, if b 12 = true then .ptr 1 1 else .junk, if b 13 = true then .sl false (bxs bx) else .junk, if b 14 = true then .int .i64 (↑j : Int) else .junk, if b 15 = true then .cptr [.int .i64 (bxN bx j).r, .sl false (ints (bxN bx j).m), .sl false (mails (bxN bx j).s), .sl false (ints (bxN bx j).w)] else .junk, if b 16 = true then .cptr [.sl false (mails (bxN bx j).s), .sl false (ints (bxN bx j).w)] else .junk, if b 17 = true then .sl false (mails (bxN bx j).s) else .junk, if b 18 = true then .int .i64 (↑k : Int) else .junk, if b 19 = true then .cptr [.int .i64 (atN (bxN bx j).s k).fst, .int .i64 (atN (bxN bx j).s k).snd] else .junk, if b 20 = true then .cptr [.int .i64 (atN (bxN bx j).s k).snd] else .junk, if b 21 = true then .int .i64 (atN (bxN bx j).s k).snd else .junk, if b 22 = true then .agg [.int .i64 (atN (bxN bx j).s k).fst, .int .i64 (atN (bxN bx j).s k).snd] else .junk, if b 23 = true then .bsl 94 else .junk, if b 24 = true then .bsl 95 else .junk, if b 25 = true then .ptr 6 2 else .junk, .junk, .junk, .junk, .junk, .junk, .junk, .junk], [.un, .box [.sl false (sms sm), .sl false (bxs bx)], .box [.nils, .nils], .box [.bsl 33, .bsl 102], .un, .un, if b 26 = true then .box [.int .i64 (bxN bx j).r, .sl false (ints (bxN bx j).m), .bsl 95, .sl false (ints (bxN bx j).w)] else .box [.int .i64 (bxN bx j).r, .sl false (ints (bxN bx j).m), .bsl 96, .sl false (ints (bxN bx j).w)], .un, .un, .un, .un, .un, .un, .un, .un, .un, .un, .un, .un, .un, .un, .un, .un, .un, .un, .un, .un, .un, .un, .un, .un, .un, .un, .arr 64 2 (sms sm), .un, .un, .un, .un, .un, .un, .un, .un, .un, .un, .un, .un, .un, .un, .un, .un, .un, .un, .un, .un, .un, .un, .un, .un, .un, .un, .un, .un, .un, .un, .un, .un, .un, .un, .un, .un, .un, .un, .un, .un, .un, .un, .un, .un, .un, .un, .un, .un, .un, .un, .un, .un, .un, .un, .un, .un, .un, .un, .un, .un, if b 23 = true then .arr 70 2 [[.int .i64 (atN (bxN bx j).s k).fst, .int .i64 (atN (bxN bx j).s k).snd]] else .un, if b 24 = true then .arr 70 2 (mails (v ++ [((atN (bxN bx j).s k).fst, (atN (bxN bx j).s k).snd)])) else .un, if b 24 = true then .dead else .arr 70 2 (mails v), .un, .un, .un, .un, .un, .arr 68 4 (bxs U), .un], 0⟩) rfl ?_ ?_
    ·skip
     (repeat refine Di ?_ (fun b hwW hbB hcC => ?_)); (exact trivial)
     ·exact Ds28 hbB (hwW.at 0 rfl) (hwW.at 1 rfl) (hwW.at 2 rfl) (hwW.at 3 rfl) (hwW.at 4 rfl) (hwW.at 5 rfl) (hwW.at 6 rfl) (hwW.at 7 rfl) (hwW.at 8 rfl) (hwW.at 9 rfl) (hwW.at 10 rfl) (hwW.at 11 rfl) (hwW.at 12 rfl) (hwW.at 13 rfl) (hwW.at 14 rfl) (hwW.at 15 rfl) (hwW.at 16 rfl) (hwW.at 17 rfl) (hwW.at 18 rfl) (hwW.at 19 rfl) (hwW.at 20 rfl) (hwW.at 21 rfl) (hwW.at 22 rfl) (hwW.at 23 rfl) (hwW.at 24 rfl) (hwW.at 25 rfl) @hg @hgm
     ·exact Ds28 hbB (hwW.at 0 rfl) (hwW.at 1 rfl) (hwW.at 2 rfl) (hwW.at 3 rfl) (hwW.at 4 rfl) (hwW.at 5 rfl) (hwW.at 6 rfl) (hwW.at 7 rfl) (hwW.at 8 rfl) (hwW.at 9 rfl) (hwW.at 10 rfl) (hwW.at 11 rfl) (hwW.at 12 rfl) (hwW.at 13 rfl) (hwW.at 14 rfl) (hwW.at 15 rfl) (hwW.at 16 rfl) (hwW.at 17 rfl) (hwW.at 18 rfl) (hwW.at 19 rfl) (hwW.at 20 rfl) (hwW.at 21 rfl) (hwW.at 22 rfl) (hwW.at 23 rfl) (hwW.at 24 rfl) (hcC.l hbB 26 rfl) @hg @hgm
     ·exact Ds6 hbB (hwW.at 1 rfl) (hwW.at 23 rfl) (hcC.l hbB 25 rfl) (hcC.l hbB 26 rfl) @hg @hgm
     ·exact Ds6 hbB (hwW.at 22 rfl) (hcC.l hbB 24 rfl) (hcC.l hbB 25 rfl) (hcC.l hbB 26 rfl) @hg @hgm
     ·have l23 := hcC.l hbB 23 rfl; exact Ds8 hbB (hwW.at 11 rfl) (hwW.at 21 rfl) l23 (hcC.l l23 24 rfl) (hcC.l hbB 25 rfl) (hcC.l hbB 26 rfl) @hg @hgm
     ·have l22 := hcC.l hbB 22 rfl; have l23 := hcC.l l22 23 rfl; exact Ds8 hbB (hwW.at 20 rfl) l22 l23 (hcC.l l23 24 rfl) (hcC.l hbB 25 rfl) (hcC.l hbB 26 rfl) @hg @hgm
     ·have l21 := hcC.l hbB 21 rfl; have l22 := hcC.l l21 22 rfl; have l23 := hcC.l l22 23 rfl; exact Ds8 hbB (hwW.at 19 rfl) l21 l23 (hcC.l l23 24 rfl) (hcC.l hbB 25 rfl) (hcC.l hbB 26 rfl) @hg @hgm
     ·have l20 := hcC.l hbB 20 rfl; have l21 := hcC.l l20 21 rfl; have l22 := hcC.l l21 22 rfl; have l23 := hcC.l l22 23 rfl; exact Ds9 hbB (hwW.at 17 rfl) (hwW.at 18 rfl) l20 l23 (hcC.l l23 24 rfl) (hcC.l hbB 25 rfl) (hcC.l hbB 26 rfl) @hg @hgm
     ·have l19 := hcC.l hbB 19 rfl; have l20 := hcC.l l19 20 rfl; have l21 := hcC.l l20 21 rfl; have l22 := hcC.l l21 22 rfl; have l23 := hcC.l l22 23 rfl; exact Ds7 hbB l19 l23 (hcC.l l23 24 rfl) (hcC.l hbB 25 rfl) (hcC.l hbB 26 rfl) @hg @hgm
     ·have l19 := hcC.l hbB 19 rfl; have l20 := hcC.l l19 20 rfl; have l21 := hcC.l l20 21 rfl; have l22 := hcC.l l21 22 rfl; have l23 := hcC.l l22 23 rfl; exact Ds8 hbB (hwW.at 16 rfl) l19 l23 (hcC.l l23 24 rfl) (hcC.l hbB 25 rfl) (hcC.l hbB 26 rfl) @hg @hgm
     ·have l17 := hcC.l hbB 17 rfl; have l19 := hcC.l l17 19 rfl; have l20 := hcC.l l19 20 rfl; have l21 := hcC.l l20 21 rfl; have l22 := hcC.l l21 22 rfl; have l23 := hcC.l l22 23 rfl; exact Ds8 hbB (hwW.at 15 rfl) l17 l23 (hcC.l l23 24 rfl) (hcC.l hbB 25 rfl) (hcC.l hbB 26 rfl) @hg @hgm
     ·have l16 := hcC.l hbB 16 rfl; have l17 := hcC.l l16 17 rfl; have l19 := hcC.l l17 19 rfl; have l20 := hcC.l l19 20 rfl; have l21 := hcC.l l20 21 rfl; have l22 := hcC.l l21 22 rfl; have l23 := hcC.l l22 23 rfl; exact Ds9 hbB (hwW.at 13 rfl) (hwW.at 14 rfl) l16 l23 (hcC.l l23 24 rfl) (hcC.l hbB 25 rfl) (hcC.l hbB 26 rfl) @hg @hgm
     ·have l15 := hcC.l hbB 15 rfl; have l16 := hcC.l l15 16 rfl; have l17 := hcC.l l16 17 rfl; have l19 := hcC.l l17 19 rfl; have l20 := hcC.l l19 20 rfl; have l21 := hcC.l l20 21 rfl; have l22 := hcC.l l21 22 rfl; have l23 := hcC.l l22 23 rfl; exact Ds7 hbB l15 l23 (hcC.l l23 24 rfl) (hcC.l hbB 25 rfl) (hcC.l hbB 26 rfl) @hg @hgm
     ·have l15 := hcC.l hbB 15 rfl; have l16 := hcC.l l15 16 rfl; have l17 := hcC.l l16 17 rfl; have l19 := hcC.l l17 19 rfl; have l20 := hcC.l l19 20 rfl; have l21 := hcC.l l20 21 rfl; have l22 := hcC.l l21 22 rfl; have l23 := hcC.l l22 23 rfl; exact Ds8 hbB (hwW.at 12 rfl) l15 l23 (hcC.l l23 24 rfl) (hcC.l hbB 25 rfl) (hcC.l hbB 26 rfl) @hg @hgm
     ·have l13 := hcC.l hbB 13 rfl; have l15 := hcC.l l13 15 rfl; have l16 := hcC.l l15 16 rfl; have l17 := hcC.l l16 17 rfl; have l19 := hcC.l l17 19 rfl; have l20 := hcC.l l19 20 rfl; have l21 := hcC.l l20 21 rfl; have l22 := hcC.l l21 22 rfl; have l23 := hcC.l l22 23 rfl; exact Ds7 hbB l13 l23 (hcC.l l23 24 rfl) (hcC.l hbB 25 rfl) (hcC.l hbB 26 rfl) @hg @hgm
     ·have l22 := hcC.l hbB 22 rfl; have l23 := hcC.l l22 23 rfl; exact Ds8 hbB (hwW.at 10 rfl) l22 l23 (hcC.l l23 24 rfl) (hcC.l hbB 25 rfl) (hcC.l hbB 26 rfl) @hg @hgm
     ·have l11 := hcC.l hbB 11 rfl; have l22 := hcC.l l11 22 rfl; have l23 := hcC.l l22 23 rfl; exact Ds8 hbB (hwW.at 9 rfl) l11 l23 (hcC.l l23 24 rfl) (hcC.l hbB 25 rfl) (hcC.l hbB 26 rfl) @hg @hgm
     ·have l10 := hcC.l hbB 10 rfl; have l11 := hcC.l l10 11 rfl; have l22 := hcC.l l11 22 rfl; have l23 := hcC.l l22 23 rfl; exact Ds9 hbB (hwW.at 7 rfl) (hwW.at 8 rfl) l10 l23 (hcC.l l23 24 rfl) (hcC.l hbB 25 rfl) (hcC.l hbB 26 rfl) @hg @hgm
     ·have l9 := hcC.l hbB 9 rfl; have l10 := hcC.l l9 10 rfl; have l11 := hcC.l l10 11 rfl; have l22 := hcC.l l11 22 rfl; have l23 := hcC.l l22 23 rfl; exact Ds7 hbB l9 l23 (hcC.l l23 24 rfl) (hcC.l hbB 25 rfl) (hcC.l hbB 26 rfl) @hg @hgm
     ·have l9 := hcC.l hbB 9 rfl; have l10 := hcC.l l9 10 rfl; have l11 := hcC.l l10 11 rfl; have l22 := hcC.l l11 22 rfl; have l23 := hcC.l l22 23 rfl; exact Ds8 hbB (hwW.at 6 rfl) l9 l23 (hcC.l l23 24 rfl) (hcC.l hbB 25 rfl) (hcC.l hbB 26 rfl) @hg @hgm
     ·have l7 := hcC.l hbB 7 rfl; have l9 := hcC.l l7 9 rfl; have l10 := hcC.l l9 10 rfl; have l11 := hcC.l l10 11 rfl; have l22 := hcC.l l11 22 rfl; have l23 := hcC.l l22 23 rfl; exact Ds8 hbB (hwW.at 5 rfl) l7 l23 (hcC.l l23 24 rfl) (hcC.l hbB 25 rfl) (hcC.l hbB 26 rfl) @hg @hgm
     ·have l6 := hcC.l hbB 6 rfl; have l7 := hcC.l l6 7 rfl; have l9 := hcC.l l7 9 rfl; have l10 := hcC.l l9 10 rfl; have l11 := hcC.l l10 11 rfl; have l22 := hcC.l l11 22 rfl; have l23 := hcC.l l22 23 rfl; exact Ds9 hbB (hwW.at 3 rfl) (hwW.at 4 rfl) l6 l23 (hcC.l l23 24 rfl) (hcC.l hbB 25 rfl) (hcC.l hbB 26 rfl) @hg @hgm
     ·have l5 := hcC.l hbB 5 rfl; have l6 := hcC.l l5 6 rfl; have l7 := hcC.l l6 7 rfl; have l9 := hcC.l l7 9 rfl; have l10 := hcC.l l9 10 rfl; have l11 := hcC.l l10 11 rfl; have l22 := hcC.l l11 22 rfl; have l23 := hcC.l l22 23 rfl; exact Ds7 hbB l5 l23 (hcC.l l23 24 rfl) (hcC.l hbB 25 rfl) (hcC.l hbB 26 rfl) @hg @hgm
     ·have l5 := hcC.l hbB 5 rfl; have l6 := hcC.l l5 6 rfl; have l7 := hcC.l l6 7 rfl; have l9 := hcC.l l7 9 rfl; have l10 := hcC.l l9 10 rfl; have l11 := hcC.l l10 11 rfl; have l22 := hcC.l l11 22 rfl; have l23 := hcC.l l22 23 rfl; exact Ds8 hbB (hwW.at 2 rfl) l5 l23 (hcC.l l23 24 rfl) (hcC.l hbB 25 rfl) (hcC.l hbB 26 rfl) @hg @hgm
     ·have l3 := hcC.l hbB 3 rfl; have l5 := hcC.l l3 5 rfl; have l6 := hcC.l l5 6 rfl; have l7 := hcC.l l6 7 rfl; have l9 := hcC.l l7 9 rfl; have l10 := hcC.l l9 10 rfl; have l11 := hcC.l l10 11 rfl; have l22 := hcC.l l11 22 rfl; have l23 := hcC.l l22 23 rfl; exact Ds7 hbB l3 l23 (hcC.l l23 24 rfl) (hcC.l hbB 25 rfl) (hcC.l hbB 26 rfl) @hg @hgm
     ·exact Ds6 hbB (hwW.at 0 rfl) (hcC.l hbB 24 rfl) (hcC.l hbB 25 rfl) (hcC.l hbB 26 rfl) @hg @hgm
     ·have l1 := hcC.l hbB 1 rfl; exact Ds6 hbB l1 (hcC.l l1 24 rfl) (hcC.l hbB 25 rfl) (hcC.l hbB 26 rfl) @hg @hgm
    simp only [List.length_cons, List.length_nil, Nat.reduceAdd, Nat.reduceLT, decide_true, if_true]
    refine Dd1 @hwk ?_
    (refine ⟨(fun (k : Nat) (v : List (Int × Int)) => (bxN bx j).s.length - k) (k + 1) ( v ++ [((atN (bxN bx j).s k).1, (atN (bxN bx j).s k).2)]), _, ?hm, ?hI, (Sub.trans (Sub_swap 96 95 (by first | (simp; done) | (simp [swap]; done)) (by first | (simp; done) | (simp [swap]; done)) (Nat.le_of_ble_eq_true rfl) (Nat.le_of_ble_eq_true rfl)) (Sub.trans (Sub_forget [94, 95] rfl) (Sub_bl 158456325027375753699660922641)))⟩; (case hm => (first | omega | (simp only; omega) | (simp only [List.length_cons]; omega))); (case hI => (simp only [go_sem, forget, swap, scrL, scr, scrH, scrO, renL, ren, renO, sw, blankN, Nat.reduceMod, Nat.reduceDiv, cond_true, cond_false, List.contains_cons, List.contains_nil, Nat.reduceBEq, Bool.or_false, Bool.false_or, Bool.or_true, Bool.true_or, Bool.false_eq_true, if_true, if_false] <;> exact ⟨k + 1, v ++ [((atN (bxN bx j).s k).1, (atN (bxN bx j).s k).2)], by omega, by rw [hv, List.take_succ_eq_append_getElem hkl, ← hga]; rfl, rfl, rfl⟩)))
   ·have hvs : v = (bxN bx j).s := by
     have hi2 : k = (bxN bx j).s.length := by have : ¬ (k < (bxN bx j).s.length) := by simpa using hc
                                              omega
     rw [hv, hi2, List.take_length]
    rw [hvs]
    refine Dd1 @hw ?_
    (refine ⟨(fun (j : Nat) (U : List Bx) => bx.length - j) (j + 1) ( U ++ [⟨(bxN bx j).r, (bxN bx j).m, (bxN bx j).s, (bxN bx j).w⟩]), _, ?hm, ?hI, (Sub.trans (Sub_swap 102 101 (by first | (simp; done) | (simp [swap]; done)) (by first | (simp; done) | (simp [swap]; done)) (Nat.le_of_ble_eq_true rfl) (Nat.le_of_ble_eq_true rfl)) (Sub.trans (Sub_forget [100, 101, 6, 96] rfl) (Sub_bl 10141204801825835211973625642961)))⟩; (case hm => (first | omega | (simp only; omega) | (simp only [List.length_cons]; omega))); (case hI => (simp only [go_sem, forget, swap, scrL, scr, scrH, scrO, renL, ren, renO, sw, blankN, Nat.reduceMod, Nat.reduceDiv, cond_true, cond_false, List.contains_cons, List.contains_nil, Nat.reduceBEq, Bool.or_false, Bool.false_or, Bool.or_true, Bool.true_or, Bool.false_eq_true, if_true, if_false] <;> exact ⟨j + 1, U ++ [⟨(bxN bx j).r, (bxN bx j).m, (bxN bx j).s, (bxN bx j).w⟩], by omega, by rw [hU, List.take_succ_eq_append_getElem hlt, ← hat0], rfl, rfl⟩)))
  ·have hUs : U = bx := by
    have hi2 : j = bx.length := by have : ¬ (j < bx.length) := by simpa using hc
                                   omega
    rw [hU, hi2, List.take_length]
   rw [hUs]
   refine Dd0 ?_
   (refine ⟨by simp, ?_⟩; simp only [go_sem, Try.results17])
theorem made_spec (sm : List (Int × List Int)) (bx : List Bx) (h1 : sm.length ≤ 1000000) (h2 : bx.length ≤ 1000000) (hS : ∀ x ∈ sm, x.2.length ≤ 1000000) (hb : ∀ x ∈ bx, x.s.length ≤ 1000000 ∧ x.m.length ≤ 1000000 ∧ x.w.length ≤ 1000000) : Ret Try.prog 10 [.agg [.sl false (sms sm), .sl false (bxs bx)]] (.agg [.sl false (sms sm), .sl false (bxs bx)]) := by
 have hr2 := sms_2 sm
 have hr4 := bxs_4 bx
 refine Ret_of_body Try.func10 (by kernel_rfl) rfl ?_; rw [Try.ntmps10]
 refine Dd0 ?_
 refine TW_sub (Sub_growIn (b := 3) (f := 0) (id := 35) 74 2 rfl rfl rfl (Nat.zero_le _)) ?_
 simp only [go_sem]
 refine TW_sub (Sub_bl 68719476481) ?_
 refine TW_loop (fun fuel st => ∃ (i : Nat) (u : List (Int × List Int)), (i ≤ sm.length) ∧ (u = sm.take i) ∧  fuel = sm.length - i ∧ st = ⟨[.junk, .ptr 1 0, .ptr 2 0, .ptr 3 0, .int .i64 i, .junk, .junk, .junk, .junk, .junk, .junk, .junk, .junk, .junk, .junk, .junk, .junk, .junk, .junk, .junk, .junk, .junk, .junk, .junk, .junk, .junk, .junk, .junk, .junk, .junk, .junk, .junk, .junk, .junk, .junk, .junk, .junk, .junk, .junk, .junk, .junk, .junk, .junk, .junk, .junk, .junk, .junk, .junk, .junk, .junk, .junk, .junk, .junk, .junk, .junk, .junk, .junk, .junk, .junk, .junk, .junk, .junk, .junk, .junk, .junk, .junk, .junk, .junk, .junk, .junk, .junk, .junk, .junk, .junk, .junk, .junk, .junk, .junk, .junk, .junk, .junk, .junk, .junk, .junk, .junk, .junk, .junk, .junk, .junk, .junk, .junk, .junk, .junk, .junk, .junk, .junk, .junk, .junk, .junk, .junk, .junk, .junk, .junk, .junk, .junk, .junk, .junk, .junk, .junk, .junk], [.un, .box [.sl false (sms sm), .sl false (bxs bx)], .box [.nils, .nils], .box [.bsl 35, .nils], .un, .un, .un, .un, .un, .un, .un, .un, .un, .un, .un, .un, .un, .un, .un, .un, .un, .un, .un, .un, .un, .un, .un, .un, .un, .un, .un, .un, .un, .un, .un, .arr 74 2 (sms u), .un, .un, .un, .un, .un, .un, .un, .un, .un, .un, .un, .un, .un, .un, .un, .un, .un, .un, .un, .un, .un, .un, .un, .un, .un, .un, .un, .un, .un, .un, .un, .un, .un, .un, .un, .un, .un, .un, .un, .un, .un, .un, .un, .un, .un, .un, .un, .un, .un, .un, .un, .un, .un, .un, .un, .un, .un, .un, .un, .un, .un, .un, .un, .un, .un, .un, .un, .un, .un, .un, .un, .un, .un, .un], 0⟩) (n := _) ⟨0, [], by first | omega | (simp; done) | (simp; omega) | assumption, by first | omega | (simp; done) | (simp; omega) | assumption, rfl, rfl⟩ ?_
 rintro fuel st ⟨i, u, hi, hu, rfl, rfl⟩
 refine Dd0 ?_
 refine TW_cond rfl (fun hc => ?_) (fun hc => ?_)
 ·have hlt : i < sm.length := by simpa using hc
  have hg := sms_get sm i hlt
  have hu2 := sms_2 u
  have hw := wrap_i64 (n := (i : Int) + 1) (by omega) (by omega)
  have hul : u.length ≤ 1000000 := by rw [hu, List.length_take]; omega
  have hat0 := smN_at hlt
  have hs0 := hS _ (List.getElem_mem hlt)
  rw [← hat0] at hs0
  refine Dd0 ?_
  refine TW_sub (Sub_bl 257) ?_
  refine TW_open mixed (by kernel_rfl) (fun b => ⟨[.junk, .ptr 1 0, .ptr 2 0, .ptr 3 0, .int .i64 (↑i : Int), .junk, .junk, .junk, .junk, .int .i64 (↑i : Int), .ptr 1 0, .sl false (sms sm), .int .i64 (↑sm.length : Int), .bool (decide ((↑i : Int) < (↑sm.length : Int))), .junk, .junk, if b 0 = true then .ptr 3 0 else .junk, if b 1 = true then .bsl 35 else .junk, if b 2 = true then .ptr 1 0 else .junk, if b 3 = true then .sl false (sms sm) else .junk, if b 4 = true then .int .i64 (↑i : Int) else .junk, if b 5 = true then .cptr [.int .i64 (smN sm i).fst, .sl false (ints (smN sm i).snd)] else .junk, if b 6 = true then .cptr [.int .i64 (smN sm i).fst, .sl false (ints (smN sm i).snd)] else .junk, if b 7 = true then .int .i64 (smN sm i).fst else .junk, if b 8 = true then .bsl 24 else .junk, if b 9 = true then .ptr 1 0 else .junk, if b 10 = true then .sl false (sms sm) else .junk, if b 11 = true then .int .i64 (↑i : Int) else .junk, if b 12 = true then .cptr [.int .i64 (smN sm i).fst, .sl false (ints (smN sm i).snd)] else .junk, if b 13 = true then .cptr [.sl false (ints (smN sm i).snd)] else .junk, if b 14 = true then .sl false (ints (smN sm i).snd) else .junk, if b 15 = true then .bsl 31 else .junk, if b 16 = true then .agg [.int .i64 (smN sm i).fst, .bsl 31] else .junk, if b 17 = true then .bsl 33 else .junk, if b 18 = true then .bsl 34 else .junk, if b 19 = true then .ptr 3 0 else .junk, .junk, .junk, .junk, .junk, .junk, .junk, .junk, .junk, .junk, .junk, .junk, .junk, .junk, .junk, .junk, .junk, .junk, .junk, .junk, .junk, .junk, .junk, .junk, .junk, .junk, .junk, .junk, .junk, .junk, .junk, .junk, .junk, .junk, .junk, .junk, .junk, .junk, .junk, .junk, .junk, .junk, .junk, .junk, .junk, .junk, .junk, .junk, .junk, .junk, .junk, .junk, .junk, .junk, .junk, .junk, .junk, .junk, .junk, .junk, .junk, .junk, .junk, .junk, .junk, .junk, .junk, .junk, .junk, .junk, .junk, .junk, .junk, .junk, .junk], [.un, .box [.sl false (sms sm), .sl false (bxs bx)], .box [.nils, .nils], if b 20 = true then .box [.bsl 34, .nils] else .box [.bsl 35, .nils], .un, .un, .un, .un, .un, .un, .un, .un, .un, .un, .un, .un, .un, .un, .un, .un, .un, .un, .un, .un, if b 15 = true then .dead else if b 8 = true then .arr 3 1 [] else .un, .un, .un, .un, .un, .un, .un, if b 17 = true then .imm (ints (smN sm i).snd) else if b 15 = true then .arr 3 1 (ints (smN sm i).snd) else .un, .un, if b 17 = true then .arr 74 2 [[.int .i64 (smN sm i).fst, .sl false (ints (smN sm i).snd)]] else .un, if b 18 = true then .arr 74 2 (sms (u ++ [((smN sm i).fst, (smN sm i).snd)])) else .un, if b 18 = true then .dead else .arr 74 2 (sms u), .un, .un, .un, .un, .un, .un, .un, .un, .un, .un, .un, .un, .un, .un, .un, .un, .un, .un, .un, .un, .un, .un, .un, .un, .un, .un, .un, .un, .un, .un, .un, .un, .un, .un, .un, .un, .un, .un, .un, .un, .un, .un, .un, .un, .un, .un, .un, .un, .un, .un, .un, .un, .un, .un, .un, .un, .un, .un, .un, .un, .un, .un, .un, .un, .un, .un, .un, .un, .un, .un, .un, .un, .un, .un], 0⟩) rfl ?_ ?_
  ·skip
   (repeat refine Di ?_ (fun b hwW hbB hcC => ?_)); (exact trivial)
   ·exact Ds21 hbB (hwW.at 0 rfl) (hwW.at 1 rfl) (hwW.at 2 rfl) (hwW.at 3 rfl) (hwW.at 4 rfl) (hwW.at 5 rfl) (hwW.at 6 rfl) (hwW.at 7 rfl) (hwW.at 8 rfl) (hwW.at 9 rfl) (hwW.at 10 rfl) (hwW.at 11 rfl) (hwW.at 12 rfl) (hwW.at 13 rfl) (hwW.at 14 rfl) (hwW.at 15 rfl) (hwW.at 16 rfl) (hwW.at 17 rfl) (hwW.at 18 rfl) (hwW.at 19 rfl) @hg
   ·exact Ds21 hbB (hwW.at 0 rfl) (hwW.at 1 rfl) (hwW.at 2 rfl) (hwW.at 3 rfl) (hwW.at 4 rfl) (hwW.at 5 rfl) (hwW.at 6 rfl) (hwW.at 7 rfl) (hwW.at 8 rfl) (hwW.at 9 rfl) (hwW.at 10 rfl) (hwW.at 11 rfl) (hwW.at 12 rfl) (hwW.at 13 rfl) (hwW.at 14 rfl) (hwW.at 15 rfl) (hwW.at 16 rfl) (hwW.at 17 rfl) (hwW.at 18 rfl) (hcC.l hbB 20 rfl) @hg
   ·have w15 := hwW.at 15 rfl; exact Ds7 hbB (hwW.at 1 rfl) ((hcC 15 _ rfl w15).at 8 rfl) w15 (hwW.at 17 rfl) (hcC.l hbB 19 rfl) (hcC.l hbB 20 rfl) @hg
   ·have w16 := hwW.at 16 rfl; have w15 := (hcC 16 _ rfl w16).at 15 rfl; exact Ds7 hbB ((hcC 15 _ rfl w15).at 8 rfl) w15 w16 (hcC.l hbB 18 rfl) (hcC.l hbB 19 rfl) (hcC.l hbB 20 rfl) @hg
   ·have w15 := hwW.at 15 rfl; have l17 := hcC.l hbB 17 rfl; exact Ds8 hbB (hwW.at 7 rfl) ((hcC 15 _ rfl w15).at 8 rfl) w15 l17 (hcC.l l17 18 rfl) (hcC.l hbB 19 rfl) (hcC.l hbB 20 rfl) @hg
   ·have l16 := hcC.l hbB 16 rfl; exact Ds8 hbB (hwW.at 8 rfl) (hwW.at 14 rfl) l16 (hcC.l l16 17 rfl) (hcC.l hbB 18 rfl) (hcC.l hbB 19 rfl) (hcC.l hbB 20 rfl) @hg
   ·have l15 := hcC.l hbB 15 rfl; have l16 := hcC.l l15 16 rfl; exact Ds7 hbB (hwW.at 13 rfl) l15 (hcC.l l16 17 rfl) (hcC.l l15 18 rfl) (hcC.l hbB 19 rfl) (hcC.l hbB 20 rfl) @hg
   ·have l14 := hcC.l hbB 14 rfl; have l15 := hcC.l l14 15 rfl; have l16 := hcC.l l15 16 rfl; exact Ds8 hbB (hwW.at 12 rfl) l14 l15 (hcC.l l16 17 rfl) (hcC.l l15 18 rfl) (hcC.l hbB 19 rfl) (hcC.l hbB 20 rfl) @hg
   ·have l13 := hcC.l hbB 13 rfl; have l14 := hcC.l l13 14 rfl; have l15 := hcC.l l14 15 rfl; have l16 := hcC.l l15 16 rfl; exact Ds9 hbB (hwW.at 10 rfl) (hwW.at 11 rfl) l13 l15 (hcC.l l16 17 rfl) (hcC.l l15 18 rfl) (hcC.l hbB 19 rfl) (hcC.l hbB 20 rfl) @hg
   ·have l12 := hcC.l hbB 12 rfl; have l13 := hcC.l l12 13 rfl; have l14 := hcC.l l13 14 rfl; have l15 := hcC.l l14 15 rfl; have l16 := hcC.l l15 16 rfl; exact Ds7 hbB l12 l15 (hcC.l l16 17 rfl) (hcC.l l15 18 rfl) (hcC.l hbB 19 rfl) (hcC.l hbB 20 rfl) @hg
   ·have l12 := hcC.l hbB 12 rfl; have l13 := hcC.l l12 13 rfl; have l14 := hcC.l l13 14 rfl; have l15 := hcC.l l14 15 rfl; have l16 := hcC.l l15 16 rfl; exact Ds8 hbB (hwW.at 9 rfl) l12 l15 (hcC.l l16 17 rfl) (hcC.l l15 18 rfl) (hcC.l hbB 19 rfl) (hcC.l hbB 20 rfl) @hg
   ·have l10 := hcC.l hbB 10 rfl; have l12 := hcC.l l10 12 rfl; have l13 := hcC.l l12 13 rfl; have l14 := hcC.l l13 14 rfl; have l15 := hcC.l l14 15 rfl; have l16 := hcC.l l15 16 rfl; exact Ds7 hbB l10 l15 (hcC.l l16 17 rfl) (hcC.l l15 18 rfl) (hcC.l hbB 19 rfl) (hcC.l hbB 20 rfl) @hg
   ·have l15 := hcC.l hbB 15 rfl; have l16 := hcC.l l15 16 rfl; exact Ds6 hbB l15 (hcC.l l16 17 rfl) (hcC.l l15 18 rfl) (hcC.l hbB 19 rfl) (hcC.l hbB 20 rfl) @hg
   ·have l16 := hcC.l hbB 16 rfl; have l17 := hcC.l l16 17 rfl; exact Ds7 hbB (hwW.at 6 rfl) l16 l17 (hcC.l l17 18 rfl) (hcC.l hbB 19 rfl) (hcC.l hbB 20 rfl) @hg
   ·have l7 := hcC.l hbB 7 rfl; have l16 := hcC.l l7 16 rfl; have l17 := hcC.l l16 17 rfl; exact Ds7 hbB (hwW.at 5 rfl) l7 l17 (hcC.l l17 18 rfl) (hcC.l hbB 19 rfl) (hcC.l hbB 20 rfl) @hg
   ·have l6 := hcC.l hbB 6 rfl; have l7 := hcC.l l6 7 rfl; have l16 := hcC.l l7 16 rfl; have l17 := hcC.l l16 17 rfl; exact Ds8 hbB (hwW.at 3 rfl) (hwW.at 4 rfl) l6 l17 (hcC.l l17 18 rfl) (hcC.l hbB 19 rfl) (hcC.l hbB 20 rfl) @hg
   ·have l5 := hcC.l hbB 5 rfl; have l6 := hcC.l l5 6 rfl; have l7 := hcC.l l6 7 rfl; have l16 := hcC.l l7 16 rfl; have l17 := hcC.l l16 17 rfl; exact Ds6 hbB l5 l17 (hcC.l l17 18 rfl) (hcC.l hbB 19 rfl) (hcC.l hbB 20 rfl) @hg
   ·have l5 := hcC.l hbB 5 rfl; have l6 := hcC.l l5 6 rfl; have l7 := hcC.l l6 7 rfl; have l16 := hcC.l l7 16 rfl; have l17 := hcC.l l16 17 rfl; exact Ds7 hbB (hwW.at 2 rfl) l5 l17 (hcC.l l17 18 rfl) (hcC.l hbB 19 rfl) (hcC.l hbB 20 rfl) @hg
   ·have l3 := hcC.l hbB 3 rfl; have l5 := hcC.l l3 5 rfl; have l6 := hcC.l l5 6 rfl; have l7 := hcC.l l6 7 rfl; have l16 := hcC.l l7 16 rfl; have l17 := hcC.l l16 17 rfl; exact Ds6 hbB l3 l17 (hcC.l l17 18 rfl) (hcC.l hbB 19 rfl) (hcC.l hbB 20 rfl) @hg
   ·exact Ds5 hbB (hwW.at 0 rfl) (hcC.l hbB 18 rfl) (hcC.l hbB 19 rfl) (hcC.l hbB 20 rfl) @hg
   ·have l1 := hcC.l hbB 1 rfl; exact Ds5 hbB l1 (hcC.l l1 18 rfl) (hcC.l hbB 19 rfl) (hcC.l hbB 20 rfl) @hg
  simp only [List.length_cons, List.length_nil, Nat.reduceAdd, Nat.reduceLT, decide_true, if_true]
  refine Dd1 @hw ?_
  (refine ⟨(fun (i : Nat) (u : List (Int × List Int)) => sm.length - i) (i + 1) ( u ++ [((smN sm i).1, (smN sm i).2)]), _, ?hm, ?hI, (Sub.trans (Sub_swap 35 34 (by first | (simp; done) | (simp [swap]; done)) (by first | (simp; done) | (simp [swap]; done)) (Nat.le_of_ble_eq_true rfl) (Nat.le_of_ble_eq_true rfl)) (Sub.trans (Sub_forget [24, 31, 33, 34] rfl) (Sub_bl 68719476481)))⟩; (case hm => (first | omega | (simp only; omega) | (simp only [List.length_cons]; omega))); (case hI => (simp only [go_sem, forget, swap, scrL, scr, scrH, scrO, renL, ren, renO, sw, blankN, Nat.reduceMod, Nat.reduceDiv, cond_true, cond_false, List.contains_cons, List.contains_nil, Nat.reduceBEq, Bool.or_false, Bool.false_or, Bool.or_true, Bool.true_or, Bool.false_eq_true, if_true, if_false] <;> exact ⟨i + 1, u ++ [((smN sm i).1, (smN sm i).2)], by omega, by rw [hu, hat0, List.take_succ_eq_append_getElem hlt], rfl, rfl⟩)))
 ·have hus : u = sm := by
   have hi2 : i = sm.length := by have : ¬ (i < sm.length) := by simpa using hc
                                  omega
   rw [hu, hi2, List.take_length]
  rw [hus]
  clear hus hu hi hc
  refine Dd0 ?_
  refine TW_sub (Sub_growIn (b := 3) (f := 1) (id := 108) 77 4 rfl rfl rfl (Nat.zero_le _)) ?_
  simp only [go_sem]
  refine TW_sub (Sub_bl 649037107316853453566312041152465) ?_
  refine TW_loop (fun fuel st => ∃ (j : Nat) (U : List Bx), (j ≤ bx.length) ∧ (U = bx.take j) ∧  fuel = bx.length - j ∧ st = ⟨[.junk, .ptr 1 0, .ptr 2 0, .ptr 3 0, .junk, .int .i64 j, .junk, .junk, .junk, .junk, .junk, .junk, .junk, .junk, .junk, .junk, .junk, .junk, .junk, .junk, .junk, .junk, .junk, .junk, .junk, .junk, .junk, .junk, .junk, .junk, .junk, .junk, .junk, .junk, .junk, .junk, .junk, .junk, .junk, .junk, .junk, .junk, .junk, .junk, .junk, .junk, .junk, .junk, .junk, .junk, .junk, .junk, .junk, .junk, .junk, .junk, .junk, .junk, .junk, .junk, .junk, .junk, .junk, .junk, .junk, .junk, .junk, .junk, .junk, .junk, .junk, .junk, .junk, .junk, .junk, .junk, .junk, .junk, .junk, .junk, .junk, .junk, .junk, .junk, .junk, .junk, .junk, .junk, .junk, .junk, .junk, .junk, .junk, .junk, .junk, .junk, .junk, .junk, .junk, .junk, .junk, .junk, .junk, .junk, .junk, .junk, .junk, .junk, .junk, .junk], [.un, .box [.sl false (sms sm), .sl false (bxs bx)], .box [.nils, .nils], .box [.bsl 35, .bsl 108], .un, .un, .un, .un, .un, .un, .un, .un, .un, .un, .un, .un, .un, .un, .un, .un, .un, .un, .un, .un, .un, .un, .un, .un, .un, .un, .un, .un, .un, .un, .un, .arr 74 2 (sms sm), .un, .un, .un, .un, .un, .un, .un, .un, .un, .un, .un, .un, .un, .un, .un, .un, .un, .un, .un, .un, .un, .un, .un, .un, .un, .un, .un, .un, .un, .un, .un, .un, .un, .un, .un, .un, .un, .un, .un, .un, .un, .un, .un, .un, .un, .un, .un, .un, .un, .un, .un, .un, .un, .un, .un, .un, .un, .un, .un, .un, .un, .un, .un, .un, .un, .un, .un, .un, .un, .un, .un, .un, .arr 77 4 (bxs U), .un], 0⟩) (n := _) ⟨0, [], by first | omega | (simp; done) | (simp; omega) | assumption, by first | omega | (simp; done) | (simp; omega) | assumption, rfl, rfl⟩ ?_
  rintro fuel st ⟨j, U, hj, hU, rfl, rfl⟩
  refine Dd0 ?_
  refine TW_cond rfl (fun hc => ?_) (fun hc => ?_)
  ·have hlt : j < bx.length := by simpa using hc
   have hg := bxs_get bx j hlt
   have hU2 := bxs_4 U
   have hw := wrap_i64 (n := (j : Int) + 1) (by omega) (by omega)
   have hUl : U.length ≤ 1000000 := by rw [hU, List.length_take]; omega
   have hat0 := bxN_at hlt
   have hs0 := hb _ (List.getElem_mem hlt)
   rw [← hat0] at hs0
   obtain ⟨hs1, hs2, hs3⟩ := hs0
   refine Dd0 ?_
   refine TW_sub (Sub_bl 68719476497) ?_
   refine TW_open mixed (by kernel_rfl) (fun b => ⟨[.junk, .ptr 1 0, .ptr 2 0, .ptr 3 0, .junk, .int .i64 (↑j : Int), if b 23 = true then .ptr 6 0 else .junk, .junk, .junk, .junk, .junk, .junk, .junk, .junk, .junk, .junk, .junk, .junk, .junk, .junk, .junk, .junk, .junk, .junk, .junk, .junk, .junk, .junk, .junk, .junk, .junk, .junk, .junk, .junk, .junk, .junk, .int .i64 (↑j : Int), .ptr 1 1, .sl false (bxs bx), .int .i64 (↑bx.length : Int), .bool (decide ((↑j : Int) < (↑bx.length : Int))), .junk, .junk, if b 0 = true then .ptr 1 1 else .junk, if b 1 = true then .sl false (bxs bx) else .junk, if b 2 = true then .int .i64 (↑j : Int) else .junk, if b 3 = true then .cptr [.int .i64 (bxN bx j).r, .sl false (ints (bxN bx j).m), .sl false (mails (bxN bx j).s), .sl false (ints (bxN bx j).w)] else .junk, if b 4 = true then .cptr [.int .i64 (bxN bx j).r, .sl false (ints (bxN bx j).m), .sl false (mails (bxN bx j).s), .sl false (ints (bxN bx j).w)] else .junk, if b 5 = true then .int .i64 (bxN bx j).r else .junk, if b 6 = true then .bsl 49 else .junk, if b 7 = true then .ptr 1 1 else .junk, if b 8 = true then .sl false (bxs bx) else .junk, if b 9 = true then .int .i64 (↑j : Int) else .junk, if b 10 = true then .cptr [.int .i64 (bxN bx j).r, .sl false (ints (bxN bx j).m), .sl false (mails (bxN bx j).s), .sl false (ints (bxN bx j).w)] else .junk, if b 11 = true then .cptr [.sl false (ints (bxN bx j).m), .sl false (mails (bxN bx j).s), .sl false (ints (bxN bx j).w)] else .junk, if b 12 = true then .sl false (ints (bxN bx j).m) else .junk, if b 13 = true then .bsl 56 else .junk, if b 14 = true then .bsl 57 else .junk, if b 15 = true then .ptr 1 1 else .junk, if b 16 = true then .sl false (bxs bx) else .junk, if b 17 = true then .int .i64 (↑j : Int) else .junk, if b 18 = true then .cptr [.int .i64 (bxN bx j).r, .sl false (ints (bxN bx j).m), .sl false (mails (bxN bx j).s), .sl false (ints (bxN bx j).w)] else .junk, if b 19 = true then .cptr [.sl false (ints (bxN bx j).w)] else .junk, if b 20 = true then .sl false (ints (bxN bx j).w) else .junk, if b 21 = true then .bsl 64 else .junk, if b 22 = true then .agg [.int .i64 (bxN bx j).r, .bsl 56, .nils, .bsl 64] else .junk, .junk, .junk, .junk, .junk, .junk, .junk, .junk, .junk, .junk, .junk, .junk, .junk, .junk, .junk, .junk, .junk, .junk, .junk, .junk, .junk, .junk, .junk, .junk, .junk, .junk, .junk, .junk, .junk, .junk, .junk, .junk, .junk, .junk, .junk, .junk, .junk, .junk, .junk, .junk, .junk, .junk, .junk, .junk, .junk], [.un, .box [.sl false (sms sm), .sl false (bxs bx)], .box [.nils, .nils], .box [.bsl 35, .bsl 108], .un, .un, if b 24 = true then .box [.int .i64 (bxN bx j).r, .bsl 56, .nils, .bsl 64] else if b 23 = true then .box [.int .i64 0, .nils, .nils, .nils] else .un, .un, .un, .un, .un, .un, .un, .un, .un, .un, .un, .un, .un, .un, .un, .un, .un, .un, .un, .un, .un, .un, .un, .un, .un, .un, .un, .un, .un, .arr 74 2 (sms sm), .un, .un, .un, .un, .un, .un, .un, .un, .un, .un, .un, .un, .un, if b 13 = true then .dead else if b 6 = true then .arr 2 1 [] else .un, .un, .un, .un, .un, .un, .un, if b 13 = true then .arr 2 1 (ints (bxN bx j).m) else .un, if b 21 = true then .dead else if b 14 = true then .arr 3 1 [] else .un, .un, .un, .un, .un, .un, .un, if b 21 = true then .arr 3 1 (ints (bxN bx j).w) else .un, .un, .un, .un, .un, .un, .un, .un, .un, .un, .un, .un, .un, .un, .un, .un, .un, .un, .un, .un, .un, .un, .un, .un, .un, .un, .un, .un, .un, .un, .un, .un, .un, .un, .un, .un, .un, .un, .un, .un, .un, .un, .un, .un, .arr 77 4 (bxs U), .un], 0⟩) rfl ?_ ?_
   ·skip
    (repeat refine Di ?_ (fun b hwW hbB hcC => ?_)); (exact trivial)
    ·exact Ds25 hbB (hwW.at 0 rfl) (hwW.at 1 rfl) (hwW.at 2 rfl) (hwW.at 3 rfl) (hwW.at 4 rfl) (hwW.at 5 rfl) (hwW.at 6 rfl) (hwW.at 7 rfl) (hwW.at 8 rfl) (hwW.at 9 rfl) (hwW.at 10 rfl) (hwW.at 11 rfl) (hwW.at 12 rfl) (hwW.at 13 rfl) (hwW.at 14 rfl) (hwW.at 15 rfl) (hwW.at 16 rfl) (hwW.at 17 rfl) (hwW.at 18 rfl) (hwW.at 19 rfl) (hwW.at 20 rfl) (hwW.at 21 rfl) (hwW.at 22 rfl) (hwW.at 23 rfl) @hg
    ·exact Ds2 hbB (hcC.l hbB 24 rfl) @hg
    ·have w13 := hwW.at 13 rfl; have w21 := hwW.at 21 rfl; exact Ds7 hbB (hwW.at 5 rfl) ((hcC 13 _ rfl w13).at 6 rfl) w13 ((hcC 21 _ rfl w21).at 14 rfl) w21 (hcC.l hbB 24 rfl) @hg
    ·have w13 := hwW.at 13 rfl; exact Ds7 hbB ((hcC 13 _ rfl w13).at 6 rfl) w13 (hwW.at 14 rfl) (hwW.at 20 rfl) (hcC.l hbB 22 rfl) (hcC.l hbB 24 rfl) @hg
    ·exact Ds4 hbB (hwW.at 19 rfl) (hcC.l hbB 21 rfl) (hcC.l hbB 24 rfl) @hg
    ·have l20 := hcC.l hbB 20 rfl; exact Ds5 hbB (hwW.at 18 rfl) l20 (hcC.l l20 21 rfl) (hcC.l hbB 24 rfl) @hg
    ·have l19 := hcC.l hbB 19 rfl; have l20 := hcC.l l19 20 rfl; exact Ds6 hbB (hwW.at 16 rfl) (hwW.at 17 rfl) l19 (hcC.l l20 21 rfl) (hcC.l hbB 24 rfl) @hg
    ·have l18 := hcC.l hbB 18 rfl; have l19 := hcC.l l18 19 rfl; have l20 := hcC.l l19 20 rfl; exact Ds4 hbB l18 (hcC.l l20 21 rfl) (hcC.l hbB 24 rfl) @hg
    ·have l18 := hcC.l hbB 18 rfl; have l19 := hcC.l l18 19 rfl; have l20 := hcC.l l19 20 rfl; exact Ds5 hbB (hwW.at 15 rfl) l18 (hcC.l l20 21 rfl) (hcC.l hbB 24 rfl) @hg
    ·have l16 := hcC.l hbB 16 rfl; have l18 := hcC.l l16 18 rfl; have l19 := hcC.l l18 19 rfl; have l20 := hcC.l l19 20 rfl; exact Ds4 hbB l16 (hcC.l l20 21 rfl) (hcC.l hbB 24 rfl) @hg
    ·exact Ds3 hbB (hcC.l hbB 21 rfl) (hcC.l hbB 24 rfl) @hg
    ·exact Ds6 hbB (hwW.at 6 rfl) (hwW.at 12 rfl) (hcC.l hbB 21 rfl) (hcC.l hbB 22 rfl) (hcC.l hbB 24 rfl) @hg
    ·have l13 := hcC.l hbB 13 rfl; exact Ds5 hbB (hwW.at 11 rfl) l13 (hcC.l l13 21 rfl) (hcC.l hbB 24 rfl) @hg
    ·have l12 := hcC.l hbB 12 rfl; have l13 := hcC.l l12 13 rfl; exact Ds6 hbB (hwW.at 10 rfl) l12 l13 (hcC.l l13 21 rfl) (hcC.l hbB 24 rfl) @hg
    ·have l11 := hcC.l hbB 11 rfl; have l12 := hcC.l l11 12 rfl; have l13 := hcC.l l12 13 rfl; exact Ds7 hbB (hwW.at 8 rfl) (hwW.at 9 rfl) l11 l13 (hcC.l l13 21 rfl) (hcC.l hbB 24 rfl) @hg
    ·have l10 := hcC.l hbB 10 rfl; have l11 := hcC.l l10 11 rfl; have l12 := hcC.l l11 12 rfl; have l13 := hcC.l l12 13 rfl; exact Ds5 hbB l10 l13 (hcC.l l13 21 rfl) (hcC.l hbB 24 rfl) @hg
    ·have l10 := hcC.l hbB 10 rfl; have l11 := hcC.l l10 11 rfl; have l12 := hcC.l l11 12 rfl; have l13 := hcC.l l12 13 rfl; exact Ds6 hbB (hwW.at 7 rfl) l10 l13 (hcC.l l13 21 rfl) (hcC.l hbB 24 rfl) @hg
    ·have l8 := hcC.l hbB 8 rfl; have l10 := hcC.l l8 10 rfl; have l11 := hcC.l l10 11 rfl; have l12 := hcC.l l11 12 rfl; have l13 := hcC.l l12 13 rfl; exact Ds5 hbB l8 l13 (hcC.l l13 21 rfl) (hcC.l hbB 24 rfl) @hg
    ·have l13 := hcC.l hbB 13 rfl; exact Ds4 hbB l13 (hcC.l l13 21 rfl) (hcC.l hbB 24 rfl) @hg
    ·exact Ds4 hbB (hwW.at 4 rfl) (hcC.l hbB 22 rfl) (hcC.l hbB 24 rfl) @hg
    ·exact Ds4 hbB (hwW.at 3 rfl) (hcC.l hbB 5 rfl) (hcC.l hbB 24 rfl) @hg
    ·exact Ds5 hbB (hwW.at 1 rfl) (hwW.at 2 rfl) (hcC.l hbB 4 rfl) (hcC.l hbB 24 rfl) @hg
    ·exact Ds3 hbB (hcC.l hbB 3 rfl) (hcC.l hbB 24 rfl) @hg
    ·exact Ds4 hbB (hwW.at 0 rfl) (hcC.l hbB 3 rfl) (hcC.l hbB 24 rfl) @hg
    ·exact Ds3 hbB (hcC.l hbB 1 rfl) (hcC.l hbB 24 rfl) @hg
   simp only [List.length_cons, List.length_nil, Nat.reduceAdd, Nat.reduceLT, decide_true, if_true]
   refine Dd0 ?_
   refine TW_sub (Sub_growIn (b := 6) (f := 2) (id := 102) 78 2 rfl rfl rfl (Nat.zero_le _)) ?_
   simp only [go_sem]
   refine TW_sub (Sub_bl 10141204801752048235747506913041) ?_
   refine TW_loop (fun fuel st => ∃ (k : Nat) (v : List (Int × Int)), (k ≤ (bxN bx j).s.length) ∧ (v = (bxN bx j).s.take k) ∧  fuel = (bxN bx j).s.length - k ∧ st = ⟨[.junk, .ptr 1 0, .ptr 2 0, .ptr 3 0, .junk, .int .i64 (↑j : Int), .ptr 6 0, .int .i64 k, .junk, .junk, .junk, .junk, .junk, .junk, .junk, .junk, .junk, .junk, .junk, .junk, .junk, .junk, .junk, .junk, .junk, .junk, .junk, .junk, .junk, .junk, .junk, .junk, .junk, .junk, .junk, .junk, .int .i64 (↑j : Int), .ptr 1 1, .sl false (bxs bx), .int .i64 (↑bx.length : Int), .bool (decide ((↑j : Int) < (↑bx.length : Int))), .junk, .junk, .ptr 1 1, .sl false (bxs bx), .int .i64 (↑j : Int), .cptr [.int .i64 (bxN bx j).r, .sl false (ints (bxN bx j).m), .sl false (mails (bxN bx j).s), .sl false (ints (bxN bx j).w)], .cptr [.int .i64 (bxN bx j).r, .sl false (ints (bxN bx j).m), .sl false (mails (bxN bx j).s), .sl false (ints (bxN bx j).w)], .int .i64 (bxN bx j).r, .bsl 49, .ptr 1 1, .sl false (bxs bx), .int .i64 (↑j : Int), .cptr [.int .i64 (bxN bx j).r, .sl false (ints (bxN bx j).m), .sl false (mails (bxN bx j).s), .sl false (ints (bxN bx j).w)], .cptr [.sl false (ints (bxN bx j).m), .sl false (mails (bxN bx j).s), .sl false (ints (bxN bx j).w)], .sl false (ints (bxN bx j).m), .bsl 56, .bsl 57, .ptr 1 1, .sl false (bxs bx), .int .i64 (↑j : Int), .cptr [.int .i64 (bxN bx j).r, .sl false (ints (bxN bx j).m), .sl false (mails (bxN bx j).s), .sl false (ints (bxN bx j).w)], .cptr [.sl false (ints (bxN bx j).w)], .sl false (ints (bxN bx j).w), .bsl 64, .agg [.int .i64 (bxN bx j).r, .bsl 56, .nils, .bsl 64], .junk, .junk, .junk, .junk, .junk, .junk, .junk, .junk, .junk, .junk, .junk, .junk, .junk, .junk, .junk, .junk, .junk, .junk, .junk, .junk, .junk, .junk, .junk, .junk, .junk, .junk, .junk, .junk, .junk, .junk, .junk, .junk, .junk, .junk, .junk, .junk, .junk, .junk, .junk, .junk, .junk, .junk, .junk, .junk], [.un, .box [.sl false (sms sm), .sl false (bxs bx)], .box [.nils, .nils], .box [.bsl 35, .bsl 108], .un, .un, .box [.int .i64 (bxN bx j).r, .bsl 56, .bsl 102, .bsl 64], .un, .un, .un, .un, .un, .un, .un, .un, .un, .un, .un, .un, .un, .un, .un, .un, .un, .un, .un, .un, .un, .un, .un, .un, .un, .un, .un, .un, .arr 74 2 (sms sm), .un, .un, .un, .un, .un, .un, .un, .un, .un, .un, .un, .un, .un, .dead, .un, .un, .un, .un, .un, .un, .arr 2 1 (ints (bxN bx j).m), .dead, .un, .un, .un, .un, .un, .un, .arr 3 1 (ints (bxN bx j).w), .un, .un, .un, .un, .un, .un, .un, .un, .un, .un, .un, .un, .un, .un, .un, .un, .un, .un, .un, .un, .un, .un, .un, .un, .un, .un, .un, .un, .un, .un, .un, .un, .un, .un, .un, .un, .un, .arr 78 2 (mails v), .un, .un, .un, .un, .un, .arr 77 4 (bxs U), .un], 0⟩) (n := _) ⟨0, [], by first | omega | (simp; done) | (simp; omega) | assumption, by first | omega | (simp; done) | (simp; omega) | assumption, rfl, rfl⟩ ?_
   rintro fuel st ⟨k, v, hk0, hv, rfl, rfl⟩
   refine Dd1 @hg ?_
   refine TW_cond rfl (fun hc => ?_) (fun hc => ?_)
   ·have hkl : k < (bxN bx j).s.length := by simpa using hc
    have hgm := mails_getN (bxN bx j).s k hkl
    have hm2 := mails_2 (bxN bx j).s
    have hv2 := mails_2 v
    have hwk := wrap_i64 (n := (k : Int) + 1) (by omega) (by omega)
    have hvl : v.length ≤ 1000000 := by rw [hv, List.length_take]; omega
    have hga := getD_atM hkl
    refine Dd0 ?_
    refine TW_sub (Sub_bl 68719476497) ?_
    refine TW_open mixed (by kernel_rfl) (fun b => ⟨[.junk, .ptr 1 0, .ptr 2 0, .ptr 3 0, .junk, .int .i64 (↑j : Int), .ptr 6 0, .int .i64 (↑k : Int), .junk, .junk, .junk, .junk, .junk, .junk, .junk, .junk, .junk, .junk, .junk, .junk, .junk, .junk, .junk, .junk, .junk, .junk, .junk, .junk, .junk, .junk, .junk, .junk, .junk, .junk, .junk, .junk, .int .i64 (↑j : Int), .ptr 1 1, .sl false (bxs bx), .int .i64 (↑bx.length : Int), .bool (decide ((↑j : Int) < (↑bx.length : Int))), .junk, .junk, .ptr 1 1, .sl false (bxs bx), .int .i64 (↑j : Int), .cptr [.int .i64 (bxN bx j).r, .sl false (ints (bxN bx j).m), .sl false (mails (bxN bx j).s), .sl false (ints (bxN bx j).w)], .cptr [.int .i64 (bxN bx j).r, .sl false (ints (bxN bx j).m), .sl false (mails (bxN bx j).s), .sl false (ints (bxN bx j).w)], .int .i64 (bxN bx j).r, .bsl 49, .ptr 1 1, .sl false (bxs bx), .int .i64 (↑j : Int), .cptr [.int .i64 (bxN bx j).r, .sl false (ints (bxN bx j).m), .sl false (mails (bxN bx j).s), .sl false (ints (bxN bx j).w)], .cptr [.sl false (ints (bxN bx j).m), .sl false (mails (bxN bx j).s), .sl false (ints (bxN bx j).w)], .sl false (ints (bxN bx j).m), .bsl 56, .bsl 57, .ptr 1 1, .sl false (bxs bx), .int .i64 (↑j : Int), .cptr [.int .i64 (bxN bx j).r, .sl false (ints (bxN bx j).m), .sl false (mails (bxN bx j).s), .sl false (ints (bxN bx j).w)], .cptr [.sl false (ints (bxN bx j).w)], .sl false (ints (bxN bx j).w), .bsl 64, .agg [.int .i64 (bxN bx j).r, .bsl 56, .nils, .bsl 64], .int .i64 (↑k : Int), .ptr 1 1, .sl false (bxs bx), .int .i64 (↑j : Int), .cptr [.int .i64 (bxN bx j).r, .sl false (ints (bxN bx j).m), .sl false (mails (bxN bx j).s), .sl false (ints (bxN bx j).w)], .cptr [.sl false (mails (bxN bx j).s), .sl false (ints (bxN bx j).w)], .sl false (mails (bxN bx j).s), .int .i64 (↑(bxN bx j).s.length : Int), .bool (decide ((↑k : Int) < (↑(bxN bx j).s.length : Int))), .junk, .junk, if b 0 = true then .ptr 6 2 else .junk, if b 1 = true then .bsl 102 else .junk, if b 2 = true then .ptr 1 1 else .junk, if b 3 = true then .sl false (bxs bx) else .junk, if b 4 = true then .int .i64 (↑j : Int) else .junk, if b 5 = true then .cptr [.int .i64 (bxN bx j).r, .sl false (ints (bxN bx j).m), .sl false (mails (bxN bx j).s), .sl false (ints (bxN bx j).w)] else .junk, if b 6 = true then .cptr [.sl false (mails (bxN bx j).s), .sl false (ints (bxN bx j).w)] else .junk, if b 7 = true then .sl false (mails (bxN bx j).s) else .junk, if b 8 = true then .int .i64 (↑k : Int) else .junk, if b 9 = true then .cptr [.int .i64 (atN (bxN bx j).s k).fst, .int .i64 (atN (bxN bx j).s k).snd] else .junk, if b 10 = true then .cptr [.int .i64 (atN (bxN bx j).s k).fst, .int .i64 (atN (bxN bx j).s k).snd] else .junk, if b 11 = true then .int .i64 (atN (bxN bx j).s k).fst else .junk, if b 12 = true then .ptr 1 1 else .junk, if b 13 = true then .sl false (bxs bx) else .junk, if b 14 = true then .int .i64 (↑j : Int) else .junk, if b 15 = true then .cptr [.int .i64 (bxN bx j).r, .sl false (ints (bxN bx j).m), .sl false (mails (bxN bx j).s), .sl false (ints (bxN bx j).w)] else .junk, if b 16 = true then .cptr [.sl false (mails (bxN bx j).s), .sl false (ints (bxN bx j).w)] else .junk, if b 17 = true then .sl false (mails (bxN bx j).s) else .junk, if b 18 = true then .int .i64 (↑k : Int) else .junk, if b 19 = true then .cptr [.int .i64 (atN (bxN bx j).s k).fst, .int .i64 (atN (bxN bx j).s k).snd] else .junk, if b 20 = true then .cptr [.int .i64 (atN (bxN bx j).s k).snd] else .junk, if b 21 = true then .int .i64 (atN (bxN bx j).s k).snd else .junk, if b 22 = true then .agg [.int .i64 (atN (bxN bx j).s k).fst, .int .i64 (atN (bxN bx j).s k).snd] else .junk, if b 23 = true then .bsl 100 else .junk, if b 24 = true then .bsl 101 else .junk, if b 25 = true then .ptr 6 2 else .junk, .junk, .junk, .junk, .junk, .junk, .junk, .junk], [.un, .box [.sl false (sms sm), .sl false (bxs bx)], .box [.nils, .nils], .box [.bsl 35, .bsl 108], .un, .un, if b 26 = true then .box [.int .i64 (bxN bx j).r, .bsl 56, .bsl 101, .bsl 64] else .box [.int .i64 (bxN bx j).r, .bsl 56, .bsl 102, .bsl 64], .un, .un, .un, .un, .un, .un, .un, .un, .un, .un, .un, .un, .un, .un, .un, .un, .un, .un, .un, .un, .un, .un, .un, .un, .un, .un, .un, .un, .arr 74 2 (sms sm), .un, .un, .un, .un, .un, .un, .un, .un, .un, .un, .un, .un, .un, .dead, .un, .un, .un, .un, .un, .un, .arr 2 1 (ints (bxN bx j).m), .dead, .un, .un, .un, .un, .un, .un, .arr 3 1 (ints (bxN bx j).w), .un, .un, .un, .un, .un, .un, .un, .un, .un, .un, .un, .un, .un, .un, .un, .un, .un, .un, .un, .un, .un, .un, .un, .un, .un, .un, .un, .un, .un, .un, .un, .un, .un, .un, .un, if b 23 = true then .arr 78 2 [[.int .i64 (atN (bxN bx j).s k).fst, .int .i64 (atN (bxN bx j).s k).snd]] else .un, if b 24 = true then .arr 78 2 (mails (v ++ [((atN (bxN bx j).s k).fst, (atN (bxN bx j).s k).snd)])) else .un, if b 24 = true then .dead else .arr 78 2 (mails v), .un, .un, .un, .un, .un, .arr 77 4 (bxs U), .un], 0⟩) rfl ?_ ?_
    ·skip
     (repeat refine Di ?_ (fun b hwW hbB hcC => ?_)); (exact trivial)
     ·exact Ds28 hbB (hwW.at 0 rfl) (hwW.at 1 rfl) (hwW.at 2 rfl) (hwW.at 3 rfl) (hwW.at 4 rfl) (hwW.at 5 rfl) (hwW.at 6 rfl) (hwW.at 7 rfl) (hwW.at 8 rfl) (hwW.at 9 rfl) (hwW.at 10 rfl) (hwW.at 11 rfl) (hwW.at 12 rfl) (hwW.at 13 rfl) (hwW.at 14 rfl) (hwW.at 15 rfl) (hwW.at 16 rfl) (hwW.at 17 rfl) (hwW.at 18 rfl) (hwW.at 19 rfl) (hwW.at 20 rfl) (hwW.at 21 rfl) (hwW.at 22 rfl) (hwW.at 23 rfl) (hwW.at 24 rfl) (hwW.at 25 rfl) @hg @hgm
     ·exact Ds28 hbB (hwW.at 0 rfl) (hwW.at 1 rfl) (hwW.at 2 rfl) (hwW.at 3 rfl) (hwW.at 4 rfl) (hwW.at 5 rfl) (hwW.at 6 rfl) (hwW.at 7 rfl) (hwW.at 8 rfl) (hwW.at 9 rfl) (hwW.at 10 rfl) (hwW.at 11 rfl) (hwW.at 12 rfl) (hwW.at 13 rfl) (hwW.at 14 rfl) (hwW.at 15 rfl) (hwW.at 16 rfl) (hwW.at 17 rfl) (hwW.at 18 rfl) (hwW.at 19 rfl) (hwW.at 20 rfl) (hwW.at 21 rfl) (hwW.at 22 rfl) (hwW.at 23 rfl) (hwW.at 24 rfl) (hcC.l hbB 26 rfl) @hg @hgm
     ·exact Ds6 hbB (hwW.at 1 rfl) (hwW.at 23 rfl) (hcC.l hbB 25 rfl) (hcC.l hbB 26 rfl) @hg @hgm
     ·exact Ds6 hbB (hwW.at 22 rfl) (hcC.l hbB 24 rfl) (hcC.l hbB 25 rfl) (hcC.l hbB 26 rfl) @hg @hgm
     ·have l23 := hcC.l hbB 23 rfl; exact Ds8 hbB (hwW.at 11 rfl) (hwW.at 21 rfl) l23 (hcC.l l23 24 rfl) (hcC.l hbB 25 rfl) (hcC.l hbB 26 rfl) @hg @hgm
     ·have l22 := hcC.l hbB 22 rfl; have l23 := hcC.l l22 23 rfl; exact Ds8 hbB (hwW.at 20 rfl) l22 l23 (hcC.l l23 24 rfl) (hcC.l hbB 25 rfl) (hcC.l hbB 26 rfl) @hg @hgm
     ·have l21 := hcC.l hbB 21 rfl; have l22 := hcC.l l21 22 rfl; have l23 := hcC.l l22 23 rfl; exact Ds8 hbB (hwW.at 19 rfl) l21 l23 (hcC.l l23 24 rfl) (hcC.l hbB 25 rfl) (hcC.l hbB 26 rfl) @hg @hgm
     ·have l20 := hcC.l hbB 20 rfl; have l21 := hcC.l l20 21 rfl; have l22 := hcC.l l21 22 rfl; have l23 := hcC.l l22 23 rfl; exact Ds9 hbB (hwW.at 17 rfl) (hwW.at 18 rfl) l20 l23 (hcC.l l23 24 rfl) (hcC.l hbB 25 rfl) (hcC.l hbB 26 rfl) @hg @hgm
     ·have l19 := hcC.l hbB 19 rfl; have l20 := hcC.l l19 20 rfl; have l21 := hcC.l l20 21 rfl; have l22 := hcC.l l21 22 rfl; have l23 := hcC.l l22 23 rfl; exact Ds7 hbB l19 l23 (hcC.l l23 24 rfl) (hcC.l hbB 25 rfl) (hcC.l hbB 26 rfl) @hg @hgm
     ·have l19 := hcC.l hbB 19 rfl; have l20 := hcC.l l19 20 rfl; have l21 := hcC.l l20 21 rfl; have l22 := hcC.l l21 22 rfl; have l23 := hcC.l l22 23 rfl; exact Ds8 hbB (hwW.at 16 rfl) l19 l23 (hcC.l l23 24 rfl) (hcC.l hbB 25 rfl) (hcC.l hbB 26 rfl) @hg @hgm
     ·have l17 := hcC.l hbB 17 rfl; have l19 := hcC.l l17 19 rfl; have l20 := hcC.l l19 20 rfl; have l21 := hcC.l l20 21 rfl; have l22 := hcC.l l21 22 rfl; have l23 := hcC.l l22 23 rfl; exact Ds8 hbB (hwW.at 15 rfl) l17 l23 (hcC.l l23 24 rfl) (hcC.l hbB 25 rfl) (hcC.l hbB 26 rfl) @hg @hgm
     ·have l16 := hcC.l hbB 16 rfl; have l17 := hcC.l l16 17 rfl; have l19 := hcC.l l17 19 rfl; have l20 := hcC.l l19 20 rfl; have l21 := hcC.l l20 21 rfl; have l22 := hcC.l l21 22 rfl; have l23 := hcC.l l22 23 rfl; exact Ds9 hbB (hwW.at 13 rfl) (hwW.at 14 rfl) l16 l23 (hcC.l l23 24 rfl) (hcC.l hbB 25 rfl) (hcC.l hbB 26 rfl) @hg @hgm
     ·have l15 := hcC.l hbB 15 rfl; have l16 := hcC.l l15 16 rfl; have l17 := hcC.l l16 17 rfl; have l19 := hcC.l l17 19 rfl; have l20 := hcC.l l19 20 rfl; have l21 := hcC.l l20 21 rfl; have l22 := hcC.l l21 22 rfl; have l23 := hcC.l l22 23 rfl; exact Ds7 hbB l15 l23 (hcC.l l23 24 rfl) (hcC.l hbB 25 rfl) (hcC.l hbB 26 rfl) @hg @hgm
     ·have l15 := hcC.l hbB 15 rfl; have l16 := hcC.l l15 16 rfl; have l17 := hcC.l l16 17 rfl; have l19 := hcC.l l17 19 rfl; have l20 := hcC.l l19 20 rfl; have l21 := hcC.l l20 21 rfl; have l22 := hcC.l l21 22 rfl; have l23 := hcC.l l22 23 rfl; exact Ds8 hbB (hwW.at 12 rfl) l15 l23 (hcC.l l23 24 rfl) (hcC.l hbB 25 rfl) (hcC.l hbB 26 rfl) @hg @hgm
     ·have l13 := hcC.l hbB 13 rfl; have l15 := hcC.l l13 15 rfl; have l16 := hcC.l l15 16 rfl; have l17 := hcC.l l16 17 rfl; have l19 := hcC.l l17 19 rfl; have l20 := hcC.l l19 20 rfl; have l21 := hcC.l l20 21 rfl; have l22 := hcC.l l21 22 rfl; have l23 := hcC.l l22 23 rfl; exact Ds7 hbB l13 l23 (hcC.l l23 24 rfl) (hcC.l hbB 25 rfl) (hcC.l hbB 26 rfl) @hg @hgm
     ·have l22 := hcC.l hbB 22 rfl; have l23 := hcC.l l22 23 rfl; exact Ds8 hbB (hwW.at 10 rfl) l22 l23 (hcC.l l23 24 rfl) (hcC.l hbB 25 rfl) (hcC.l hbB 26 rfl) @hg @hgm
     ·have l11 := hcC.l hbB 11 rfl; have l22 := hcC.l l11 22 rfl; have l23 := hcC.l l22 23 rfl; exact Ds8 hbB (hwW.at 9 rfl) l11 l23 (hcC.l l23 24 rfl) (hcC.l hbB 25 rfl) (hcC.l hbB 26 rfl) @hg @hgm
     ·have l10 := hcC.l hbB 10 rfl; have l11 := hcC.l l10 11 rfl; have l22 := hcC.l l11 22 rfl; have l23 := hcC.l l22 23 rfl; exact Ds9 hbB (hwW.at 7 rfl) (hwW.at 8 rfl) l10 l23 (hcC.l l23 24 rfl) (hcC.l hbB 25 rfl) (hcC.l hbB 26 rfl) @hg @hgm
     ·have l9 := hcC.l hbB 9 rfl; have l10 := hcC.l l9 10 rfl; have l11 := hcC.l l10 11 rfl; have l22 := hcC.l l11 22 rfl; have l23 := hcC.l l22 23 rfl; exact Ds7 hbB l9 l23 (hcC.l l23 24 rfl) (hcC.l hbB 25 rfl) (hcC.l hbB 26 rfl) @hg @hgm
     ·have l9 := hcC.l hbB 9 rfl; have l10 := hcC.l l9 10 rfl; have l11 := hcC.l l10 11 rfl; have l22 := hcC.l l11 22 rfl; have l23 := hcC.l l22 23 rfl; exact Ds8 hbB (hwW.at 6 rfl) l9 l23 (hcC.l l23 24 rfl) (hcC.l hbB 25 rfl) (hcC.l hbB 26 rfl) @hg @hgm
     ·have l7 := hcC.l hbB 7 rfl; have l9 := hcC.l l7 9 rfl; have l10 := hcC.l l9 10 rfl; have l11 := hcC.l l10 11 rfl; have l22 := hcC.l l11 22 rfl; have l23 := hcC.l l22 23 rfl; exact Ds8 hbB (hwW.at 5 rfl) l7 l23 (hcC.l l23 24 rfl) (hcC.l hbB 25 rfl) (hcC.l hbB 26 rfl) @hg @hgm
     ·have l6 := hcC.l hbB 6 rfl; have l7 := hcC.l l6 7 rfl; have l9 := hcC.l l7 9 rfl; have l10 := hcC.l l9 10 rfl; have l11 := hcC.l l10 11 rfl; have l22 := hcC.l l11 22 rfl; have l23 := hcC.l l22 23 rfl; exact Ds9 hbB (hwW.at 3 rfl) (hwW.at 4 rfl) l6 l23 (hcC.l l23 24 rfl) (hcC.l hbB 25 rfl) (hcC.l hbB 26 rfl) @hg @hgm
     ·have l5 := hcC.l hbB 5 rfl; have l6 := hcC.l l5 6 rfl; have l7 := hcC.l l6 7 rfl; have l9 := hcC.l l7 9 rfl; have l10 := hcC.l l9 10 rfl; have l11 := hcC.l l10 11 rfl; have l22 := hcC.l l11 22 rfl; have l23 := hcC.l l22 23 rfl; exact Ds7 hbB l5 l23 (hcC.l l23 24 rfl) (hcC.l hbB 25 rfl) (hcC.l hbB 26 rfl) @hg @hgm
     ·have l5 := hcC.l hbB 5 rfl; have l6 := hcC.l l5 6 rfl; have l7 := hcC.l l6 7 rfl; have l9 := hcC.l l7 9 rfl; have l10 := hcC.l l9 10 rfl; have l11 := hcC.l l10 11 rfl; have l22 := hcC.l l11 22 rfl; have l23 := hcC.l l22 23 rfl; exact Ds8 hbB (hwW.at 2 rfl) l5 l23 (hcC.l l23 24 rfl) (hcC.l hbB 25 rfl) (hcC.l hbB 26 rfl) @hg @hgm
     ·have l3 := hcC.l hbB 3 rfl; have l5 := hcC.l l3 5 rfl; have l6 := hcC.l l5 6 rfl; have l7 := hcC.l l6 7 rfl; have l9 := hcC.l l7 9 rfl; have l10 := hcC.l l9 10 rfl; have l11 := hcC.l l10 11 rfl; have l22 := hcC.l l11 22 rfl; have l23 := hcC.l l22 23 rfl; exact Ds7 hbB l3 l23 (hcC.l l23 24 rfl) (hcC.l hbB 25 rfl) (hcC.l hbB 26 rfl) @hg @hgm
     ·exact Ds6 hbB (hwW.at 0 rfl) (hcC.l hbB 24 rfl) (hcC.l hbB 25 rfl) (hcC.l hbB 26 rfl) @hg @hgm
     ·have l1 := hcC.l hbB 1 rfl; exact Ds6 hbB l1 (hcC.l l1 24 rfl) (hcC.l hbB 25 rfl) (hcC.l hbB 26 rfl) @hg @hgm
    simp only [List.length_cons, List.length_nil, Nat.reduceAdd, Nat.reduceLT, decide_true, if_true]
    refine Dd1 @hwk ?_
    (refine ⟨(fun (k : Nat) (v : List (Int × Int)) => (bxN bx j).s.length - k) (k + 1) ( v ++ [((atN (bxN bx j).s k).1, (atN (bxN bx j).s k).2)]), _, ?hm, ?hI, (Sub.trans (Sub_swap 102 101 (by first | (simp; done) | (simp [swap]; done)) (by first | (simp; done) | (simp [swap]; done)) (Nat.le_of_ble_eq_true rfl) (Nat.le_of_ble_eq_true rfl)) (Sub.trans (Sub_forget [100, 101] rfl) (Sub_bl 10141204801752048235747506913041)))⟩; (case hm => (first | omega | (simp only; omega) | (simp only [List.length_cons]; omega))); (case hI => (simp only [go_sem, forget, swap, scrL, scr, scrH, scrO, renL, ren, renO, sw, blankN, Nat.reduceMod, Nat.reduceDiv, cond_true, cond_false, List.contains_cons, List.contains_nil, Nat.reduceBEq, Bool.or_false, Bool.false_or, Bool.or_true, Bool.true_or, Bool.false_eq_true, if_true, if_false] <;> exact ⟨k + 1, v ++ [((atN (bxN bx j).s k).1, (atN (bxN bx j).s k).2)], by omega, by rw [hv, List.take_succ_eq_append_getElem hkl, ← hga]; rfl, rfl, rfl⟩)))
   ·have hvs : v = (bxN bx j).s := by
     have hi2 : k = (bxN bx j).s.length := by have : ¬ (k < (bxN bx j).s.length) := by simpa using hc
                                              omega
     rw [hv, hi2, List.take_length]
    rw [hvs]
    refine Dd1 @hw ?_
    (refine ⟨(fun (j : Nat) (U : List Bx) => bx.length - j) (j + 1) ( U ++ [⟨(bxN bx j).r, (bxN bx j).m, (bxN bx j).s, (bxN bx j).w⟩]), _, ?hm, ?hI, (Sub.trans (Sub_swap 108 107 (by first | (simp; done) | (simp [swap]; done)) (by first | (simp; done) | (simp [swap]; done)) (Nat.le_of_ble_eq_true rfl) (Nat.le_of_ble_eq_true rfl)) (Sub.trans (Sub_forget [106, 107, 6, 102, 49, 57, 56, 64] rfl) (Sub_bl 649037107316853453566312041152465)))⟩; (case hm => (first | omega | (simp only; omega) | (simp only [List.length_cons]; omega))); (case hI => (simp only [go_sem, forget, swap, scrL, scr, scrH, scrO, renL, ren, renO, sw, blankN, Nat.reduceMod, Nat.reduceDiv, cond_true, cond_false, List.contains_cons, List.contains_nil, Nat.reduceBEq, Bool.or_false, Bool.false_or, Bool.or_true, Bool.true_or, Bool.false_eq_true, if_true, if_false] <;> exact ⟨j + 1, U ++ [⟨(bxN bx j).r, (bxN bx j).m, (bxN bx j).s, (bxN bx j).w⟩], by omega, by rw [hU, List.take_succ_eq_append_getElem hlt, ← hat0], rfl, rfl⟩)))
  ·have hUs : U = bx := by
    have hi2 : j = bx.length := by have : ¬ (j < bx.length) := by simpa using hc
                                   omega
    rw [hU, hi2, List.take_length]
   rw [hUs]
   refine Dd0 ?_
   (refine ⟨by simp, ?_⟩; simp only [go_sem, Try.results10])
theorem okm_big {N : Nat} {sm : List (Int × List Int)} {bx : List Bx} (h : Okm N sm bx) (hN : N ≤ 1000000) : (sm.length ≤ 1000000 ∧ bx.length ≤ 1000000) ∧ (∀ x ∈ sm, x.2.length ≤ 1000000) ∧ (∀ x ∈ bx, x.s.length ≤ 1000000) ∧ (∀ x ∈ bx, x.s.length ≤ 1000000 ∧ x.m.length ≤ 1000000 ∧ x.w.length ≤ 1000000) ∧ (∀ x ∈ bx, x.m.length ≤ 1000000 ∧ x.s.length ≤ 1000000 ∧ x.w.length ≤ 1000000) := by
 obtain ⟨h1, h2, h3, _, h5⟩ := h
 refine ⟨⟨by omega, by omega⟩, fun x hx => ?_, fun x hx => ?_, fun x hx => ?_, fun x hx => ?_⟩
 ·have := h3 x hx; omega
 all_goals (have := h5 x hx; omega)
theorem does_law (sm : List (Int × List Int)) (bx : List Bx) (P : List (List (Int × Int))) (p k n g : Int) (hm : ∀ x ∈ bx, x.m.length ≤ 9223372036854775807) (hP : P.length ≤ 9223372036854775807) (hq : ∀ i, (pgN P i).length ≤ 9223372036854775807) (hn : -9223372036854775808 ≤ n ∧ n ≤ 9223372036854775807) :
  Ret Try.prog 3 [.agg [.sl false (sms sm), .sl false (bxs bx)], .sl false (pgs P), .agg [.int .i64 p, .int .i64 k, .int .i64 n], .int .i64 g] (.bool true) := by
 cases hf : fineM sm bx with
 | false =>
  refine Ret_of_body Try.func3 (by kernel_rfl) rfl ?_; rw [Try.ntmps3]
  refine Dd0 ?_
  refine Dsc0 (shown_spec) ?_
  refine Dd0 ?_
  ((with_reducible first | refine O1 rfl (fun N hN => ?_) | refine O2 rfl rfl rfl (fun N hN => ?_)); simp only [go_sem, hf]; refine vCall.sc _ _ (fine_spec sm bx hm) ?ha67 rfl (hN _ ?hk67); (case ha67 => (first | (simp only [go_sem, hf]; done) | (simp only [go_sem, hf] <;> (first | omega | ((try simp only [go_sem, hf, List.length_append, lim, lim2]) <;> omega) | assumption | exact ints_1 _ | exact rfl | (simp [ints]; done))) | (simp [ints]; done))); clear hN N; apply Ops_eq; (simp only [go_sem, hf]; rfl))
  refine Dd0 ?_
  refine TW_cond rfl (fun hc => ?_) (fun hc => ?_)
  ·refine Dd0 ?_
   (refine ⟨by simp, ?_⟩; simp only [go_sem, Try.results3])
  ·simp at hc
 | true =>
  by_cases hP2 : P.length ≤ 20
  ·have hd : decide ((P.length : Int) > 20) = false := decide_eq_false (by omega)
   have hO := fine_okm hf
   have hO2 := doF_okm P p k n g hO
   have hD := do_spec false 64 (by omega) sm bx P p k n g hO (by omega) hq hn
   have hE := rdo_spec false 64 (by omega) sm bx P p k n g hO hq
   have hA := at_spec false P p k n (by omega) hq
   have hB := rat_spec false P p k n hq
   simp only [drA, drM, drT, drE] at hD hE
   generalize doF sm bx P p k n g = r at *
   obtain ⟨s1, b1, p1, pc1, n1, kd, a1, wo, gv, v1, er⟩ := r
   generalize atR P p k = at0 at *
   obtain ⟨⟨i1, i2⟩, is⟩ := at0
   dsimp only at hD hE hA hB hO2
   obtain ⟨⟨u1, u2⟩, u3, u4, u5, u6⟩ := okm_big hO (by omega)
   obtain ⟨⟨y1, y2⟩, y3, y4, y5, y6⟩ := okm_big hO2 (by omega)
   have hs : ∀ x : Int, decide (x = x) = true := fun x => decide_eq_true rfl
   refine Ret_of_body Try.func3 (by kernel_rfl) rfl ?_; rw [Try.ntmps3]
   refine Dd0 ?_
   ((with_reducible first | refine O1 rfl (fun N hN => ?_) | refine O2 rfl rfl rfl (fun N hN => ?_)); simp only [go_sem]; refine vCall.sc _ _ (shown_spec) ?ha68 rfl (hN _ ?hk68); (case ha68 => (first | (simp only [go_sem]; done) | (simp only [go_sem] <;> (first | omega | ((try simp only [go_sem, List.length_append, lim, lim2]) <;> omega) | assumption | exact ints_1 _ | exact rfl | (simp [ints]; done))) | (simp [ints]; done))); clear hN N; apply Ops_eq; (simp only [go_sem]; rfl))
   refine Dd0 ?_
   ((with_reducible first | refine O1 rfl (fun N hN => ?_) | refine O2 rfl rfl rfl (fun N hN => ?_)); simp only [go_sem, hf]; refine vCall.sc _ _ (fine_spec sm bx hm) ?ha69 rfl (hN _ ?hk69); (case ha69 => (first | (simp only [go_sem, hf]; done) | (simp only [go_sem, hf] <;> (first | omega | ((try simp only [go_sem, hf, List.length_append, lim, lim2]) <;> omega) | assumption | exact ints_1 _ | exact rfl | (simp [ints]; done))) | (simp [ints]; done))); clear hN N; apply Ops_eq; (simp only [go_sem, hf]; rfl))
   refine Dd1 @hd ?_
   refine TW_cond rfl (fun hc => ?_) (fun hc => ?_)
   ·simp at hc
   ·refine Dd0 ?_
    ((with_reducible first | refine O1 rfl (fun N hN => ?_) | refine O2 rfl rfl rfl (fun N hN => ?_)); simp only [go_sem]; refine vCall.pu _ _ (made_spec sm bx u1 u2 u3 u5) ?ha70 (hN _ ?hk70); (case ha70 => (first | (simp only [go_sem]; done) | (simp only [go_sem] <;> (first | omega | ((try simp only [go_sem, List.length_append, lim, lim2]) <;> omega) | assumption | exact ints_1 _ | exact rfl | (simp [ints]; done))) | (simp [ints]; done))); clear hN N; apply Ops_eq; (simp only [go_sem]; rfl))
    refine Dd0 ?_
    refine TW_sub (Sub_bl 34351349925) ?_
    refine TW_open mixed (by kernel_rfl) (fun b => ⟨[.junk, .sl false (pgs P), .junk, .int .i64 g, .ptr 4 0, .junk, .ptr 6 0, .junk, .bool false, .bool true, .ptr 10 0, if b 11 = true then .ptr 11 0 else .junk, if b 12 = true then .ptr 12 0 else .junk, if b 13 = true then .ptr 13 0 else .junk, if b 17 = true then .int .i64 er else .junk, .junk, .junk, .junk, .junk, .junk, .junk, .junk, .junk, .junk, .junk, .junk, .junk, .junk, .junk, .junk, .junk, .junk, .junk, .junk, .junk, if b 6 = true then .tup [.agg [.sl false (sms s1), .sl false (bxs b1)], .agg [.int .i64 p1, .int .i64 pc1, .int .i64 n1], .agg [.int .i64 kd, .int .i64 a1, .int .i64 wo, .bool gv, .int .i64 v1], .int .i64 er] else .junk, if b 0 = true then .agg [.sl false (sms sm), .sl false (bxs bx)] else .junk, if b 1 = true then .sl false (pgs P) else .junk, if b 2 = true then .agg [.int .i64 p, .int .i64 k, .int .i64 n] else .junk, if b 3 = true then .agg [.int .i64 p, .int .i64 k, .int .i64 n] else .junk, if b 4 = true then .int .i64 g else .junk, if b 5 = true then .tup [.agg [.sl false (sms s1), .sl false (bxs b1)], .agg [.int .i64 p1, .int .i64 pc1, .int .i64 n1], .agg [.int .i64 kd, .int .i64 a1, .int .i64 wo, .bool gv, .int .i64 v1], .int .i64 er] else .junk, if b 7 = true then .agg [.sl false (sms s1), .sl false (bxs b1)] else .junk, if b 8 = true then .agg [.int .i64 p1, .int .i64 pc1, .int .i64 n1] else .junk, if b 9 = true then .agg [.int .i64 kd, .int .i64 a1, .int .i64 wo, .bool gv, .int .i64 v1] else .junk, if b 10 = true then .int .i64 er else .junk, .junk, .junk, .junk, .junk, .junk, .junk, .junk, .junk, .junk, .junk, .junk, .junk, .junk, .junk, .junk, .junk, .junk, .junk, .junk, .junk, .junk, .junk, .junk, .junk, .junk, .junk, .junk, .junk, .junk, .junk, .junk, .junk, .junk, .junk, .junk, .junk, .junk, .junk, .junk, .junk, .junk, .junk, .junk, .junk, .junk, .junk, .junk, .junk, .junk, .junk, .junk, .junk, .junk, .junk, .junk, .junk, .junk, .junk], [.un, .un, .un, .un, .box [.sl false (sms sm), .sl false (bxs bx)], .un, .box [.int .i64 p, .int .i64 k, .int .i64 n], .un, .un, .un, .box [.sl false (sms sm), .sl false (bxs bx)], if b 14 = true then .box [.sl false (sms s1), .sl false (bxs b1)] else if b 11 = true then .box [.nils, .nils] else .un, if b 15 = true then .box [.int .i64 p1, .int .i64 pc1, .int .i64 n1] else if b 12 = true then .box [.int .i64 0, .int .i64 0, .int .i64 0] else .un, if b 16 = true then .box [.int .i64 kd, .int .i64 a1, .int .i64 wo, .bool gv, .int .i64 v1] else if b 13 = true then .box [.int .i64 0, .int .i64 0, .int .i64 0, .bool false, .int .i64 0] else .un, .un, .un, .un, .un, .un, .un, .un, .un, .un, .un, .un, .un, .un, .un, .un, .un, .un, .un, .un, .un, .un, .un, .un, .un, .un, .un, .un, .un, .un, .un, .un, .un, .un, .un, .un, .un, .un, .un, .un, .un, .un, .un, .un, .un, .un, .un, .un, .un, .un, .un, .un, .un, .un, .un, .un, .un, .un, .un, .un, .un, .un, .un, .un, .un, .un, .un, .un, .un, .un, .un, .un, .un, .un, .un, .un, .un, .un, .un, .un, .un, .un, .un, .un, .un, .un, .un, .un, .un, .un, .un], 0⟩) rfl ?_ ?_
    ·skip
     (repeat refine Di ?_ (fun b hwW hbB hcC => ?_)); (exact trivial)
     ·exact Ds17 hbB (hwW.at 0 rfl) (hwW.at 1 rfl) (hwW.at 2 rfl) (hwW.at 3 rfl) (hwW.at 4 rfl) (hwW.at 5 rfl) (hwW.at 6 rfl) (hwW.at 7 rfl) (hwW.at 8 rfl) (hwW.at 9 rfl) (hwW.at 10 rfl) (hwW.at 11 rfl) (hwW.at 12 rfl) (hwW.at 13 rfl) (hwW.at 14 rfl) (hwW.at 15 rfl) (hwW.at 16 rfl)
     ·exact Ds16 hbB (hwW.at 0 rfl) (hwW.at 1 rfl) (hwW.at 2 rfl) (hwW.at 3 rfl) (hwW.at 4 rfl) (hwW.at 5 rfl) (hwW.at 6 rfl) (hwW.at 7 rfl) (hwW.at 8 rfl) (hwW.at 9 rfl) (hwW.at 11 rfl) (hwW.at 12 rfl) (hwW.at 13 rfl) (hwW.at 14 rfl) (hwW.at 15 rfl) (hcC.l hbB 17 rfl)
     ·exact Ds15 hbB (hwW.at 0 rfl) (hwW.at 1 rfl) (hwW.at 2 rfl) (hwW.at 3 rfl) (hwW.at 4 rfl) (hwW.at 5 rfl) (hwW.at 6 rfl) (hwW.at 7 rfl) (hwW.at 8 rfl) (hwW.at 11 rfl) (hwW.at 12 rfl) (hwW.at 13 rfl) (hwW.at 14 rfl) (hcC.l hbB 16 rfl) (hcC.l hbB 17 rfl)
     ·exact Ds14 hbB (hwW.at 0 rfl) (hwW.at 1 rfl) (hwW.at 2 rfl) (hwW.at 3 rfl) (hwW.at 4 rfl) (hwW.at 5 rfl) (hwW.at 6 rfl) (hwW.at 7 rfl) (hwW.at 11 rfl) (hwW.at 12 rfl) (hwW.at 13 rfl) (hcC.l hbB 15 rfl) (hcC.l hbB 16 rfl) (hcC.l hbB 17 rfl)
     ·exact Ds4 hbB (hcC.l hbB 14 rfl) (hcC.l hbB 15 rfl) (hcC.l hbB 16 rfl) (hcC.l hbB 17 rfl)
     ·exact Ds4 hbB (hcC.l hbB 14 rfl) (hcC.l hbB 15 rfl) (hcC.l hbB 16 rfl) (hcC.l hbB 17 rfl)
     ·exact Ds4 hbB (hcC.l hbB 14 rfl) (hcC.l hbB 15 rfl) (hcC.l hbB 16 rfl) (hcC.l hbB 17 rfl)
     ·have w6 := hwW.at 6 rfl; have w5 := (hcC 6 _ rfl w6).at 5 rfl; exact Ds4 hbB ((hcC 5 _ rfl w5).at 3 rfl) w5 w6 (hcC.l hbB 17 rfl)
     ·have w6 := hwW.at 6 rfl; have w5 := (hcC 6 _ rfl w6).at 5 rfl; exact Ds5 hbB ((hcC 5 _ rfl w5).at 3 rfl) w5 w6 (hcC.l hbB 16 rfl) (hcC.l hbB 17 rfl)
     ·have w6 := hwW.at 6 rfl; have w5 := (hcC 6 _ rfl w6).at 5 rfl; exact Ds6 hbB ((hcC 5 _ rfl w5).at 3 rfl) w5 w6 (hcC.l hbB 15 rfl) (hcC.l hbB 16 rfl) (hcC.l hbB 17 rfl)
     ·have w6 := hwW.at 6 rfl; have w5 := (hcC 6 _ rfl w6).at 5 rfl; exact Ds7 hbB ((hcC 5 _ rfl w5).at 3 rfl) w5 w6 (hcC.l hbB 14 rfl) (hcC.l hbB 15 rfl) (hcC.l hbB 16 rfl) (hcC.l hbB 17 rfl)
     ·have w5 := hwW.at 5 rfl; exact Ds10 hbB ((hcC 5 _ rfl w5).at 3 rfl) w5 (hcC.l hbB 7 rfl) (hcC.l hbB 8 rfl) (hcC.l hbB 9 rfl) (hcC.l hbB 10 rfl) (hcC.l hbB 14 rfl) (hcC.l hbB 15 rfl) (hcC.l hbB 16 rfl) (hcC.l hbB 17 rfl)
     ·exact Dkpu9 hbB (hwW.at 0 rfl) (hwW.at 1 rfl) (hwW.at 3 rfl) (hwW.at 4 rfl) (hcC.l hbB 6 rfl) (hcC.l hbB 14 rfl) (hcC.l hbB 15 rfl) (hcC.l hbB 16 rfl) (hcC.l hbB 17 rfl) (hD)
     ·exact Ds5 hbB (hcC.l hbB 5 rfl) (hcC.l hbB 14 rfl) (hcC.l hbB 15 rfl) (hcC.l hbB 16 rfl) (hcC.l hbB 17 rfl)
     ·exact Dkpu6 hbB (hwW.at 2 rfl) (hcC.l hbB 5 rfl) (hcC.l hbB 14 rfl) (hcC.l hbB 15 rfl) (hcC.l hbB 16 rfl) (hcC.l hbB 17 rfl) (task_spec p k n)
     ·have l3 := hcC.l hbB 3 rfl; exact Ds6 hbB l3 (hcC.l l3 5 rfl) (hcC.l hbB 14 rfl) (hcC.l hbB 15 rfl) (hcC.l hbB 16 rfl) (hcC.l hbB 17 rfl)
     ·exact Ds5 hbB (hcC.l hbB 5 rfl) (hcC.l hbB 14 rfl) (hcC.l hbB 15 rfl) (hcC.l hbB 16 rfl) (hcC.l hbB 17 rfl)
     ·exact Ds5 hbB (hcC.l hbB 5 rfl) (hcC.l hbB 14 rfl) (hcC.l hbB 15 rfl) (hcC.l hbB 16 rfl) (hcC.l hbB 17 rfl)
    simp only [List.length_cons, List.length_nil, Nat.reduceAdd, Nat.reduceLT, decide_true, if_true]
    refine Dd0 ?_
    ((with_reducible first | refine O1 rfl (fun N hN => ?_) | refine O2 rfl rfl rfl (fun N hN => ?_)); simp only [go_sem]; refine vCall.pu _ _ (hE) ?ha71 (hN _ ?hk71); (case ha71 => (first | (simp only [go_sem]; done) | (simp only [go_sem] <;> (first | omega | ((try simp only [go_sem, List.length_append, lim, lim2]) <;> omega) | assumption | exact ints_1 _ | exact rfl | (simp [ints]; done))) | (simp [ints]; done))); clear hN N; apply Ops_eq; (simp only [go_sem]; rfl))
    refine Dd0 ?_
    ((with_reducible first | refine O1 rfl (fun N hN => ?_) | refine O2 rfl rfl rfl (fun N hN => ?_)); simp only [go_sem]; refine vCall.pu _ _ (task_spec p k n) ?ha72 (hN _ ?hk72); (case ha72 => (first | (simp only [go_sem]; done) | (simp only [go_sem] <;> (first | omega | ((try simp only [go_sem, List.length_append, lim, lim2]) <;> omega) | assumption | exact ints_1 _ | exact rfl | (simp [ints]; done))) | (simp [ints]; done))); clear hN N; apply Ops_eq; (simp only [go_sem]; rfl))
    refine Dd0 ?_
    ((with_reducible first | refine O1 rfl (fun N hN => ?_) | refine O2 rfl rfl rfl (fun N hN => ?_)); simp only [go_sem]; refine vCall.pu _ _ (hA) ?ha73 (hN _ ?hk73); (case ha73 => (first | (simp only [go_sem]; done) | (simp only [go_sem] <;> (first | omega | ((try simp only [go_sem, List.length_append, lim, lim2]) <;> omega) | assumption | exact ints_1 _ | exact rfl | (simp [ints]; done))) | (simp [ints]; done))); clear hN N; apply Ops_eq; (simp only [go_sem]; rfl))
    refine Dd0 ?_
    ((with_reducible first | refine O1 rfl (fun N hN => ?_) | refine O2 rfl rfl rfl (fun N hN => ?_)); simp only [go_sem]; refine vCall.pu _ _ (hB) ?ha74 (hN _ ?hk74); (case ha74 => (first | (simp only [go_sem]; done) | (simp only [go_sem] <;> (first | omega | ((try simp only [go_sem, List.length_append, lim, lim2]) <;> omega) | assumption | exact ints_1 _ | exact rfl | (simp [ints]; done))) | (simp [ints]; done))); clear hN N; apply Ops_eq; (simp only [go_sem]; rfl))
    refine Dd0 ?_
    refine TW_sub (Sub_bl 590295810358697263343) ?_
    refine TW_open mixed (by kernel_rfl) (fun b => ⟨[.junk, .junk, .junk, .junk, .ptr 4 0, .junk, .junk, .junk, if b 35 = true then .bool true else .bool false, .bool true, .ptr 10 0, .ptr 11 0, .ptr 12 0, .ptr 13 0, .int .i64 er, .ptr 15 0, .ptr 16 0, .ptr 17 0, .int .i64 er, .ptr 19 0, .bool is, .ptr 21 0, .bool is, .junk, .junk, .junk, .junk, .junk, .junk, .junk, .junk, .junk, .junk, .junk, .junk, .junk, .junk, .junk, .junk, .junk, .junk, .junk, .junk, .junk, .junk, .junk, .junk, .junk, .junk, .junk, .junk, .junk, .junk, .junk, .junk, .junk, .junk, .junk, .junk, .junk, .junk, .junk, .junk, .junk, .junk, .junk, .junk, .junk, .junk, if b 0 = true then .bool true else .junk, if b 1 = true then .bool true else .junk, if b 2 = true then .agg [.sl false (sms s1), .sl false (bxs b1)] else .junk, if b 3 = true then .agg [.sl false (sms s1), .sl false (bxs b1)] else .junk, if b 4 = true then .agg [.sl false (sms s1), .sl false (bxs b1)] else .junk, if b 5 = true then .bool true else .junk, if b 6 = true then .bool true else .junk, if b 7 = true then .bool true else .junk, if b 8 = true then .agg [.int .i64 kd, .int .i64 a1, .int .i64 wo, .bool gv, .int .i64 v1] else .junk, if b 9 = true then .agg [.int .i64 kd, .int .i64 a1, .int .i64 wo, .bool gv, .int .i64 v1] else .junk, if b 10 = true then .agg [.int .i64 p1, .int .i64 pc1, .int .i64 n1] else .junk, if b 11 = true then .agg [.int .i64 p1, .int .i64 pc1, .int .i64 n1] else .junk, if b 12 = true then .bool true else .junk, if b 13 = true then .bool true else .junk, if b 14 = true then .bool true else .junk, if b 15 = true then .int .i64 er else .junk, if b 16 = true then .int .i64 er else .junk, if b 17 = true then .bool true else .junk, if b 18 = true then .bool true else .junk, if b 19 = true then .bool true else .junk, if b 20 = true then .agg [.int .i64 i1, .int .i64 i2] else .junk, if b 21 = true then .agg [.int .i64 i1, .int .i64 i2] else .junk, if b 22 = true then .bool true else .junk, if b 23 = true then .bool true else .junk, if b 24 = true then .bool true else .junk, if b 25 = true then .bool is else .junk, if b 26 = true then .bool is else .junk, if b 27 = true then .bool true else .junk, if b 28 = true then .bool true else .junk, if b 29 = true then .bool true else .junk, if b 30 = true then .agg [.sl false (sms sm), .sl false (bxs bx)] else .junk, if b 31 = true then .agg [.sl false (sms sm), .sl false (bxs bx)] else .junk, if b 32 = true then .agg [.sl false (sms sm), .sl false (bxs bx)] else .junk, if b 33 = true then .bool true else .junk, if b 34 = true then .bool true else .junk], [.un, .un, .un, .un, .box [.sl false (sms sm), .sl false (bxs bx)], .un, .box [.int .i64 p, .int .i64 k, .int .i64 n], .un, .un, .un, .box [.sl false (sms sm), .sl false (bxs bx)], .box [.sl false (sms s1), .sl false (bxs b1)], .box [.int .i64 p1, .int .i64 pc1, .int .i64 n1], .box [.int .i64 kd, .int .i64 a1, .int .i64 wo, .bool gv, .int .i64 v1], .un, .box [.sl false (sms s1), .sl false (bxs b1)], .box [.int .i64 p1, .int .i64 pc1, .int .i64 n1], .box [.int .i64 kd, .int .i64 a1, .int .i64 wo, .bool gv, .int .i64 v1], .un, .box [.int .i64 i1, .int .i64 i2], .un, .box [.int .i64 i1, .int .i64 i2], .un, .un, .un, .un, .un, .un, .un, .un, .un, .un, .un, .un, .un, .un, .un, .un, .un, .un, .un, .un, .un, .un, .un, .un, .un, .un, .un, .un, .un, .un, .un, .un, .un, .un, .un, .un, .un, .un, .un, .un, .un, .un, .un, .un, .un, .un, .un, .un, .un, .un, .un, .un, .un, .un, .un, .un, .un, .un, .un, .un, .un, .un, .un, .un, .un, .un, .un, .un, .un, .un, .un, .un, .un, .un, .un, .un, .un, .un, .un, .un, .un, .un], 0⟩) rfl ?_ ?_
    ·skip
     (repeat refine Di ?_ (fun b hwW hbB hcC => ?_)); (exact trivial)
     ·exact Ds36 hbB (hwW.at 0 rfl) (hwW.at 1 rfl) (hwW.at 2 rfl) (hwW.at 3 rfl) (hwW.at 4 rfl) (hwW.at 5 rfl) (hwW.at 6 rfl) (hwW.at 7 rfl) (hwW.at 8 rfl) (hwW.at 9 rfl) (hwW.at 10 rfl) (hwW.at 11 rfl) (hwW.at 12 rfl) (hwW.at 13 rfl) (hwW.at 14 rfl) (hwW.at 15 rfl) (hwW.at 16 rfl) (hwW.at 17 rfl) (hwW.at 18 rfl) (hwW.at 19 rfl) (hwW.at 20 rfl) (hwW.at 21 rfl) (hwW.at 22 rfl) (hwW.at 23 rfl) (hwW.at 24 rfl) (hwW.at 25 rfl) (hwW.at 26 rfl) (hwW.at 27 rfl) (hwW.at 28 rfl) (hwW.at 29 rfl) (hwW.at 30 rfl) (hwW.at 31 rfl) (hwW.at 32 rfl) (hwW.at 33 rfl) (hwW.at 34 rfl) @hs
     ·have w29 := hwW.at 29 rfl; have w33 := hwW.at 33 rfl; have w28 := (hcC 29 _ rfl w29).at 28 rfl; have w24 := (hcC 28 _ rfl w28).at 24 rfl; have w23 := (hcC 24 _ rfl w24).at 23 rfl; have w19 := (hcC 23 _ rfl w23).at 19 rfl; have w18 := (hcC 19 _ rfl w19).at 18 rfl; have w14 := (hcC 18 _ rfl w18).at 14 rfl; have w13 := (hcC 14 _ rfl w14).at 13 rfl; have w12 := (hcC 13 _ rfl w13).at 12 rfl; have w7 := (hcC 12 _ rfl w12).at 7 rfl; have w6 := (hcC 7 _ rfl w7).at 6 rfl; have w5 := (hcC 6 _ rfl w6).at 5 rfl; exact Ds8 hbB ((hcC 5 _ rfl w5).at 3 rfl) w5 w12 w29 ((hcC 33 _ rfl w33).at 31 rfl) w33 (hcC.l hbB 35 rfl) @hs
     ·have w29 := hwW.at 29 rfl; have w28 := (hcC 29 _ rfl w29).at 28 rfl; have w24 := (hcC 28 _ rfl w28).at 24 rfl; have w23 := (hcC 24 _ rfl w24).at 23 rfl; have w19 := (hcC 23 _ rfl w23).at 19 rfl; have w18 := (hcC 19 _ rfl w19).at 18 rfl; have w14 := (hcC 18 _ rfl w18).at 14 rfl; have w13 := (hcC 14 _ rfl w14).at 13 rfl; have w12 := (hcC 13 _ rfl w13).at 12 rfl; have w7 := (hcC 12 _ rfl w12).at 7 rfl; have w6 := (hcC 7 _ rfl w7).at 6 rfl; have w5 := (hcC 6 _ rfl w6).at 5 rfl; exact Dksc9 hbB ((hcC 5 _ rfl w5).at 3 rfl) w5 w12 w29 (hwW.at 31 rfl) (hwW.at 32 rfl) (hcC.l hbB 34 rfl) (hcC.l hbB 35 rfl) @hs (msame_spec sm bx u1 u2 u3 u6)
     ·have w29 := hwW.at 29 rfl; have w28 := (hcC 29 _ rfl w29).at 28 rfl; have w24 := (hcC 28 _ rfl w28).at 24 rfl; have w23 := (hcC 24 _ rfl w24).at 23 rfl; have w19 := (hcC 23 _ rfl w23).at 19 rfl; have w18 := (hcC 19 _ rfl w19).at 18 rfl; have w14 := (hcC 18 _ rfl w18).at 14 rfl; have w13 := (hcC 14 _ rfl w14).at 13 rfl; have w12 := (hcC 13 _ rfl w13).at 12 rfl; have w7 := (hcC 12 _ rfl w12).at 7 rfl; have w6 := (hcC 7 _ rfl w7).at 6 rfl; have w5 := (hcC 6 _ rfl w6).at 5 rfl; exact Ds7 hbB ((hcC 5 _ rfl w5).at 3 rfl) w5 w12 w29 (hcC.l hbB 33 rfl) (hcC.l hbB 35 rfl) @hs
     ·have w29 := hwW.at 29 rfl; have w28 := (hcC 29 _ rfl w29).at 28 rfl; have w24 := (hcC 28 _ rfl w28).at 24 rfl; have w23 := (hcC 24 _ rfl w24).at 23 rfl; have w19 := (hcC 23 _ rfl w23).at 19 rfl; have w18 := (hcC 19 _ rfl w19).at 18 rfl; have w14 := (hcC 18 _ rfl w18).at 14 rfl; have w13 := (hcC 14 _ rfl w14).at 13 rfl; have w12 := (hcC 13 _ rfl w13).at 12 rfl; have w7 := (hcC 12 _ rfl w12).at 7 rfl; have w6 := (hcC 7 _ rfl w7).at 6 rfl; have w5 := (hcC 6 _ rfl w6).at 5 rfl; exact Dkpu8 hbB ((hcC 5 _ rfl w5).at 3 rfl) w5 w12 w29 (hwW.at 30 rfl) (hcC.l hbB 33 rfl) (hcC.l hbB 35 rfl) @hs (real_spec sm bx u1 u2 u4)
     ·have w29 := hwW.at 29 rfl; have w28 := (hcC 29 _ rfl w29).at 28 rfl; have w24 := (hcC 28 _ rfl w28).at 24 rfl; have w23 := (hcC 24 _ rfl w24).at 23 rfl; have w19 := (hcC 23 _ rfl w23).at 19 rfl; have w18 := (hcC 19 _ rfl w19).at 18 rfl; have w14 := (hcC 18 _ rfl w18).at 14 rfl; have w13 := (hcC 14 _ rfl w14).at 13 rfl; have w12 := (hcC 13 _ rfl w13).at 12 rfl; have w7 := (hcC 12 _ rfl w12).at 7 rfl; have w6 := (hcC 7 _ rfl w7).at 6 rfl; have w5 := (hcC 6 _ rfl w6).at 5 rfl; have l31 := hcC.l hbB 31 rfl; exact Ds8 hbB ((hcC 5 _ rfl w5).at 3 rfl) w5 w12 w29 l31 (hcC.l l31 33 rfl) (hcC.l hbB 35 rfl) @hs
     ·have w24 := hwW.at 24 rfl; have w23 := (hcC 24 _ rfl w24).at 23 rfl; have w19 := (hcC 23 _ rfl w23).at 19 rfl; have w18 := (hcC 19 _ rfl w19).at 18 rfl; have w14 := (hcC 18 _ rfl w18).at 14 rfl; have w13 := (hcC 14 _ rfl w14).at 13 rfl; have w12 := (hcC 13 _ rfl w13).at 12 rfl; have w7 := (hcC 12 _ rfl w12).at 7 rfl; have w6 := (hcC 7 _ rfl w7).at 6 rfl; have w5 := (hcC 6 _ rfl w6).at 5 rfl; exact Ds12 hbB ((hcC 5 _ rfl w5).at 3 rfl) w5 w12 w24 (hwW.at 28 rfl) (hcC.l hbB 30 rfl) (hcC.l hbB 31 rfl) (hcC.l hbB 32 rfl) (hcC.l hbB 33 rfl) (hcC.l hbB 34 rfl) (hcC.l hbB 35 rfl) @hs
     ·have w24 := hwW.at 24 rfl; have w23 := (hcC 24 _ rfl w24).at 23 rfl; have w19 := (hcC 23 _ rfl w23).at 19 rfl; have w18 := (hcC 19 _ rfl w19).at 18 rfl; have w14 := (hcC 18 _ rfl w18).at 14 rfl; have w13 := (hcC 14 _ rfl w14).at 13 rfl; have w12 := (hcC 13 _ rfl w13).at 12 rfl; have w7 := (hcC 12 _ rfl w12).at 7 rfl; have w6 := (hcC 7 _ rfl w7).at 6 rfl; have w5 := (hcC 6 _ rfl w6).at 5 rfl; have l29 := hcC.l hbB 29 rfl; exact Ds10 hbB ((hcC 5 _ rfl w5).at 3 rfl) w5 w12 w24 (hwW.at 27 rfl) l29 (hcC.l l29 31 rfl) (hcC.l l29 33 rfl) (hcC.l hbB 35 rfl) @hs
     ·have w24 := hwW.at 24 rfl; have w23 := (hcC 24 _ rfl w24).at 23 rfl; have w19 := (hcC 23 _ rfl w23).at 19 rfl; have w18 := (hcC 19 _ rfl w19).at 18 rfl; have w14 := (hcC 18 _ rfl w18).at 14 rfl; have w13 := (hcC 14 _ rfl w14).at 13 rfl; have w12 := (hcC 13 _ rfl w13).at 12 rfl; have w7 := (hcC 12 _ rfl w12).at 7 rfl; have w6 := (hcC 7 _ rfl w7).at 6 rfl; have w5 := (hcC 6 _ rfl w6).at 5 rfl; have l28 := hcC.l hbB 28 rfl; have l29 := hcC.l l28 29 rfl; exact Ds11 hbB ((hcC 5 _ rfl w5).at 3 rfl) w5 w12 w24 (hwW.at 25 rfl) (hwW.at 26 rfl) l28 (hcC.l l29 31 rfl) (hcC.l l29 33 rfl) (hcC.l hbB 35 rfl) @hs
     ·have w24 := hwW.at 24 rfl; have w23 := (hcC 24 _ rfl w24).at 23 rfl; have w19 := (hcC 23 _ rfl w23).at 19 rfl; have w18 := (hcC 19 _ rfl w19).at 18 rfl; have w14 := (hcC 18 _ rfl w18).at 14 rfl; have w13 := (hcC 14 _ rfl w14).at 13 rfl; have w12 := (hcC 13 _ rfl w13).at 12 rfl; have w7 := (hcC 12 _ rfl w12).at 7 rfl; have w6 := (hcC 7 _ rfl w7).at 6 rfl; have w5 := (hcC 6 _ rfl w6).at 5 rfl; have l27 := hcC.l hbB 27 rfl; have l28 := hcC.l l27 28 rfl; have l29 := hcC.l l28 29 rfl; exact Ds9 hbB ((hcC 5 _ rfl w5).at 3 rfl) w5 w12 w24 l27 (hcC.l l29 31 rfl) (hcC.l l29 33 rfl) (hcC.l hbB 35 rfl) @hs
     ·have w24 := hwW.at 24 rfl; have w23 := (hcC 24 _ rfl w24).at 23 rfl; have w19 := (hcC 23 _ rfl w23).at 19 rfl; have w18 := (hcC 19 _ rfl w19).at 18 rfl; have w14 := (hcC 18 _ rfl w18).at 14 rfl; have w13 := (hcC 14 _ rfl w14).at 13 rfl; have w12 := (hcC 13 _ rfl w13).at 12 rfl; have w7 := (hcC 12 _ rfl w12).at 7 rfl; have w6 := (hcC 7 _ rfl w7).at 6 rfl; have w5 := (hcC 6 _ rfl w6).at 5 rfl; have l27 := hcC.l hbB 27 rfl; have l28 := hcC.l l27 28 rfl; have l29 := hcC.l l28 29 rfl; exact Ds9 hbB ((hcC 5 _ rfl w5).at 3 rfl) w5 w12 w24 l27 (hcC.l l29 31 rfl) (hcC.l l29 33 rfl) (hcC.l hbB 35 rfl) @hs
     ·have w19 := hwW.at 19 rfl; have w18 := (hcC 19 _ rfl w19).at 18 rfl; have w14 := (hcC 18 _ rfl w18).at 14 rfl; have w13 := (hcC 14 _ rfl w14).at 13 rfl; have w12 := (hcC 13 _ rfl w13).at 12 rfl; have w7 := (hcC 12 _ rfl w12).at 7 rfl; have w6 := (hcC 7 _ rfl w7).at 6 rfl; have w5 := (hcC 6 _ rfl w6).at 5 rfl; have l29 := hcC.l hbB 29 rfl; exact Ds14 hbB ((hcC 5 _ rfl w5).at 3 rfl) w5 w12 w19 (hwW.at 23 rfl) (hcC.l hbB 25 rfl) (hcC.l hbB 26 rfl) (hcC.l hbB 27 rfl) (hcC.l hbB 28 rfl) l29 (hcC.l l29 31 rfl) (hcC.l l29 33 rfl) (hcC.l hbB 35 rfl) @hs
     ·have w19 := hwW.at 19 rfl; have w18 := (hcC 19 _ rfl w19).at 18 rfl; have w14 := (hcC 18 _ rfl w18).at 14 rfl; have w13 := (hcC 14 _ rfl w14).at 13 rfl; have w12 := (hcC 13 _ rfl w13).at 12 rfl; have w7 := (hcC 12 _ rfl w12).at 7 rfl; have w6 := (hcC 7 _ rfl w7).at 6 rfl; have w5 := (hcC 6 _ rfl w6).at 5 rfl; have l24 := hcC.l hbB 24 rfl; have l29 := hcC.l l24 29 rfl; exact Ds10 hbB ((hcC 5 _ rfl w5).at 3 rfl) w5 w12 w19 (hwW.at 22 rfl) l24 (hcC.l l29 31 rfl) (hcC.l l29 33 rfl) (hcC.l hbB 35 rfl) @hs
     ·have w19 := hwW.at 19 rfl; have w18 := (hcC 19 _ rfl w19).at 18 rfl; have w14 := (hcC 18 _ rfl w18).at 14 rfl; have w13 := (hcC 14 _ rfl w14).at 13 rfl; have w12 := (hcC 13 _ rfl w13).at 12 rfl; have w7 := (hcC 12 _ rfl w12).at 7 rfl; have w6 := (hcC 7 _ rfl w7).at 6 rfl; have w5 := (hcC 6 _ rfl w6).at 5 rfl; have l23 := hcC.l hbB 23 rfl; have l24 := hcC.l l23 24 rfl; have l29 := hcC.l l24 29 rfl; exact Ds11 hbB ((hcC 5 _ rfl w5).at 3 rfl) w5 w12 w19 (hwW.at 20 rfl) (hwW.at 21 rfl) l23 (hcC.l l29 31 rfl) (hcC.l l29 33 rfl) (hcC.l hbB 35 rfl) @hs
     ·have w19 := hwW.at 19 rfl; have w18 := (hcC 19 _ rfl w19).at 18 rfl; have w14 := (hcC 18 _ rfl w18).at 14 rfl; have w13 := (hcC 14 _ rfl w14).at 13 rfl; have w12 := (hcC 13 _ rfl w13).at 12 rfl; have w7 := (hcC 12 _ rfl w12).at 7 rfl; have w6 := (hcC 7 _ rfl w7).at 6 rfl; have w5 := (hcC 6 _ rfl w6).at 5 rfl; have l22 := hcC.l hbB 22 rfl; have l23 := hcC.l l22 23 rfl; have l24 := hcC.l l23 24 rfl; have l29 := hcC.l l24 29 rfl; exact Ds9 hbB ((hcC 5 _ rfl w5).at 3 rfl) w5 w12 w19 l22 (hcC.l l29 31 rfl) (hcC.l l29 33 rfl) (hcC.l hbB 35 rfl) @hs
     ·have w19 := hwW.at 19 rfl; have w18 := (hcC 19 _ rfl w19).at 18 rfl; have w14 := (hcC 18 _ rfl w18).at 14 rfl; have w13 := (hcC 14 _ rfl w14).at 13 rfl; have w12 := (hcC 13 _ rfl w13).at 12 rfl; have w7 := (hcC 12 _ rfl w12).at 7 rfl; have w6 := (hcC 7 _ rfl w7).at 6 rfl; have w5 := (hcC 6 _ rfl w6).at 5 rfl; have l22 := hcC.l hbB 22 rfl; have l23 := hcC.l l22 23 rfl; have l24 := hcC.l l23 24 rfl; have l29 := hcC.l l24 29 rfl; exact Ds9 hbB ((hcC 5 _ rfl w5).at 3 rfl) w5 w12 w19 l22 (hcC.l l29 31 rfl) (hcC.l l29 33 rfl) (hcC.l hbB 35 rfl) @hs
     ·have w14 := hwW.at 14 rfl; have w13 := (hcC 14 _ rfl w14).at 13 rfl; have w12 := (hcC 13 _ rfl w13).at 12 rfl; have w7 := (hcC 12 _ rfl w12).at 7 rfl; have w6 := (hcC 7 _ rfl w7).at 6 rfl; have w5 := (hcC 6 _ rfl w6).at 5 rfl; have l24 := hcC.l hbB 24 rfl; have l29 := hcC.l l24 29 rfl; exact Ds14 hbB ((hcC 5 _ rfl w5).at 3 rfl) w5 w12 w14 (hwW.at 18 rfl) (hcC.l hbB 20 rfl) (hcC.l hbB 21 rfl) (hcC.l hbB 22 rfl) (hcC.l hbB 23 rfl) l24 (hcC.l l29 31 rfl) (hcC.l l29 33 rfl) (hcC.l hbB 35 rfl) @hs
     ·have w14 := hwW.at 14 rfl; have w13 := (hcC 14 _ rfl w14).at 13 rfl; have w12 := (hcC 13 _ rfl w13).at 12 rfl; have w7 := (hcC 12 _ rfl w12).at 7 rfl; have w6 := (hcC 7 _ rfl w7).at 6 rfl; have w5 := (hcC 6 _ rfl w6).at 5 rfl; have l19 := hcC.l hbB 19 rfl; have l24 := hcC.l l19 24 rfl; have l29 := hcC.l l24 29 rfl; exact Ds10 hbB ((hcC 5 _ rfl w5).at 3 rfl) w5 w12 w14 (hwW.at 17 rfl) l19 (hcC.l l29 31 rfl) (hcC.l l29 33 rfl) (hcC.l hbB 35 rfl) @hs
     ·have w14 := hwW.at 14 rfl; have w13 := (hcC 14 _ rfl w14).at 13 rfl; have w12 := (hcC 13 _ rfl w13).at 12 rfl; have w7 := (hcC 12 _ rfl w12).at 7 rfl; have w6 := (hcC 7 _ rfl w7).at 6 rfl; have w5 := (hcC 6 _ rfl w6).at 5 rfl; have l18 := hcC.l hbB 18 rfl; have l19 := hcC.l l18 19 rfl; have l24 := hcC.l l19 24 rfl; have l29 := hcC.l l24 29 rfl; exact Ds11 hbB ((hcC 5 _ rfl w5).at 3 rfl) w5 w12 w14 (hwW.at 15 rfl) (hwW.at 16 rfl) l18 (hcC.l l29 31 rfl) (hcC.l l29 33 rfl) (hcC.l hbB 35 rfl) @hs
     ·have w14 := hwW.at 14 rfl; have w13 := (hcC 14 _ rfl w14).at 13 rfl; have w12 := (hcC 13 _ rfl w13).at 12 rfl; have w7 := (hcC 12 _ rfl w12).at 7 rfl; have w6 := (hcC 7 _ rfl w7).at 6 rfl; have w5 := (hcC 6 _ rfl w6).at 5 rfl; have l17 := hcC.l hbB 17 rfl; have l18 := hcC.l l17 18 rfl; have l19 := hcC.l l18 19 rfl; have l24 := hcC.l l19 24 rfl; have l29 := hcC.l l24 29 rfl; exact Ds9 hbB ((hcC 5 _ rfl w5).at 3 rfl) w5 w12 w14 l17 (hcC.l l29 31 rfl) (hcC.l l29 33 rfl) (hcC.l hbB 35 rfl) @hs
     ·have w14 := hwW.at 14 rfl; have w13 := (hcC 14 _ rfl w14).at 13 rfl; have w12 := (hcC 13 _ rfl w13).at 12 rfl; have w7 := (hcC 12 _ rfl w12).at 7 rfl; have w6 := (hcC 7 _ rfl w7).at 6 rfl; have w5 := (hcC 6 _ rfl w6).at 5 rfl; have l17 := hcC.l hbB 17 rfl; have l18 := hcC.l l17 18 rfl; have l19 := hcC.l l18 19 rfl; have l24 := hcC.l l19 24 rfl; have l29 := hcC.l l24 29 rfl; exact Ds9 hbB ((hcC 5 _ rfl w5).at 3 rfl) w5 w12 w14 l17 (hcC.l l29 31 rfl) (hcC.l l29 33 rfl) (hcC.l hbB 35 rfl) @hs
     ·have w12 := hwW.at 12 rfl; have w7 := (hcC 12 _ rfl w12).at 7 rfl; have w6 := (hcC 7 _ rfl w7).at 6 rfl; have w5 := (hcC 6 _ rfl w6).at 5 rfl; have l19 := hcC.l hbB 19 rfl; have l24 := hcC.l l19 24 rfl; have l29 := hcC.l l24 29 rfl; exact Ds13 hbB ((hcC 5 _ rfl w5).at 3 rfl) w5 w12 (hwW.at 13 rfl) (hcC.l hbB 15 rfl) (hcC.l hbB 16 rfl) (hcC.l hbB 17 rfl) (hcC.l hbB 18 rfl) l19 (hcC.l l29 31 rfl) (hcC.l l29 33 rfl) (hcC.l hbB 35 rfl) @hs
     ·have w7 := hwW.at 7 rfl; have w6 := (hcC 7 _ rfl w7).at 6 rfl; have w5 := (hcC 6 _ rfl w6).at 5 rfl; have l14 := hcC.l hbB 14 rfl; have l19 := hcC.l l14 19 rfl; have l24 := hcC.l l19 24 rfl; have l29 := hcC.l l24 29 rfl; exact Ds9 hbB ((hcC 5 _ rfl w5).at 3 rfl) w5 w7 (hwW.at 12 rfl) l14 (hcC.l l29 31 rfl) (hcC.l l29 33 rfl) (hcC.l hbB 35 rfl) @hs
     ·have w7 := hwW.at 7 rfl; have w6 := (hcC 7 _ rfl w7).at 6 rfl; have w5 := (hcC 6 _ rfl w6).at 5 rfl; have l14 := hcC.l hbB 14 rfl; have l19 := hcC.l l14 19 rfl; have l24 := hcC.l l19 24 rfl; have l29 := hcC.l l24 29 rfl; exact Dksc13 hbB ((hcC 5 _ rfl w5).at 3 rfl) w5 w7 (hwW.at 8 rfl) (hwW.at 9 rfl) (hwW.at 10 rfl) (hwW.at 11 rfl) (hcC.l hbB 13 rfl) l14 (hcC.l l29 31 rfl) (hcC.l l29 33 rfl) (hcC.l hbB 35 rfl) @hs (esame_spec kd a1 wo gv v1 p1 pc1 n1)
     ·have w7 := hwW.at 7 rfl; have w6 := (hcC 7 _ rfl w7).at 6 rfl; have w5 := (hcC 6 _ rfl w6).at 5 rfl; have l12 := hcC.l hbB 12 rfl; have l14 := hcC.l l12 14 rfl; have l19 := hcC.l l14 19 rfl; have l24 := hcC.l l19 24 rfl; have l29 := hcC.l l24 29 rfl; exact Ds8 hbB ((hcC 5 _ rfl w5).at 3 rfl) w5 w7 l12 (hcC.l l29 31 rfl) (hcC.l l29 33 rfl) (hcC.l hbB 35 rfl) @hs
     ·have w7 := hwW.at 7 rfl; have w6 := (hcC 7 _ rfl w7).at 6 rfl; have w5 := (hcC 6 _ rfl w6).at 5 rfl; have l12 := hcC.l hbB 12 rfl; have l14 := hcC.l l12 14 rfl; have l19 := hcC.l l14 19 rfl; have l24 := hcC.l l19 24 rfl; have l29 := hcC.l l24 29 rfl; exact Ds8 hbB ((hcC 5 _ rfl w5).at 3 rfl) w5 w7 l12 (hcC.l l29 31 rfl) (hcC.l l29 33 rfl) (hcC.l hbB 35 rfl) @hs
     ·have w7 := hwW.at 7 rfl; have w6 := (hcC 7 _ rfl w7).at 6 rfl; have w5 := (hcC 6 _ rfl w6).at 5 rfl; have l12 := hcC.l hbB 12 rfl; have l14 := hcC.l l12 14 rfl; have l19 := hcC.l l14 19 rfl; have l24 := hcC.l l19 24 rfl; have l29 := hcC.l l24 29 rfl; exact Ds8 hbB ((hcC 5 _ rfl w5).at 3 rfl) w5 w7 l12 (hcC.l l29 31 rfl) (hcC.l l29 33 rfl) (hcC.l hbB 35 rfl) @hs
     ·have w7 := hwW.at 7 rfl; have w6 := (hcC 7 _ rfl w7).at 6 rfl; have w5 := (hcC 6 _ rfl w6).at 5 rfl; have l12 := hcC.l hbB 12 rfl; have l14 := hcC.l l12 14 rfl; have l19 := hcC.l l14 19 rfl; have l24 := hcC.l l19 24 rfl; have l29 := hcC.l l24 29 rfl; exact Ds8 hbB ((hcC 5 _ rfl w5).at 3 rfl) w5 w7 l12 (hcC.l l29 31 rfl) (hcC.l l29 33 rfl) (hcC.l hbB 35 rfl) @hs
     ·have w5 := hwW.at 5 rfl; have l12 := hcC.l hbB 12 rfl; have l14 := hcC.l l12 14 rfl; have l19 := hcC.l l14 19 rfl; have l24 := hcC.l l19 24 rfl; have l29 := hcC.l l24 29 rfl; exact Ds13 hbB ((hcC 5 _ rfl w5).at 3 rfl) w5 (hwW.at 6 rfl) (hcC.l hbB 8 rfl) (hcC.l hbB 9 rfl) (hcC.l hbB 10 rfl) (hcC.l hbB 11 rfl) l12 (hcC.l hbB 13 rfl) (hcC.l l29 31 rfl) (hcC.l l29 33 rfl) (hcC.l hbB 35 rfl) @hs
     ·have w5 := hwW.at 5 rfl; have l7 := hcC.l hbB 7 rfl; have l12 := hcC.l l7 12 rfl; have l14 := hcC.l l12 14 rfl; have l19 := hcC.l l14 19 rfl; have l24 := hcC.l l19 24 rfl; have l29 := hcC.l l24 29 rfl; exact Ds9 hbB (hwW.at 1 rfl) ((hcC 5 _ rfl w5).at 3 rfl) w5 l7 l12 (hcC.l l29 31 rfl) (hcC.l l29 33 rfl) (hcC.l hbB 35 rfl) @hs
     ·have l7 := hcC.l hbB 7 rfl; have l12 := hcC.l l7 12 rfl; have l14 := hcC.l l12 14 rfl; have l19 := hcC.l l14 19 rfl; have l24 := hcC.l l19 24 rfl; have l29 := hcC.l l24 29 rfl; exact Dksc10 hbB (hwW.at 1 rfl) (hwW.at 3 rfl) (hwW.at 4 rfl) (hcC.l hbB 6 rfl) l7 l12 (hcC.l l29 31 rfl) (hcC.l l29 33 rfl) (hcC.l hbB 35 rfl) @hs (msame_spec s1 b1 y1 y2 y3 y6)
     ·have l5 := hcC.l hbB 5 rfl; have l7 := hcC.l l5 7 rfl; have l12 := hcC.l l7 12 rfl; have l14 := hcC.l l12 14 rfl; have l19 := hcC.l l14 19 rfl; have l24 := hcC.l l19 24 rfl; have l29 := hcC.l l24 29 rfl; exact Ds7 hbB (hwW.at 1 rfl) l5 l12 (hcC.l l29 31 rfl) (hcC.l l29 33 rfl) (hcC.l hbB 35 rfl) @hs
     ·have l5 := hcC.l hbB 5 rfl; have l7 := hcC.l l5 7 rfl; have l12 := hcC.l l7 12 rfl; have l14 := hcC.l l12 14 rfl; have l19 := hcC.l l14 19 rfl; have l24 := hcC.l l19 24 rfl; have l29 := hcC.l l24 29 rfl; exact Dkpu8 hbB (hwW.at 1 rfl) (hwW.at 2 rfl) l5 l12 (hcC.l l29 31 rfl) (hcC.l l29 33 rfl) (hcC.l hbB 35 rfl) @hs (real_spec s1 b1 y1 y2 y4)
     ·have l3 := hcC.l hbB 3 rfl; have l5 := hcC.l l3 5 rfl; have l7 := hcC.l l5 7 rfl; have l12 := hcC.l l7 12 rfl; have l14 := hcC.l l12 14 rfl; have l19 := hcC.l l14 19 rfl; have l24 := hcC.l l19 24 rfl; have l29 := hcC.l l24 29 rfl; exact Ds8 hbB (hwW.at 1 rfl) l3 l5 l12 (hcC.l l29 31 rfl) (hcC.l l29 33 rfl) (hcC.l hbB 35 rfl) @hs
     ·have l5 := hcC.l hbB 5 rfl; have l7 := hcC.l l5 7 rfl; have l12 := hcC.l l7 12 rfl; have l14 := hcC.l l12 14 rfl; have l19 := hcC.l l14 19 rfl; have l24 := hcC.l l19 24 rfl; have l29 := hcC.l l24 29 rfl; exact Ds11 hbB (hwW.at 0 rfl) (hcC.l hbB 2 rfl) (hcC.l hbB 3 rfl) (hcC.l hbB 4 rfl) l5 (hcC.l hbB 6 rfl) l12 (hcC.l l29 31 rfl) (hcC.l l29 33 rfl) (hcC.l hbB 35 rfl) @hs
     ·have l1 := hcC.l hbB 1 rfl; have l5 := hcC.l l1 5 rfl; have l7 := hcC.l l5 7 rfl; have l12 := hcC.l l7 12 rfl; have l14 := hcC.l l12 14 rfl; have l19 := hcC.l l14 19 rfl; have l24 := hcC.l l19 24 rfl; have l29 := hcC.l l24 29 rfl; exact Ds8 hbB l1 (hcC.l l1 3 rfl) l5 l12 (hcC.l l29 31 rfl) (hcC.l l29 33 rfl) (hcC.l hbB 35 rfl) @hs
    simp only [List.length_cons, List.length_nil, Nat.reduceAdd, Nat.reduceLT, decide_true, if_true]
    refine Dd1 @hs ?_
    (refine ⟨by simp, ?_⟩; simp only [go_sem, Try.results3])
  ·have hd : decide ((P.length : Int) > 20) = true := decide_eq_true (by omega)
   refine Ret_of_body Try.func3 (by kernel_rfl) rfl ?_; rw [Try.ntmps3]
   refine Dd0 ?_
   ((with_reducible first | refine O1 rfl (fun N hN => ?_) | refine O2 rfl rfl rfl (fun N hN => ?_)); simp only [go_sem]; refine vCall.sc _ _ (shown_spec) ?ha75 rfl (hN _ ?hk75); (case ha75 => (first | (simp only [go_sem]; done) | (simp only [go_sem] <;> (first | omega | ((try simp only [go_sem, List.length_append, lim, lim2]) <;> omega) | assumption | exact ints_1 _ | exact rfl | (simp [ints]; done))) | (simp [ints]; done))); clear hN N; apply Ops_eq; (simp only [go_sem]; rfl))
   refine Dd0 ?_
   ((with_reducible first | refine O1 rfl (fun N hN => ?_) | refine O2 rfl rfl rfl (fun N hN => ?_)); simp only [go_sem, hf]; refine vCall.sc _ _ (fine_spec sm bx hm) ?ha76 rfl (hN _ ?hk76); (case ha76 => (first | (simp only [go_sem, hf]; done) | (simp only [go_sem, hf] <;> (first | omega | ((try simp only [go_sem, hf, List.length_append, lim, lim2]) <;> omega) | assumption | exact ints_1 _ | exact rfl | (simp [ints]; done))) | (simp [ints]; done))); clear hN N; apply Ops_eq; (simp only [go_sem, hf]; rfl))
   refine Dd1 @hd ?_
   refine TW_cond rfl (fun hc => ?_) (fun hc => ?_)
   ·refine Dd0 ?_
    (refine ⟨by simp, ?_⟩; simp only [go_sem, Try.results3])
   ·simp at hc

end Go.Proofs.YtodfkdnkgedgeaaT
