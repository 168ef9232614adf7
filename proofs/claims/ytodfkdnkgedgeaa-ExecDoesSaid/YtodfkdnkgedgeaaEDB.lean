/- Walks over the program's functions, on values without memory, and what they come to. No condition. -/
import Derived.Test.YtodfkdnkgedgeaaTw25
import Derived.Test.YtodfkdnkgedgeaaBase
import Derived.Test.YtodfkdnkgedgeaaTw19
import Derived.Test.YtodfkdnkgedgeaaQA
import Derived.Test.YtodfkdnkgedgeaaQB
import Derived.Test.YtodfkdnkgedgeaaEDA
set_option linter.unusedVariables false
set_option linter.unusedSimpArgs false
namespace Go.Proofs.YtodfkdnkgedgeaaT
open Go Go.Proofs Go.RowKit Go.Proofs.YtodfkdnkgedgeaaT.Ty
attribute [local go_sem] vOp vCut eqv put hset ev vNew enterSt AV.solid AV.cells AV.leaf AV.pure AV.pures AV.scalar AV.scalars ofVal ofLeaf vLoad takeA vStore vBin vBuiltin elems vSlice intAt fillA fillR splice dense fills frz frzL names namesL fix frzH frzHL le leL vRes oneRes
attribute [local go_sem] c1 s1 a1 b1 z1 o1 i1 c2 s2 a2 b2 z2 o2 i2 u2 c3 s3 a3 b3 z3 o3 i3 u3 c4 s4 a4 b4 z4 o4 i4 u4 c5 s5 a5 b5 z5 o5 i5 u5 c6 s6 a6 b6 z6 o6 i6 u6 c7 s7 a7 b7 z7 o7 f7_0 f7_1 f7_2 f7_3 q7 fo7 r7 i7 c8 s8 a8 b8 z8 o8 f8_0 f8_1 f8_2 f8_3 q8 fo8 r8 i8 c9 s9 a9 b9 z9 o9 i9 u9 c10 s10 a10 b10 z10 o10 i10 u10 c11 s11 a11 b11 z11 o11 i11 u11 c12 s12 a12 b12 z12 o12 i12 u12 c13 s13 a13 b13 z13 o13 f13_0 f13_1 fo13 r13 i13 c14 s14 a14 b14 z14 o14 f14_0 f14_1 fo14 r14 i14 c15 s15 a15 b15 z15 o15 p15 i15 c16 s16 a16 b16 z16 o16 p16 i16 c17 s17 a17 b17 z17 o17 p17 i17 c18 s18 a18 b18 z18 o18 f18_0 fo18 r18 i18 c19 s19 a19 b19 z19 o19 f19_0 fo19 r19 i19 c21 s21 a21 b21 z21 o21 i21 u21 c22 s22 a22 b22 z22 o22 e22 u22 i22 c23 s23 a23 b23 z23 o23 e23 u23 i23 c24 s24 a24 b24 z24 o24 f24_0 f24_1 fo24 r24 i24 c25 s25 a25 b25 z25 o25 f25_0 f25_1 fo25 r25 i25 c26 s26 a26 b26 z26 o26 e26 u26 i26 c27 s27 a27 b27 z27 o27 f27_0 f27_1 f27_2 q27 fo27 r27 i27 c28 s28 a28 b28 z28 o28 f28_0 f28_1 f28_2 q28 fo28 r28 i28 c29 s29 a29 b29 z29 o29 i29 c30 s30 a30 b30 z30 o30 i30 c31 s31 a31 b31 z31 o31 e31 u31 i31 c32 s32 a32 b32 z32 o32 e32 u32 i32 c33 s33 a33 b33 z33 o33 f33_0 f33_1 fo33 r33 i33 c34 s34 a34 b34 z34 o34 f34_0 f34_1 fo34 r34 i34 c35 s35 a35 b35 z35 o35 i35 c36 s36 a36 b36 z36 o36 f36_0 f36_1 f36_2 q36 fo36 r36 i36 c37 s37 a37 b37 z37 o37 f37_0 f37_1 f37_2 f37_3 f37_4 q37 fo37 r37 i37 c38 s38 a38 b38 z38 o38 f38_0 f38_1 f38_2 f38_3 f38_4 q38 fo38 r38 i38 c39 s39 a39 b39 z39 o39 i39 u39 c41 s41 a41 b41 z41 o41 i41 c42 s42 a42 b42 z42 o42 i42 c43 s43 a43 b43 z43 o43 f43_0 f43_1 f43_2 f43_3 f43_4 q43 fo43 r43 i43 c45 s45 a45 b45 z45 o45 i45 c46 s46 a46 b46 z46 o46 f46_0 f46_1 q46 fo46 r46 i46 c47 s47 a47 b47 z47 o47 f47_0 f47_1 q47 fo47 r47 i47 c49 s49 a49 b49 z49 o49 i49 c50 s50 a50 b50 z50 o50 i50 c51 s51 a51 b51 z51 o51 i51 c52 s52 a52 b52 z52 o52 i52 c53 s53 a53 b53 z53 o53 i53 c54 s54 a54 b54 z54 o54 i54 c55 s55 a55 b55 z55 o55 e55 u55 i55 c57 s57 a57 b57 z57 o57 i57 c59 s59 a59 b59 z59 o59 i59 c60 s60 a60 b60 z60 o60 i60 c61 s61 a61 b61 z61 o61 i61 c62 s62 a62 b62 z62 o62 i62 c63 s63 a63 b63 z63 o63 f63_0 f63_1 fo63 r63 i63 c64 s64 a64 b64 z64 o64 f64_0 f64_1 fo64 r64 i64 c65 s65 a65 b65 z65 o65 e65 u65 i65 c66 s66 a66 b66 z66 o66 e66 u66 i66 c67 s67 a67 b67 z67 o67 f67_0 f67_1 f67_2 f67_3 fo67 r67 i67 c68 s68 a68 b68 z68 o68 f68_0 f68_1 f68_2 f68_3 fo68 r68 i68 c69 s69 a69 b69 z69 o69 f69_0 f69_1 q69 fo69 r69 i69 c70 s70 a70 b70 z70 o70 f70_0 f70_1 q70 fo70 r70 i70 c71 s71 a71 b71 z71 o71 e71 u71 i71 c72 s72 a72 b72 z72 o72 i72 c73 s73 a73 b73 z73 o73 i73 c74 s74 a74 b74 z74 o74 f74_0 f74_1 fo74 r74 i74 c75 s75 a75 b75 z75 o75 e75 u75 i75 c76 s76 a76 b76 z76 o76 f76_0 f76_1 f76_2 f76_3 fo76 r76 i76 c77 s77 a77 b77 z77 o77 f77_0 f77_1 f77_2 f77_3 fo77 r77 i77 c78 s78 a78 b78 z78 o78 f78_0 f78_1 q78 fo78 r78 i78 c79 s79 a79 b79 z79 o79 i79 c81 s81 a81 b81 z81 o81 i81 c82 s82 a82 b82 z82 o82 i82 c83 s83 a83 b83 z83 o83 p83 i83 c84 s84 a84 b84 z84 o84 f84_0 f84_1 f84_2 f84_3 f84_4 fo84 r84 i84 c85 s85 a85 b85 z85 o85 f85_0 f85_1 f85_2 f85_3 f85_4 fo85 r85 i85 c86 s86 a86 b86 z86 o86 i86 c88 s88 a88 b88 z88 o88 i88 c89 s89 a89 b89 z89 o89 i89 c91 s91 a91 b91 z91 o91 i91 c93 s93 a93 b93 z93 o93 i93 c94 s94 a94 b94 z94 o94 i94 c96 s96 a96 b96 z96 o96 i96 c97 s97 a97 b97 z97 o97 i97 c98 s98 a98 b98 z98 o98 i98 c99 s99 a99 b99 z99 o99 i99 c100 s100 a100 b100 z100 o100 i100 c101 s101 a101 b101 z101 o101 i101 c102 s102 a102 b102 z102 o102 i102 c104 s104 a104 b104 z104 o104 i104 c105 s105 a105 b105 z105 o105 i105 c107 s107 a107 b107 z107 o107 i107 c108 s108 a108 b108 z108 o108 i108 c110 s110 a110 b110 z110 o110 i110 c112 s112 a112 b112 z112 o112 i112 c113 s113 a113 b113 z113 o113 i113 c115 s115 a115 b115 z115 o115 i115 c116 s116 a116 b116 z116 o116 i116 c118 s118 a118 b118 z118 o118 i118 c119 s119 a119 b119 z119 o119 i119 c120 s120 a120 b120 z120 o120 i120 c122 s122 a122 b122 z122 o122 i122 c124 s124 a124 b124 z124 o124 i124 c125 s125 a125 b125 z125 o125 i125 c126 s126 a126 b126 z126 o126 f126_0 f126_1 f126_2 f126_3 fo126 r126 i126 c127 s127 a127 b127 z127 o127 f127_0 f127_1 f127_2 f127_3 fo127 r127 i127 c131 s131 a131 b131 z131 o131 i131 c132 s132 a132 b132 z132 o132 i132 u132 c133 s133 a133 b133 z133 o133 i133 u133 c134 s134 a134 b134 z134 o134 i134 u134 c135 s135 a135 b135 z135 o135 i135 c136 s136 a136 b136 z136 o136 p136 i136 c137 s137 a137 b137 z137 o137 i137 u137 c138 s138 a138 b138 z138 o138 i138 u138 c139 s139 a139 b139 z139 o139 f139_0 f139_1 f139_2 f139_3 f139_4 f139_5 f139_6 f139_7 f139_8 f139_9 f139_10 fo139 r139 i139 c140 s140 a140 b140 z140 o140 f140_0 f140_1 f140_2 f140_3 f140_4 f140_5 f140_6 f140_7 f140_8 f140_9 f140_10 fo140 r140 i140
attribute [local go_sem] List.replicate List.length_cons List.length_nil Nat.reduceAdd Nat.reduceSub List.cons_append List.nil_append List.append_nil List.set_cons_succ List.set_cons_zero List.getD_cons_succ List.getD_cons_zero Nat.zero_add List.getElem?_cons_succ List.getElem?_cons_zero List.foldl_cons List.foldl_nil Option.map_some Option.map_none List.drop_succ_cons List.drop_zero List.take_succ_cons List.take_zero List.map_cons List.map_nil List.all_cons List.all_nil  Bool.and_true Bool.true_and imp_self Nat.add_zero beq_self_eq_true Option.isSome_some true_and and_true if_true if_false ints_len
set_option linter.unusedSimpArgs false
set_option maxRecDepth 100000
set_option maxHeartbeats 4000000
attribute [local go_sem] ints_nil ints_take ints_drop ints_cat ints_snoc ints_cons List.length_take List.length_drop List.drop_zero decide_true decide_false List.getElem?_toArray Option.bind_some Bool.false_eq_true Bool.true_eq_false Bool.not_true Bool.not_false Int.toNat_natCast Int.cast_ofNat_Int forget swap grow growIn opt_or opt_orn opt_and beq_true beq_false rdAll rdOp rdTmp agree Option.getD_some Option.getD_none List.flatten_cons List.flatten_nil ownCut mp mpL mpO vl vlL matchH freshH setAll nodupB enterH List.contains_cons List.contains_nil Nat.reduceMul Nat.reduceLT Nat.reduceLeDiff Nat.reduceEqDiff
/-- What is shared: semaphores as pairs, mailboxes as records; programs as rows of rows of pairs. -/
structure Bx where
 r : Int
 m : List Int
 s : List (Int × Int)
 w : List Int
def smc (x : Int × List Int) : List AV := [.int .i64 x.1, .sl false (ints x.2)]
def sms (l : List (Int × List Int)) : List (List AV) := l.map smc
def bxc (x : Bx) : List AV := [.int .i64 x.r, .sl false (ints x.m), .sl false (mails x.s), .sl false (ints x.w)]
def bxs (l : List Bx) : List (List AV) := l.map bxc
def pgc (x : List (Int × Int)) : List AV := [.sl false (mails x)]
def pgs (l : List (List (Int × Int))) : List (List AV) := l.map pgc
def smN (l : List (Int × List Int)) (n : Nat) : Int × List Int := l.getD n (0, [])
def bxN (l : List Bx) (n : Nat) : Bx := l.getD n ⟨0, [], [], []⟩
def pgN (l : List (List (Int × Int))) (n : Nat) : List (Int × Int) := l.getD n []
theorem sms_len (l : List (Int × List Int)) : (sms l).length = l.length := by simp [sms]
theorem bxs_len (l : List Bx) : (bxs l).length = l.length := by simp [bxs]
theorem pgs_len (l : List (List (Int × Int))) : (pgs l).length = l.length := by simp [pgs]
theorem sms_2 (l : List (Int × List Int)) : ∀ y ∈ sms l, y.length = 2 := by
 intro y hy; obtain ⟨m, _, rfl⟩ := List.mem_map.1 hy; rfl
theorem bxs_4 (l : List Bx) : ∀ y ∈ bxs l, y.length = 4 := by
 intro y hy; obtain ⟨m, _, rfl⟩ := List.mem_map.1 hy; rfl
theorem pgs_1 (l : List (List (Int × Int))) : ∀ y ∈ pgs l, y.length = 1 := by
 intro y hy; obtain ⟨m, _, rfl⟩ := List.mem_map.1 hy; rfl
theorem sms_get (l : List (Int × List Int)) (n : Nat) (h : n < l.length) : (sms l).getD n [] = [.int .i64 (smN l n).1, .sl false (ints (smN l n).2)] := by
 rw [List.getD_eq_getElem?_getD]
 simp only [sms, smN, smc, List.getElem?_map, List.getElem?_eq_getElem h, List.getD_eq_getElem?_getD]
 rfl
theorem bxs_get (l : List Bx) (n : Nat) (h : n < l.length) : (bxs l).getD n [] = [.int .i64 (bxN l n).r, .sl false (ints (bxN l n).m), .sl false (mails (bxN l n).s), .sl false (ints (bxN l n).w)] := by
 rw [List.getD_eq_getElem?_getD]
 simp only [bxs, bxN, bxc, List.getElem?_map, List.getElem?_eq_getElem h, List.getD_eq_getElem?_getD]
 rfl
theorem pgs_get (l : List (List (Int × Int))) (n : Nat) (h : n < l.length) : (pgs l).getD n [] = [.sl false (mails (pgN l n))] := by
 rw [List.getD_eq_getElem?_getD]
 simp only [pgs, pgN, pgc, List.getElem?_map, List.getElem?_eq_getElem h, List.getD_eq_getElem?_getD]
 rfl
theorem sms_set (l : List (Int × List Int)) (i : Nat) (n : Int) (k : List Int) : (sms l).set i [.int .i64 n, .sl false (ints k)] = sms (l.set i (n, k)) := by unfold sms; rw [List.map_set]; rfl
theorem bxs_set (l : List Bx) (i : Nat) (r : Int) (m : List Int) (s : List (Int × Int)) (w : List Int) : (bxs l).set i [.int .i64 r, .sl false (ints m), .sl false (mails s), .sl false (ints w)] = bxs (l.set i ⟨r, m, s, w⟩) := by unfold bxs; rw [List.map_set]; rfl
theorem sms_snoc (l : List (Int × List Int)) (n : Int) (k : List Int) : sms l ++ [[.int .i64 n, .sl false (ints k)]] = sms (l ++ [(n, k)]) := by simp [sms, smc]
theorem bxs_snoc (l : List Bx) (r : Int) (m : List Int) (s : List (Int × Int)) (w : List Int) : bxs l ++ [[.int .i64 r, .sl false (ints m), .sl false (mails s), .sl false (ints w)]] = bxs (l ++ [⟨r, m, s, w⟩]) := by simp [bxs, bxc]
theorem sms_nil (l : List (Int × List Int)) : (sms l = []) = (l = []) := by simp [sms]
theorem bxs_nil (l : List Bx) : (bxs l = []) = (l = []) := by simp [bxs]
attribute [local go_sem] mails_len mails_nil mails_drop mails_take mails_snoc sms_len bxs_len pgs_len sms_nil bxs_nil sms_set bxs_set sms_snoc bxs_snoc
theorem cloneS_spec (f : Bool) (l : List (Int × List Int)) (hl : l.length ≤ 1000000) : RetH Try.prog 55 [.sl f (sms l)] [] (.bsl 0) [.arr 74 2 (sms l)] := by
 have hrr := sms_2 l
 refine RetA_of_body Try.func55 (by kernel_rfl) rfl ?_; rw [Try.ntmps55]
 by_cases h : l = []
 ·subst h
  repeat (first | ((with_reducible first | refine O1 rfl (fun N hN => ?_) | refine O2 rfl rfl rfl (fun N hN => ?_)); simp only [go_sem]; (try refine Or.inl ?_); (repeat (refine And.intro (by first | omega | ((try simp only [go_sem, List.length_append, lim, lim2]) <;> omega) | assumption | exact ints_1 _ | exact rfl | (simp [ints]; done)) ?_)); (first | refine hN _ ?_ | (intro _ _; refine hN _ ?_)); clear hN N) | with_reducible (first | apply Ea | apply Eb | apply Ec | apply Ed | apply Ee | apply Ef | apply Eg | apply Eh | apply Ei | apply Ej | apply Ek | apply El | apply Em | refine En rfl ?_ | apply Eo | apply Ep | apply Eq1 | apply Er | apply Es) | ((with_reducible first | refine O3 rfl rfl rfl rfl ?_ | refine O4 rfl rfl rfl ?_); simp only [go_sem]))
  refine TW_cond rfl (fun hc => ?_) (fun hc => ?_)
  ·refine Dd0 ?_
   (refine ⟨by simp, ?_⟩; simp only [go_sem, Try.results55])
   exact .inr trivial
  ·refine Dd0 ?_
   (refine ⟨by simp, ?_⟩; simp only [go_sem, Try.results55])
   exact .inl ⟨7, rfl, rfl⟩
 ·refine Dd1 @h ?_
  refine TW_cond rfl (fun hc => absurd hc (by simp)) (fun hc => ?_)
  refine Dd0 ?_
  (refine ⟨by simp, ?_⟩; simp only [go_sem, Try.results55])
  exact .inl ⟨7, rfl, rfl⟩
theorem cloneB_spec (f : Bool) (l : List Bx) (hl : l.length ≤ 1000000) : RetH Try.prog 58 [.sl f (bxs l)] [] (.bsl 0) [.arr 77 4 (bxs l)] := by
 have hrr := bxs_4 l
 refine RetA_of_body Try.func58 (by kernel_rfl) rfl ?_; rw [Try.ntmps58]
 by_cases h : l = []
 ·subst h
  repeat (first | ((with_reducible first | refine O1 rfl (fun N hN => ?_) | refine O2 rfl rfl rfl (fun N hN => ?_)); simp only [go_sem]; (try refine Or.inl ?_); (repeat (refine And.intro (by first | omega | ((try simp only [go_sem, List.length_append, lim, lim2]) <;> omega) | assumption | exact ints_1 _ | exact rfl | (simp [ints]; done)) ?_)); (first | refine hN _ ?_ | (intro _ _; refine hN _ ?_)); clear hN N) | with_reducible (first | apply Ea | apply Eb | apply Ec | apply Ed | apply Ee | apply Ef | apply Eg | apply Eh | apply Ei | apply Ej | apply Ek | apply El | apply Em | refine En rfl ?_ | apply Eo | apply Ep | apply Eq1 | apply Er | apply Es) | ((with_reducible first | refine O3 rfl rfl rfl rfl ?_ | refine O4 rfl rfl rfl ?_); simp only [go_sem]))
  refine TW_cond rfl (fun hc => ?_) (fun hc => ?_)
  ·refine Dd0 ?_
   (refine ⟨by simp, ?_⟩; simp only [go_sem, Try.results58])
   exact .inr trivial
  ·refine Dd0 ?_
   (refine ⟨by simp, ?_⟩; simp only [go_sem, Try.results58])
   exact .inl ⟨7, rfl, rfl⟩
 ·refine Dd1 @h ?_
  refine TW_cond rfl (fun hc => absurd hc (by simp)) (fun hc => ?_)
  refine Dd0 ?_
  (refine ⟨by simp, ?_⟩; simp only [go_sem, Try.results58])
  exact .inl ⟨7, rfl, rfl⟩
/-- A job: what is shared, the task, the effect, who it is, and the operand. -/
structure Jb where
 sm : List (Int × List Int)
 bx : List Bx
 p : Int
 pc : Int
 n : Int
 kind : Int
 a : Int
 woken : Int
 gives : Bool
 v : Int
 g : Int
 x : Int
def jobC (j : Jb) : List AV := [.sl false (sms j.sm), .sl false (bxs j.bx), .int .i64 j.p, .int .i64 j.pc, .int .i64 j.n, .int .i64 j.kind, .int .i64 j.a, .int .i64 j.woken, .bool j.gives, .int .i64 j.v, .int .i64 j.g, .int .i64 j.x]
def jobH (j : Jb) : List HO := [.box (jobC j)]
attribute [local go_sem] jobC jobH
theorem add_spec (j : Jb) : RetH Try.prog 40 [.ptr 0 0] (jobH j) (.tup []) (jobH { j with n := IntKind.i64.wrap (j.n + j.x) }) := by
 refine RetH_of_body Try.func40 (by kernel_rfl) rfl (by first | (simp; done) | exact Nat.le_refl _ | (simp only [go_sem] <;> omega)) ?_; rw [Try.ntmps40]
 simp only [go_sem]
 refine TW_sub (Sub_bl 2) ?_
 refine TW_open mixed (by kernel_rfl) (fun b => ⟨[.ptr 0 0, .junk, if b 0 = true then .ptr 0 0 else .junk, if b 1 = true then .ptr 0 0 else .junk, if b 2 = true then .ptr 0 2 else .junk, if b 3 = true then .ptr 0 4 else .junk, if b 4 = true then .int .i64 j.n else .junk, if b 5 = true then .ptr 0 0 else .junk, if b 6 = true then .ptr 0 0 else .junk, if b 7 = true then .ptr 0 11 else .junk, if b 8 = true then .int .i64 j.x else .junk, if b 9 = true then .int .i64 (IntKind.i64.wrap (j.n + j.x)) else .junk, if b 10 = true then .ptr 0 0 else .junk, if b 11 = true then .ptr 0 2 else .junk, if b 12 = true then .ptr 0 4 else .junk], [if b 13 = true then .box [.sl false (sms j.sm), .sl false (bxs j.bx), .int .i64 j.p, .int .i64 j.pc, .int .i64 (IntKind.i64.wrap (j.n + j.x)), .int .i64 j.kind, .int .i64 j.a, .int .i64 j.woken, .bool j.gives, .int .i64 j.v, .int .i64 j.g, .int .i64 j.x] else .box [.sl false (sms j.sm), .sl false (bxs j.bx), .int .i64 j.p, .int .i64 j.pc, .int .i64 j.n, .int .i64 j.kind, .int .i64 j.a, .int .i64 j.woken, .bool j.gives, .int .i64 j.v, .int .i64 j.g, .int .i64 j.x], .un, .un, .un, .un, .un, .un, .un, .un, .un, .un, .un, .un, .un, .un, .un], 1⟩) rfl ?_ ?_
 ·skip
  (repeat refine Di ?_ (fun b hwW hbB hcC => ?_)); (exact trivial)
  ·exact Ds11 hbB (hwW.at 0 rfl) (hwW.at 1 rfl) (hwW.at 2 rfl) (hwW.at 3 rfl) (hwW.at 4 rfl) (hwW.at 5 rfl) (hwW.at 6 rfl) (hwW.at 7 rfl) (hwW.at 8 rfl) (hwW.at 9 rfl) (hwW.at 12 rfl)
  ·exact Ds12 hbB (hwW.at 0 rfl) (hwW.at 1 rfl) (hwW.at 2 rfl) (hwW.at 3 rfl) (hwW.at 4 rfl) (hwW.at 5 rfl) (hwW.at 6 rfl) (hwW.at 7 rfl) (hwW.at 8 rfl) (hwW.at 9 rfl) (hwW.at 11 rfl) (hcC.l hbB 13 rfl)
  ·have l12 := hcC.l hbB 12 rfl; exact Ds13 hbB (hwW.at 0 rfl) (hwW.at 1 rfl) (hwW.at 2 rfl) (hwW.at 3 rfl) (hwW.at 4 rfl) (hwW.at 5 rfl) (hwW.at 6 rfl) (hwW.at 7 rfl) (hwW.at 8 rfl) (hwW.at 9 rfl) (hwW.at 10 rfl) l12 (hcC.l l12 13 rfl)
  ·have l11 := hcC.l hbB 11 rfl; have l12 := hcC.l l11 12 rfl; exact Ds12 hbB (hwW.at 0 rfl) (hwW.at 1 rfl) (hwW.at 2 rfl) (hwW.at 3 rfl) (hwW.at 4 rfl) (hwW.at 5 rfl) (hwW.at 6 rfl) (hwW.at 7 rfl) (hwW.at 8 rfl) (hwW.at 9 rfl) l11 (hcC.l l12 13 rfl)
  ·exact Ds6 hbB (hwW.at 4 rfl) (hwW.at 8 rfl) (hcC.l hbB 10 rfl) (hcC.l hbB 11 rfl) (hcC.l hbB 12 rfl) (hcC.l hbB 13 rfl)
  ·exact Ds6 hbB (hwW.at 7 rfl) (hcC.l hbB 9 rfl) (hcC.l hbB 10 rfl) (hcC.l hbB 11 rfl) (hcC.l hbB 12 rfl) (hcC.l hbB 13 rfl)
  ·exact Ds6 hbB (hwW.at 6 rfl) (hcC.l hbB 8 rfl) (hcC.l hbB 10 rfl) (hcC.l hbB 11 rfl) (hcC.l hbB 12 rfl) (hcC.l hbB 13 rfl)
  ·exact Ds6 hbB (hwW.at 5 rfl) (hcC.l hbB 7 rfl) (hcC.l hbB 10 rfl) (hcC.l hbB 11 rfl) (hcC.l hbB 12 rfl) (hcC.l hbB 13 rfl)
  ·exact Ds5 hbB (hcC.l hbB 6 rfl) (hcC.l hbB 10 rfl) (hcC.l hbB 11 rfl) (hcC.l hbB 12 rfl) (hcC.l hbB 13 rfl)
  ·exact Ds6 hbB (hwW.at 3 rfl) (hcC.l hbB 9 rfl) (hcC.l hbB 10 rfl) (hcC.l hbB 11 rfl) (hcC.l hbB 12 rfl) (hcC.l hbB 13 rfl)
  ·exact Ds6 hbB (hwW.at 2 rfl) (hcC.l hbB 4 rfl) (hcC.l hbB 10 rfl) (hcC.l hbB 11 rfl) (hcC.l hbB 12 rfl) (hcC.l hbB 13 rfl)
  ·exact Ds6 hbB (hwW.at 1 rfl) (hcC.l hbB 3 rfl) (hcC.l hbB 10 rfl) (hcC.l hbB 11 rfl) (hcC.l hbB 12 rfl) (hcC.l hbB 13 rfl)
  ·exact Ds6 hbB (hwW.at 0 rfl) (hcC.l hbB 2 rfl) (hcC.l hbB 10 rfl) (hcC.l hbB 11 rfl) (hcC.l hbB 12 rfl) (hcC.l hbB 13 rfl)
  ·exact Ds5 hbB (hcC.l hbB 1 rfl) (hcC.l hbB 10 rfl) (hcC.l hbB 11 rfl) (hcC.l hbB 12 rfl) (hcC.l hbB 13 rfl)
 simp only [List.length_cons, List.length_nil, Nat.reduceAdd, Nat.reduceLT, decide_true, if_true]
 refine Dd0 ?_
 (refine ⟨by simp, rfl, ?_⟩; simp only [go_sem, Try.results40]; refine ⟨[0], rfl, rfl, ?_⟩; (repeat' (first | rfl | trivial | refine ⟨?_, ?_⟩)))
theorem yield_spec (j : Jb) : RetH Try.prog 41 [.ptr 0 0] (jobH j) (.tup []) (jobH { j with kind := 2 }) := by
 refine RetH_of_body Try.func41 (by kernel_rfl) rfl (by first | (simp; done) | exact Nat.le_refl _ | (simp only [go_sem] <;> omega)) ?_; rw [Try.ntmps41]
 refine Dd0 ?_
 (refine ⟨by simp, rfl, ?_⟩; simp only [go_sem, Try.results41]; refine ⟨[0], rfl, rfl, ?_⟩; (repeat' (first | rfl | trivial | refine ⟨?_, ?_⟩)))
theorem spawn_spec (j : Jb) : RetH Try.prog 42 [.ptr 0 0] (jobH j) (.tup []) (jobH { j with kind := 3, a := j.x }) := by
 refine RetH_of_body Try.func42 (by kernel_rfl) rfl (by first | (simp; done) | exact Nat.le_refl _ | (simp only [go_sem] <;> omega)) ?_; rw [Try.ntmps42]
 refine Dd0 ?_
 (refine ⟨by simp, rfl, ?_⟩; simp only [go_sem, Try.results42]; refine ⟨[0], rfl, rfl, ?_⟩; (repeat' (first | rfl | trivial | refine ⟨?_, ?_⟩)))
theorem sleep_spec (j : Jb) : RetH Try.prog 47 [.ptr 0 0] (jobH j) (.tup []) (jobH { j with kind := 5, a := j.x }) := by
 refine RetH_of_body Try.func47 (by kernel_rfl) rfl (by first | (simp; done) | exact Nat.le_refl _ | (simp only [go_sem] <;> omega)) ?_; rw [Try.ntmps47]
 refine Dd0 ?_
 (refine ⟨by simp, rfl, ?_⟩; simp only [go_sem, Try.results47]; refine ⟨[0], rfl, rfl, ?_⟩; (repeat' (first | rfl | trivial | refine ⟨?_, ?_⟩)))
theorem loop0_spec (j : Jb) (h : j.n = 0) : RetH Try.prog 48 [.ptr 0 0] (jobH j) (.tup []) (jobH j) := by
 have hd : decide (j.n ≠ 0) = false := decide_eq_false (by simp [h])
 refine RetH_of_body Try.func48 (by kernel_rfl) rfl (by first | (simp; done) | exact Nat.le_refl _ | (simp only [go_sem] <;> omega)) ?_; rw [Try.ntmps48]
 refine Dd1 @hd ?_
 refine TW_cond rfl (fun hc => ?_) (fun hc => ?_)
 ·simp at hc
  omega
 ·refine Dd0 ?_
  (refine ⟨by simp, rfl, ?_⟩; simp only [go_sem, Try.results48]; refine ⟨[0], rfl, rfl, ?_⟩; (repeat' (first | rfl | trivial | refine ⟨?_, ?_⟩)))
theorem loop1_spec (j : Jb) (h : j.n ≠ 0) (hn : -9223372036854775808 ≤ j.n ∧ j.n ≤ 9223372036854775807) : RetH Try.prog 48 [.ptr 0 0] (jobH j) (.tup []) (jobH { j with pc := j.x, n := IntKind.i64.wrap (j.n - 1) }) := by
 refine RetH_of_body Try.func48 (by kernel_rfl) rfl (by first | (simp; done) | exact Nat.le_refl _ | (simp only [go_sem] <;> omega)) ?_; rw [Try.ntmps48]
 refine Dd0 ?_
 refine TW_cond rfl (fun hc => ?_) (fun hc => ?_)
 ·refine Dd0 ?_
  refine TW_sub (Sub_bl 254) ?_
  refine TW_open mixed (by kernel_rfl) (fun b => ⟨[.ptr 0 0, .junk, .junk, .junk, .junk, .junk, .junk, .junk, if b 0 = true then .ptr 0 0 else .junk, if b 1 = true then .ptr 0 0 else .junk, if b 2 = true then .ptr 0 0 else .junk, if b 3 = true then .ptr 0 0 else .junk, if b 4 = true then .ptr 0 11 else .junk, if b 5 = true then .int .i64 j.x else .junk, if b 6 = true then .ptr 0 0 else .junk, if b 7 = true then .ptr 0 0 else .junk, if b 8 = true then .ptr 0 2 else .junk, if b 9 = true then .ptr 0 4 else .junk, if b 10 = true then .int .i64 j.n else .junk, if b 11 = true then .int .i64 (IntKind.i64.wrap (j.n - 1)) else .junk, if b 12 = true then .ptr 0 0 else .junk, if b 13 = true then .ptr 0 2 else .junk, if b 14 = true then .ptr 0 3 else .junk, if b 16 = true then .ptr 0 0 else .junk, if b 17 = true then .ptr 0 2 else .junk, if b 18 = true then .ptr 0 4 else .junk], [if b 19 = true then .box [.sl false (sms j.sm), .sl false (bxs j.bx), .int .i64 j.p, .int .i64 j.x, .int .i64 (IntKind.i64.wrap (j.n - 1)), .int .i64 j.kind, .int .i64 j.a, .int .i64 j.woken, .bool j.gives, .int .i64 j.v, .int .i64 j.g, .int .i64 j.x] else if b 15 = true then .box [.sl false (sms j.sm), .sl false (bxs j.bx), .int .i64 j.p, .int .i64 j.x, .int .i64 j.n, .int .i64 j.kind, .int .i64 j.a, .int .i64 j.woken, .bool j.gives, .int .i64 j.v, .int .i64 j.g, .int .i64 j.x] else .box [.sl false (sms j.sm), .sl false (bxs j.bx), .int .i64 j.p, .int .i64 j.pc, .int .i64 j.n, .int .i64 j.kind, .int .i64 j.a, .int .i64 j.woken, .bool j.gives, .int .i64 j.v, .int .i64 j.g, .int .i64 j.x], .un, .un, .un, .un, .un, .un, .un, .un, .un, .un, .un, .un, .un, .un, .un, .un, .un, .un, .un, .un, .un, .un, .un, .un, .un, .un], 1⟩) rfl ?_ ?_
  ·skip
   (repeat refine Di ?_ (fun b hwW hbB hcC => ?_)); (exact trivial)
   ·exact Ds17 hbB (hwW.at 0 rfl) (hwW.at 1 rfl) (hwW.at 2 rfl) (hwW.at 3 rfl) (hwW.at 4 rfl) (hwW.at 5 rfl) (hwW.at 6 rfl) (hwW.at 7 rfl) (hwW.at 8 rfl) (hwW.at 9 rfl) (hwW.at 10 rfl) (hwW.at 11 rfl) (hwW.at 12 rfl) (hwW.at 13 rfl) (hwW.at 14 rfl) (hwW.at 15 rfl) (hwW.at 18 rfl)
   ·exact Ds18 hbB (hwW.at 0 rfl) (hwW.at 1 rfl) (hwW.at 2 rfl) (hwW.at 3 rfl) (hwW.at 4 rfl) (hwW.at 5 rfl) (hwW.at 6 rfl) (hwW.at 7 rfl) (hwW.at 8 rfl) (hwW.at 9 rfl) (hwW.at 10 rfl) (hwW.at 11 rfl) (hwW.at 12 rfl) (hwW.at 13 rfl) (hwW.at 14 rfl) (hwW.at 15 rfl) (hwW.at 17 rfl) (hcC.l hbB 19 rfl)
   ·have l18 := hcC.l hbB 18 rfl; exact Ds19 hbB (hwW.at 0 rfl) (hwW.at 1 rfl) (hwW.at 2 rfl) (hwW.at 3 rfl) (hwW.at 4 rfl) (hwW.at 5 rfl) (hwW.at 6 rfl) (hwW.at 7 rfl) (hwW.at 8 rfl) (hwW.at 9 rfl) (hwW.at 10 rfl) (hwW.at 11 rfl) (hwW.at 12 rfl) (hwW.at 13 rfl) (hwW.at 14 rfl) (hwW.at 15 rfl) (hwW.at 16 rfl) l18 (hcC.l l18 19 rfl)
   ·have l17 := hcC.l hbB 17 rfl; have l18 := hcC.l l17 18 rfl; exact Ds18 hbB (hwW.at 0 rfl) (hwW.at 1 rfl) (hwW.at 2 rfl) (hwW.at 3 rfl) (hwW.at 4 rfl) (hwW.at 5 rfl) (hwW.at 6 rfl) (hwW.at 7 rfl) (hwW.at 8 rfl) (hwW.at 9 rfl) (hwW.at 10 rfl) (hwW.at 11 rfl) (hwW.at 12 rfl) (hwW.at 13 rfl) (hwW.at 14 rfl) (hwW.at 15 rfl) l17 (hcC.l l18 19 rfl)
   ·exact Ds11 hbB (hwW.at 0 rfl) (hwW.at 2 rfl) (hwW.at 3 rfl) (hwW.at 4 rfl) (hwW.at 5 rfl) (hwW.at 10 rfl) (hwW.at 14 rfl) (hcC.l hbB 16 rfl) (hcC.l hbB 17 rfl) (hcC.l hbB 18 rfl) (hcC.l hbB 19 rfl)
   ·exact Ds12 hbB (hwW.at 0 rfl) (hwW.at 2 rfl) (hwW.at 3 rfl) (hwW.at 4 rfl) (hwW.at 5 rfl) (hwW.at 10 rfl) (hwW.at 13 rfl) (hcC.l hbB 15 rfl) (hcC.l hbB 16 rfl) (hcC.l hbB 17 rfl) (hcC.l hbB 18 rfl) (hcC.l hbB 19 rfl)
   ·have l14 := hcC.l hbB 14 rfl; exact Ds13 hbB (hwW.at 0 rfl) (hwW.at 2 rfl) (hwW.at 3 rfl) (hwW.at 4 rfl) (hwW.at 5 rfl) (hwW.at 10 rfl) (hwW.at 12 rfl) l14 (hcC.l l14 15 rfl) (hcC.l hbB 16 rfl) (hcC.l hbB 17 rfl) (hcC.l hbB 18 rfl) (hcC.l hbB 19 rfl)
   ·have l13 := hcC.l hbB 13 rfl; have l14 := hcC.l l13 14 rfl; exact Ds12 hbB (hwW.at 0 rfl) (hwW.at 2 rfl) (hwW.at 3 rfl) (hwW.at 4 rfl) (hwW.at 5 rfl) (hwW.at 10 rfl) l13 (hcC.l l14 15 rfl) (hcC.l hbB 16 rfl) (hcC.l hbB 17 rfl) (hcC.l hbB 18 rfl) (hcC.l hbB 19 rfl)
   ·exact Ds5 hbB (hwW.at 10 rfl) (hcC.l hbB 16 rfl) (hcC.l hbB 17 rfl) (hcC.l hbB 18 rfl) (hcC.l hbB 19 rfl)
   ·exact Ds10 hbB (hwW.at 9 rfl) (hcC.l hbB 11 rfl) (hcC.l hbB 12 rfl) (hcC.l hbB 13 rfl) (hcC.l hbB 14 rfl) (hcC.l hbB 15 rfl) (hcC.l hbB 16 rfl) (hcC.l hbB 17 rfl) (hcC.l hbB 18 rfl) (hcC.l hbB 19 rfl)
   ·have l10 := hcC.l hbB 10 rfl; exact Ds7 hbB (hwW.at 8 rfl) l10 (hcC.l l10 15 rfl) (hcC.l hbB 16 rfl) (hcC.l hbB 17 rfl) (hcC.l hbB 18 rfl) (hcC.l hbB 19 rfl)
   ·have l9 := hcC.l hbB 9 rfl; have l10 := hcC.l l9 10 rfl; exact Ds7 hbB (hwW.at 7 rfl) l9 (hcC.l l10 15 rfl) (hcC.l hbB 16 rfl) (hcC.l hbB 17 rfl) (hcC.l hbB 18 rfl) (hcC.l hbB 19 rfl)
   ·have l8 := hcC.l hbB 8 rfl; have l9 := hcC.l l8 9 rfl; have l10 := hcC.l l9 10 rfl; exact Ds7 hbB (hwW.at 6 rfl) l8 (hcC.l l10 15 rfl) (hcC.l hbB 16 rfl) (hcC.l hbB 17 rfl) (hcC.l hbB 18 rfl) (hcC.l hbB 19 rfl)
   ·have l7 := hcC.l hbB 7 rfl; have l8 := hcC.l l7 8 rfl; have l9 := hcC.l l8 9 rfl; have l10 := hcC.l l9 10 rfl; exact Ds6 hbB l7 (hcC.l l10 15 rfl) (hcC.l hbB 16 rfl) (hcC.l hbB 17 rfl) (hcC.l hbB 18 rfl) (hcC.l hbB 19 rfl)
   ·exact Ds9 hbB (hwW.at 4 rfl) (hcC.l hbB 12 rfl) (hcC.l hbB 13 rfl) (hcC.l hbB 14 rfl) (hcC.l hbB 15 rfl) (hcC.l hbB 16 rfl) (hcC.l hbB 17 rfl) (hcC.l hbB 18 rfl) (hcC.l hbB 19 rfl)
   ·exact Ds10 hbB (hwW.at 3 rfl) (hcC.l hbB 5 rfl) (hcC.l hbB 12 rfl) (hcC.l hbB 13 rfl) (hcC.l hbB 14 rfl) (hcC.l hbB 15 rfl) (hcC.l hbB 16 rfl) (hcC.l hbB 17 rfl) (hcC.l hbB 18 rfl) (hcC.l hbB 19 rfl)
   ·exact Ds10 hbB (hwW.at 2 rfl) (hcC.l hbB 4 rfl) (hcC.l hbB 12 rfl) (hcC.l hbB 13 rfl) (hcC.l hbB 14 rfl) (hcC.l hbB 15 rfl) (hcC.l hbB 16 rfl) (hcC.l hbB 17 rfl) (hcC.l hbB 18 rfl) (hcC.l hbB 19 rfl)
   ·exact Ds9 hbB (hcC.l hbB 3 rfl) (hcC.l hbB 12 rfl) (hcC.l hbB 13 rfl) (hcC.l hbB 14 rfl) (hcC.l hbB 15 rfl) (hcC.l hbB 16 rfl) (hcC.l hbB 17 rfl) (hcC.l hbB 18 rfl) (hcC.l hbB 19 rfl)
   ·exact Ds4 hbB (hcC.l hbB 16 rfl) (hcC.l hbB 17 rfl) (hcC.l hbB 18 rfl) (hcC.l hbB 19 rfl)
   ·exact Ds8 hbB (hcC.l hbB 12 rfl) (hcC.l hbB 13 rfl) (hcC.l hbB 14 rfl) (hcC.l hbB 15 rfl) (hcC.l hbB 16 rfl) (hcC.l hbB 17 rfl) (hcC.l hbB 18 rfl) (hcC.l hbB 19 rfl)
  simp only [List.length_cons, List.length_nil, Nat.reduceAdd, Nat.reduceLT, decide_true, if_true]
  refine Dd0 ?_
  (refine ⟨by simp, rfl, ?_⟩; simp only [go_sem, Try.results48]; refine ⟨[0], rfl, rfl, ?_⟩; (repeat' (first | rfl | trivial | refine ⟨?_, ?_⟩)))
 ·simp at hc
  omega
theorem exit_spec (j : Jb) : RetH Try.prog 49 [.ptr 0 0] (jobH j) (.tup []) (jobH { j with kind := 6, pc := IntKind.i64.wrap (j.pc - 1) }) := by
 refine RetH_of_body Try.func49 (by kernel_rfl) rfl (by first | (simp; done) | exact Nat.le_refl _ | (simp only [go_sem] <;> omega)) ?_; rw [Try.ntmps49]
 refine Dd0 ?_
 (refine ⟨by simp, rfl, ?_⟩; simp only [go_sem, Try.results49]; refine ⟨[0], rfl, rfl, ?_⟩; (repeat' (first | rfl | trivial | refine ⟨?_, ?_⟩)))
attribute [local go_sem] mails_len mails_nil mails_drop mails_take mails_snoc sms_len bxs_len pgs_len sms_nil bxs_nil sms_set bxs_set sms_snoc bxs_snoc jobC jobH
theorem acquire0_spec (sm : List (Int × List Int)) (bx : List Bx) (p pc n kind a woken : Int) (gives : Bool) (v g : Int) (i : Nat) (hi : i < sm.length) (hl : sm.length ≤ 1000000) (hw : (smN sm i).2.length ≤ 1000000) (hc0 : (smN sm i).1 ≤ 1000000) (hp : (smN sm i).1 > 0) :
  RetH Try.prog 43 [.ptr 0 0] (jobH ⟨sm, bx, p, pc, n, kind, a, woken, gives, v, g, i⟩) (.tup []) (jobH ⟨sm.set i (acqC (smN sm i).1, acqW (smN sm i).1 (smN sm i).2 g), bx, p, pc, n, kind, a, woken, gives, v, g, i⟩) := by
 have hd : decide ((smN sm i).1 > 0) = true := decide_eq_true hp
 have hrr := sms_2 sm
 have hg := sms_get sm i hi
 refine RetH_of_body Try.func43 (by kernel_rfl) rfl (by first | (simp; done) | exact Nat.le_refl _ | (simp only [go_sem] <;> omega)) (TW_finS ?_); rw [Try.ntmps43]
 simp only [go_sem]
 refine Dd0 ?_
 refine TW_sub (Sub_bl 2) ?_
 refine TW_open mixed (by kernel_rfl) (fun b => ⟨[.ptr 0 0, .junk, if b 19 = true then .ptr 3 0 else .junk, if b 21 = true then .bool (decide ((smN sm i).fst > 0)) else .junk, if b 16 = true then .tup [.agg [.int .i64 (acqC (smN sm i).fst), .sl false (ints (acqW (smN sm i).fst (smN sm i).snd g))], .bool (decide ((smN sm i).fst > 0))] else .junk, if b 0 = true then .ptr 0 0 else .junk, if b 1 = true then .ptr 0 0 else .junk, if b 2 = true then .ptr 0 0 else .junk, if b 3 = true then .ptr 0 0 else .junk, if b 4 = true then .sl false (sms sm) else .junk, if b 5 = true then .ptr 0 0 else .junk, if b 6 = true then .ptr 0 0 else .junk, if b 7 = true then .ptr 0 11 else .junk, if b 8 = true then .int .i64 (↑i : Int) else .junk, if b 9 = true then .cptr [.int .i64 (smN sm i).fst, .sl false (ints (smN sm i).snd)] else .junk, if b 10 = true then .agg [.int .i64 (smN sm i).fst, .sl false (ints (smN sm i).snd)] else .junk, if b 11 = true then .ptr 0 0 else .junk, if b 12 = true then .ptr 0 0 else .junk, if b 13 = true then .ptr 0 10 else .junk, if b 14 = true then .int .i64 g else .junk, if b 15 = true then .tup [.agg [.int .i64 (acqC (smN sm i).fst), .sl false (ints (acqW (smN sm i).fst (smN sm i).snd g))], .bool (decide ((smN sm i).fst > 0))] else .junk, if b 17 = true then .agg [.int .i64 (acqC (smN sm i).fst), .sl false (ints (acqW (smN sm i).fst (smN sm i).snd g))] else .junk, if b 18 = true then .bool (decide ((smN sm i).fst > 0)) else .junk, .junk, .junk, .junk, .junk, .junk, .junk, .junk, .junk, .junk, .junk, .junk, .junk, .junk, .junk, .junk, .junk, .junk, .junk, .junk, .junk, .junk, .junk, .junk, .junk, .junk, .junk, .junk], [.box [.sl false (sms sm), .sl false (bxs bx), .int .i64 p, .int .i64 pc, .int .i64 n, .int .i64 kind, .int .i64 a, .int .i64 woken, .bool gives, .int .i64 v, .int .i64 g, .int .i64 (↑i : Int)], .un, .un, if b 20 = true then .box [.int .i64 (acqC (smN sm i).fst), .sl false (ints (acqW (smN sm i).fst (smN sm i).snd g))] else if b 19 = true then .box [.int .i64 0, .nils] else .un, .un, .un, .un, .un, .un, .un, .un, .un, .un, .un, .un, .un, .un, .un, .un, .un, .un, .un, .un, .un, .un, .un, .un, .un, .un, .un, .un, .un, .un, .un, .un, .un, .un, .un, .un, .un, .un, .un, .un, .un, .un, .un, .un, .un, .un, .un, .un], 1⟩) rfl ?_ ?_
 ·skip
  (repeat refine Di ?_ (fun b hwW hbB hcC => ?_)); (exact trivial)
  ·exact Ds22 hbB (hwW.at 0 rfl) (hwW.at 1 rfl) (hwW.at 2 rfl) (hwW.at 3 rfl) (hwW.at 4 rfl) (hwW.at 5 rfl) (hwW.at 6 rfl) (hwW.at 7 rfl) (hwW.at 8 rfl) (hwW.at 9 rfl) (hwW.at 10 rfl) (hwW.at 11 rfl) (hwW.at 12 rfl) (hwW.at 13 rfl) (hwW.at 14 rfl) (hwW.at 15 rfl) (hwW.at 16 rfl) (hwW.at 17 rfl) (hwW.at 18 rfl) (hwW.at 19 rfl) (hwW.at 20 rfl) @hg
  ·exact Ds21 hbB (hwW.at 0 rfl) (hwW.at 1 rfl) (hwW.at 2 rfl) (hwW.at 3 rfl) (hwW.at 4 rfl) (hwW.at 5 rfl) (hwW.at 6 rfl) (hwW.at 7 rfl) (hwW.at 8 rfl) (hwW.at 9 rfl) (hwW.at 10 rfl) (hwW.at 11 rfl) (hwW.at 12 rfl) (hwW.at 13 rfl) (hwW.at 14 rfl) (hwW.at 15 rfl) (hwW.at 16 rfl) (hwW.at 17 rfl) (hwW.at 19 rfl) (hcC.l hbB 21 rfl) @hg
  ·exact Ds3 hbB (hcC.l hbB 20 rfl) (hcC.l hbB 21 rfl) @hg
  ·have w16 := hwW.at 16 rfl; exact Ds4 hbB ((hcC 16 _ rfl w16).at 15 rfl) w16 (hcC.l hbB 21 rfl) @hg
  ·have w16 := hwW.at 16 rfl; exact Ds5 hbB ((hcC 16 _ rfl w16).at 15 rfl) w16 (hcC.l hbB 20 rfl) (hcC.l hbB 21 rfl) @hg
  ·exact Ds6 hbB (hwW.at 15 rfl) (hcC.l hbB 17 rfl) (hcC.l hbB 18 rfl) (hcC.l hbB 20 rfl) (hcC.l hbB 21 rfl) @hg
  ·exact Dkpu6 hbB (hwW.at 10 rfl) (hwW.at 14 rfl) (hcC.l hbB 16 rfl) (hcC.l hbB 20 rfl) (hcC.l hbB 21 rfl) @hg (acq_spec false (smN sm i).1 (smN sm i).2 g hw (by omega))
  ·exact Ds5 hbB (hwW.at 13 rfl) (hcC.l hbB 15 rfl) (hcC.l hbB 20 rfl) (hcC.l hbB 21 rfl) @hg
  ·have l14 := hcC.l hbB 14 rfl; exact Ds6 hbB (hwW.at 12 rfl) l14 (hcC.l l14 15 rfl) (hcC.l hbB 20 rfl) (hcC.l hbB 21 rfl) @hg
  ·have l13 := hcC.l hbB 13 rfl; have l14 := hcC.l l13 14 rfl; exact Ds6 hbB (hwW.at 11 rfl) l13 (hcC.l l14 15 rfl) (hcC.l hbB 20 rfl) (hcC.l hbB 21 rfl) @hg
  ·have l12 := hcC.l hbB 12 rfl; have l13 := hcC.l l12 13 rfl; have l14 := hcC.l l13 14 rfl; exact Ds5 hbB l12 (hcC.l l14 15 rfl) (hcC.l hbB 20 rfl) (hcC.l hbB 21 rfl) @hg
  ·exact Ds5 hbB (hwW.at 9 rfl) (hcC.l hbB 15 rfl) (hcC.l hbB 20 rfl) (hcC.l hbB 21 rfl) @hg
  ·have l10 := hcC.l hbB 10 rfl; exact Ds7 hbB (hwW.at 4 rfl) (hwW.at 8 rfl) l10 (hcC.l l10 15 rfl) (hcC.l hbB 20 rfl) (hcC.l hbB 21 rfl) @hg
  ·have l9 := hcC.l hbB 9 rfl; have l10 := hcC.l l9 10 rfl; exact Ds6 hbB (hwW.at 7 rfl) l9 (hcC.l l10 15 rfl) (hcC.l hbB 20 rfl) (hcC.l hbB 21 rfl) @hg
  ·have l8 := hcC.l hbB 8 rfl; have l9 := hcC.l l8 9 rfl; have l10 := hcC.l l9 10 rfl; exact Ds6 hbB (hwW.at 6 rfl) l8 (hcC.l l10 15 rfl) (hcC.l hbB 20 rfl) (hcC.l hbB 21 rfl) @hg
  ·have l7 := hcC.l hbB 7 rfl; have l8 := hcC.l l7 8 rfl; have l9 := hcC.l l8 9 rfl; have l10 := hcC.l l9 10 rfl; exact Ds6 hbB (hwW.at 5 rfl) l7 (hcC.l l10 15 rfl) (hcC.l hbB 20 rfl) (hcC.l hbB 21 rfl) @hg
  ·have l6 := hcC.l hbB 6 rfl; have l7 := hcC.l l6 7 rfl; have l8 := hcC.l l7 8 rfl; have l9 := hcC.l l8 9 rfl; have l10 := hcC.l l9 10 rfl; exact Ds5 hbB l6 (hcC.l l10 15 rfl) (hcC.l hbB 20 rfl) (hcC.l hbB 21 rfl) @hg
  ·have l9 := hcC.l hbB 9 rfl; have l10 := hcC.l l9 10 rfl; exact Ds6 hbB (hwW.at 3 rfl) l9 (hcC.l l10 15 rfl) (hcC.l hbB 20 rfl) (hcC.l hbB 21 rfl) @hg
  ·have l4 := hcC.l hbB 4 rfl; have l9 := hcC.l l4 9 rfl; have l10 := hcC.l l9 10 rfl; exact Ds6 hbB (hwW.at 2 rfl) l4 (hcC.l l10 15 rfl) (hcC.l hbB 20 rfl) (hcC.l hbB 21 rfl) @hg
  ·have l3 := hcC.l hbB 3 rfl; have l4 := hcC.l l3 4 rfl; have l9 := hcC.l l4 9 rfl; have l10 := hcC.l l9 10 rfl; exact Ds6 hbB (hwW.at 1 rfl) l3 (hcC.l l10 15 rfl) (hcC.l hbB 20 rfl) (hcC.l hbB 21 rfl) @hg
  ·have l2 := hcC.l hbB 2 rfl; have l3 := hcC.l l2 3 rfl; have l4 := hcC.l l3 4 rfl; have l9 := hcC.l l4 9 rfl; have l10 := hcC.l l9 10 rfl; exact Ds6 hbB (hwW.at 0 rfl) l2 (hcC.l l10 15 rfl) (hcC.l hbB 20 rfl) (hcC.l hbB 21 rfl) @hg
  ·have l1 := hcC.l hbB 1 rfl; have l2 := hcC.l l1 2 rfl; have l3 := hcC.l l2 3 rfl; have l4 := hcC.l l3 4 rfl; have l9 := hcC.l l4 9 rfl; have l10 := hcC.l l9 10 rfl; exact Ds5 hbB l1 (hcC.l l10 15 rfl) (hcC.l hbB 20 rfl) (hcC.l hbB 21 rfl) @hg
 simp only [List.length_cons, List.length_nil, Nat.reduceAdd, Nat.reduceLT, decide_true, if_true]
 refine Dd0 ?_
 refine Dar0 (cloneS_spec false sm hl) ?_
 refine Dd0 ?_
 refine TW_sub (Sub_bl 8589934578) ?_
 refine TW_open mixed (by kernel_rfl) (fun b => ⟨[.ptr 0 0, .junk, .ptr 3 0, .bool (decide ((smN sm i).fst > 0)), .junk, .junk, .junk, .junk, .junk, .junk, .junk, .junk, .junk, .junk, .junk, .junk, .junk, .junk, .junk, .junk, .junk, .junk, .junk, .junk, .junk, .junk, .junk, .junk, .junk, .junk, .junk, .junk, .junk, if b 0 = true then .ptr 0 0 else .junk, if b 1 = true then .ptr 0 0 else .junk, if b 2 = true then .ptr 0 0 else .junk, if b 3 = true then .ptr 0 0 else .junk, if b 4 = true then .bsl 30 else .junk, if b 5 = true then .ptr 0 0 else .junk, if b 6 = true then .ptr 0 0 else .junk, if b 7 = true then .ptr 0 11 else .junk, if b 8 = true then .int .i64 (↑i : Int) else .junk, if b 9 = true then .agg [.int .i64 (acqC (smN sm i).fst), .sl false (ints (acqW (smN sm i).fst (smN sm i).snd g))] else .junk, if b 10 = true then .eptr 30 i 2 0 else .junk, .junk, .junk, .junk, .junk, .junk, .junk], [.box [.bsl 30, .sl false (bxs bx), .int .i64 p, .int .i64 pc, .int .i64 n, .int .i64 kind, .int .i64 a, .int .i64 woken, .bool gives, .int .i64 v, .int .i64 g, .int .i64 (↑i : Int)], .un, .un, .box [.int .i64 (acqC (smN sm i).fst), .sl false (ints (acqW (smN sm i).fst (smN sm i).snd g))], .un, .un, .un, .un, .un, .un, .un, .un, .un, .un, .un, .un, .un, .un, .un, .un, .un, .un, .un, .un, .un, .un, .un, .un, .un, .un, if b 11 = true then .arr 74 2 (sms (sm.set i (acqC (smN sm i).fst, acqW (smN sm i).fst (smN sm i).snd g))) else .arr 74 2 (sms sm), .un, .un, .un, .un, .un, .un, .un, .un, .un, .un, .un, .un, .un, .un, .un, .un, .un, .un, .un, .un], 1⟩) rfl ?_ ?_
 ·skip
  (repeat refine Di ?_ (fun b hwW hbB hcC => ?_)); (exact trivial)
  ·exact Ds12 hbB (hwW.at 0 rfl) (hwW.at 1 rfl) (hwW.at 2 rfl) (hwW.at 3 rfl) (hwW.at 4 rfl) (hwW.at 5 rfl) (hwW.at 6 rfl) (hwW.at 7 rfl) (hwW.at 8 rfl) (hwW.at 9 rfl) (hwW.at 10 rfl) @hg
  ·exact Ds12 hbB (hwW.at 0 rfl) (hwW.at 1 rfl) (hwW.at 2 rfl) (hwW.at 3 rfl) (hwW.at 4 rfl) (hwW.at 5 rfl) (hwW.at 6 rfl) (hwW.at 7 rfl) (hwW.at 8 rfl) (hwW.at 9 rfl) (hcC.l hbB 11 rfl) @hg
  ·exact Ds3 hbB (hcC.l hbB 10 rfl) (hcC.l hbB 11 rfl) @hg
  ·exact Ds4 hbB (hwW.at 7 rfl) (hcC.l hbB 10 rfl) (hcC.l hbB 11 rfl) @hg
  ·exact Ds5 hbB (hwW.at 6 rfl) (hcC.l hbB 8 rfl) (hcC.l hbB 10 rfl) (hcC.l hbB 11 rfl) @hg
  ·exact Ds5 hbB (hwW.at 5 rfl) (hcC.l hbB 7 rfl) (hcC.l hbB 10 rfl) (hcC.l hbB 11 rfl) @hg
  ·exact Ds4 hbB (hcC.l hbB 6 rfl) (hcC.l hbB 10 rfl) (hcC.l hbB 11 rfl) @hg
  ·exact Ds4 hbB (hwW.at 3 rfl) (hcC.l hbB 10 rfl) (hcC.l hbB 11 rfl) @hg
  ·exact Ds5 hbB (hwW.at 2 rfl) (hcC.l hbB 4 rfl) (hcC.l hbB 10 rfl) (hcC.l hbB 11 rfl) @hg
  ·exact Ds5 hbB (hwW.at 1 rfl) (hcC.l hbB 3 rfl) (hcC.l hbB 10 rfl) (hcC.l hbB 11 rfl) @hg
  ·exact Ds5 hbB (hwW.at 0 rfl) (hcC.l hbB 2 rfl) (hcC.l hbB 10 rfl) (hcC.l hbB 11 rfl) @hg
  ·exact Ds4 hbB (hcC.l hbB 1 rfl) (hcC.l hbB 10 rfl) (hcC.l hbB 11 rfl) @hg
 simp only [List.length_cons, List.length_nil, Nat.reduceAdd, Nat.reduceLT, decide_true, if_true]
 refine Dd1 @hd ?_
 refine TW_cond rfl (fun hc => ?_) (fun hc => ?_)
 ·simp at hc
 ·refine Dd0 ?_
  (refine ⟨_, Sub.trans (Sub_fix 30) (Sub_immBox (b := 0) (f := 0) (id := 30) rfl rfl rfl), ?_⟩; (try simp only [go_sem]); refine ⟨by simp, rfl, ?_⟩; simp only [go_sem, Try.results43]; refine ⟨[0], rfl, rfl, ?_⟩; (repeat' (first | rfl | trivial | refine ⟨?_, ?_⟩)))
theorem acquire1_spec (sm : List (Int × List Int)) (bx : List Bx) (p pc n kind a woken : Int) (gives : Bool) (v g : Int) (i : Nat) (hi : i < sm.length) (hl : sm.length ≤ 1000000) (hw : (smN sm i).2.length ≤ 1000000) (hc0 : (smN sm i).1 ≤ 1000000) (hp : ¬ (smN sm i).1 > 0) :
  RetH Try.prog 43 [.ptr 0 0] (jobH ⟨sm, bx, p, pc, n, kind, a, woken, gives, v, g, i⟩) (.tup []) (jobH ⟨sm.set i (acqC (smN sm i).1, acqW (smN sm i).1 (smN sm i).2 g), bx, p, pc, n, 4, a, woken, gives, v, g, i⟩) := by
 have hd : decide ((smN sm i).1 > 0) = false := decide_eq_false hp
 have hrr := sms_2 sm
 have hg := sms_get sm i hi
 refine RetH_of_body Try.func43 (by kernel_rfl) rfl (by first | (simp; done) | exact Nat.le_refl _ | (simp only [go_sem] <;> omega)) (TW_finS ?_); rw [Try.ntmps43]
 simp only [go_sem]
 refine Dd0 ?_
 refine TW_sub (Sub_bl 2) ?_
 refine TW_open mixed (by kernel_rfl) (fun b => ⟨[.ptr 0 0, .junk, if b 19 = true then .ptr 3 0 else .junk, if b 21 = true then .bool (decide ((smN sm i).fst > 0)) else .junk, if b 16 = true then .tup [.agg [.int .i64 (acqC (smN sm i).fst), .sl false (ints (acqW (smN sm i).fst (smN sm i).snd g))], .bool (decide ((smN sm i).fst > 0))] else .junk, if b 0 = true then .ptr 0 0 else .junk, if b 1 = true then .ptr 0 0 else .junk, if b 2 = true then .ptr 0 0 else .junk, if b 3 = true then .ptr 0 0 else .junk, if b 4 = true then .sl false (sms sm) else .junk, if b 5 = true then .ptr 0 0 else .junk, if b 6 = true then .ptr 0 0 else .junk, if b 7 = true then .ptr 0 11 else .junk, if b 8 = true then .int .i64 (↑i : Int) else .junk, if b 9 = true then .cptr [.int .i64 (smN sm i).fst, .sl false (ints (smN sm i).snd)] else .junk, if b 10 = true then .agg [.int .i64 (smN sm i).fst, .sl false (ints (smN sm i).snd)] else .junk, if b 11 = true then .ptr 0 0 else .junk, if b 12 = true then .ptr 0 0 else .junk, if b 13 = true then .ptr 0 10 else .junk, if b 14 = true then .int .i64 g else .junk, if b 15 = true then .tup [.agg [.int .i64 (acqC (smN sm i).fst), .sl false (ints (acqW (smN sm i).fst (smN sm i).snd g))], .bool (decide ((smN sm i).fst > 0))] else .junk, if b 17 = true then .agg [.int .i64 (acqC (smN sm i).fst), .sl false (ints (acqW (smN sm i).fst (smN sm i).snd g))] else .junk, if b 18 = true then .bool (decide ((smN sm i).fst > 0)) else .junk, .junk, .junk, .junk, .junk, .junk, .junk, .junk, .junk, .junk, .junk, .junk, .junk, .junk, .junk, .junk, .junk, .junk, .junk, .junk, .junk, .junk, .junk, .junk, .junk, .junk, .junk, .junk], [.box [.sl false (sms sm), .sl false (bxs bx), .int .i64 p, .int .i64 pc, .int .i64 n, .int .i64 kind, .int .i64 a, .int .i64 woken, .bool gives, .int .i64 v, .int .i64 g, .int .i64 (↑i : Int)], .un, .un, if b 20 = true then .box [.int .i64 (acqC (smN sm i).fst), .sl false (ints (acqW (smN sm i).fst (smN sm i).snd g))] else if b 19 = true then .box [.int .i64 0, .nils] else .un, .un, .un, .un, .un, .un, .un, .un, .un, .un, .un, .un, .un, .un, .un, .un, .un, .un, .un, .un, .un, .un, .un, .un, .un, .un, .un, .un, .un, .un, .un, .un, .un, .un, .un, .un, .un, .un, .un, .un, .un, .un, .un, .un, .un, .un, .un, .un], 1⟩) rfl ?_ ?_
 ·skip
  (repeat refine Di ?_ (fun b hwW hbB hcC => ?_)); (exact trivial)
  ·exact Ds22 hbB (hwW.at 0 rfl) (hwW.at 1 rfl) (hwW.at 2 rfl) (hwW.at 3 rfl) (hwW.at 4 rfl) (hwW.at 5 rfl) (hwW.at 6 rfl) (hwW.at 7 rfl) (hwW.at 8 rfl) (hwW.at 9 rfl) (hwW.at 10 rfl) (hwW.at 11 rfl) (hwW.at 12 rfl) (hwW.at 13 rfl) (hwW.at 14 rfl) (hwW.at 15 rfl) (hwW.at 16 rfl) (hwW.at 17 rfl) (hwW.at 18 rfl) (hwW.at 19 rfl) (hwW.at 20 rfl) @hg
  ·exact Ds21 hbB (hwW.at 0 rfl) (hwW.at 1 rfl) (hwW.at 2 rfl) (hwW.at 3 rfl) (hwW.at 4 rfl) (hwW.at 5 rfl) (hwW.at 6 rfl) (hwW.at 7 rfl) (hwW.at 8 rfl) (hwW.at 9 rfl) (hwW.at 10 rfl) (hwW.at 11 rfl) (hwW.at 12 rfl) (hwW.at 13 rfl) (hwW.at 14 rfl) (hwW.at 15 rfl) (hwW.at 16 rfl) (hwW.at 17 rfl) (hwW.at 19 rfl) (hcC.l hbB 21 rfl) @hg
  ·exact Ds3 hbB (hcC.l hbB 20 rfl) (hcC.l hbB 21 rfl) @hg
  ·have w16 := hwW.at 16 rfl; exact Ds4 hbB ((hcC 16 _ rfl w16).at 15 rfl) w16 (hcC.l hbB 21 rfl) @hg
  ·have w16 := hwW.at 16 rfl; exact Ds5 hbB ((hcC 16 _ rfl w16).at 15 rfl) w16 (hcC.l hbB 20 rfl) (hcC.l hbB 21 rfl) @hg
  ·exact Ds6 hbB (hwW.at 15 rfl) (hcC.l hbB 17 rfl) (hcC.l hbB 18 rfl) (hcC.l hbB 20 rfl) (hcC.l hbB 21 rfl) @hg
  ·exact Dkpu6 hbB (hwW.at 10 rfl) (hwW.at 14 rfl) (hcC.l hbB 16 rfl) (hcC.l hbB 20 rfl) (hcC.l hbB 21 rfl) @hg (acq_spec false (smN sm i).1 (smN sm i).2 g hw (by omega))
  ·exact Ds5 hbB (hwW.at 13 rfl) (hcC.l hbB 15 rfl) (hcC.l hbB 20 rfl) (hcC.l hbB 21 rfl) @hg
  ·have l14 := hcC.l hbB 14 rfl; exact Ds6 hbB (hwW.at 12 rfl) l14 (hcC.l l14 15 rfl) (hcC.l hbB 20 rfl) (hcC.l hbB 21 rfl) @hg
  ·have l13 := hcC.l hbB 13 rfl; have l14 := hcC.l l13 14 rfl; exact Ds6 hbB (hwW.at 11 rfl) l13 (hcC.l l14 15 rfl) (hcC.l hbB 20 rfl) (hcC.l hbB 21 rfl) @hg
  ·have l12 := hcC.l hbB 12 rfl; have l13 := hcC.l l12 13 rfl; have l14 := hcC.l l13 14 rfl; exact Ds5 hbB l12 (hcC.l l14 15 rfl) (hcC.l hbB 20 rfl) (hcC.l hbB 21 rfl) @hg
  ·exact Ds5 hbB (hwW.at 9 rfl) (hcC.l hbB 15 rfl) (hcC.l hbB 20 rfl) (hcC.l hbB 21 rfl) @hg
  ·have l10 := hcC.l hbB 10 rfl; exact Ds7 hbB (hwW.at 4 rfl) (hwW.at 8 rfl) l10 (hcC.l l10 15 rfl) (hcC.l hbB 20 rfl) (hcC.l hbB 21 rfl) @hg
  ·have l9 := hcC.l hbB 9 rfl; have l10 := hcC.l l9 10 rfl; exact Ds6 hbB (hwW.at 7 rfl) l9 (hcC.l l10 15 rfl) (hcC.l hbB 20 rfl) (hcC.l hbB 21 rfl) @hg
  ·have l8 := hcC.l hbB 8 rfl; have l9 := hcC.l l8 9 rfl; have l10 := hcC.l l9 10 rfl; exact Ds6 hbB (hwW.at 6 rfl) l8 (hcC.l l10 15 rfl) (hcC.l hbB 20 rfl) (hcC.l hbB 21 rfl) @hg
  ·have l7 := hcC.l hbB 7 rfl; have l8 := hcC.l l7 8 rfl; have l9 := hcC.l l8 9 rfl; have l10 := hcC.l l9 10 rfl; exact Ds6 hbB (hwW.at 5 rfl) l7 (hcC.l l10 15 rfl) (hcC.l hbB 20 rfl) (hcC.l hbB 21 rfl) @hg
  ·have l6 := hcC.l hbB 6 rfl; have l7 := hcC.l l6 7 rfl; have l8 := hcC.l l7 8 rfl; have l9 := hcC.l l8 9 rfl; have l10 := hcC.l l9 10 rfl; exact Ds5 hbB l6 (hcC.l l10 15 rfl) (hcC.l hbB 20 rfl) (hcC.l hbB 21 rfl) @hg
  ·have l9 := hcC.l hbB 9 rfl; have l10 := hcC.l l9 10 rfl; exact Ds6 hbB (hwW.at 3 rfl) l9 (hcC.l l10 15 rfl) (hcC.l hbB 20 rfl) (hcC.l hbB 21 rfl) @hg
  ·have l4 := hcC.l hbB 4 rfl; have l9 := hcC.l l4 9 rfl; have l10 := hcC.l l9 10 rfl; exact Ds6 hbB (hwW.at 2 rfl) l4 (hcC.l l10 15 rfl) (hcC.l hbB 20 rfl) (hcC.l hbB 21 rfl) @hg
  ·have l3 := hcC.l hbB 3 rfl; have l4 := hcC.l l3 4 rfl; have l9 := hcC.l l4 9 rfl; have l10 := hcC.l l9 10 rfl; exact Ds6 hbB (hwW.at 1 rfl) l3 (hcC.l l10 15 rfl) (hcC.l hbB 20 rfl) (hcC.l hbB 21 rfl) @hg
  ·have l2 := hcC.l hbB 2 rfl; have l3 := hcC.l l2 3 rfl; have l4 := hcC.l l3 4 rfl; have l9 := hcC.l l4 9 rfl; have l10 := hcC.l l9 10 rfl; exact Ds6 hbB (hwW.at 0 rfl) l2 (hcC.l l10 15 rfl) (hcC.l hbB 20 rfl) (hcC.l hbB 21 rfl) @hg
  ·have l1 := hcC.l hbB 1 rfl; have l2 := hcC.l l1 2 rfl; have l3 := hcC.l l2 3 rfl; have l4 := hcC.l l3 4 rfl; have l9 := hcC.l l4 9 rfl; have l10 := hcC.l l9 10 rfl; exact Ds5 hbB l1 (hcC.l l10 15 rfl) (hcC.l hbB 20 rfl) (hcC.l hbB 21 rfl) @hg
 simp only [List.length_cons, List.length_nil, Nat.reduceAdd, Nat.reduceLT, decide_true, if_true]
 refine Dd0 ?_
 refine Dar0 (cloneS_spec false sm hl) ?_
 refine Dd0 ?_
 refine TW_sub (Sub_bl 8589934578) ?_
 refine TW_open mixed (by kernel_rfl) (fun b => ⟨[.ptr 0 0, .junk, .ptr 3 0, .bool (decide ((smN sm i).fst > 0)), .junk, .junk, .junk, .junk, .junk, .junk, .junk, .junk, .junk, .junk, .junk, .junk, .junk, .junk, .junk, .junk, .junk, .junk, .junk, .junk, .junk, .junk, .junk, .junk, .junk, .junk, .junk, .junk, .junk, if b 0 = true then .ptr 0 0 else .junk, if b 1 = true then .ptr 0 0 else .junk, if b 2 = true then .ptr 0 0 else .junk, if b 3 = true then .ptr 0 0 else .junk, if b 4 = true then .bsl 30 else .junk, if b 5 = true then .ptr 0 0 else .junk, if b 6 = true then .ptr 0 0 else .junk, if b 7 = true then .ptr 0 11 else .junk, if b 8 = true then .int .i64 (↑i : Int) else .junk, if b 9 = true then .agg [.int .i64 (acqC (smN sm i).fst), .sl false (ints (acqW (smN sm i).fst (smN sm i).snd g))] else .junk, if b 10 = true then .eptr 30 i 2 0 else .junk, .junk, .junk, .junk, .junk, .junk, .junk], [.box [.bsl 30, .sl false (bxs bx), .int .i64 p, .int .i64 pc, .int .i64 n, .int .i64 kind, .int .i64 a, .int .i64 woken, .bool gives, .int .i64 v, .int .i64 g, .int .i64 (↑i : Int)], .un, .un, .box [.int .i64 (acqC (smN sm i).fst), .sl false (ints (acqW (smN sm i).fst (smN sm i).snd g))], .un, .un, .un, .un, .un, .un, .un, .un, .un, .un, .un, .un, .un, .un, .un, .un, .un, .un, .un, .un, .un, .un, .un, .un, .un, .un, if b 11 = true then .arr 74 2 (sms (sm.set i (acqC (smN sm i).fst, acqW (smN sm i).fst (smN sm i).snd g))) else .arr 74 2 (sms sm), .un, .un, .un, .un, .un, .un, .un, .un, .un, .un, .un, .un, .un, .un, .un, .un, .un, .un, .un, .un], 1⟩) rfl ?_ ?_
 ·skip
  (repeat refine Di ?_ (fun b hwW hbB hcC => ?_)); (exact trivial)
  ·exact Ds12 hbB (hwW.at 0 rfl) (hwW.at 1 rfl) (hwW.at 2 rfl) (hwW.at 3 rfl) (hwW.at 4 rfl) (hwW.at 5 rfl) (hwW.at 6 rfl) (hwW.at 7 rfl) (hwW.at 8 rfl) (hwW.at 9 rfl) (hwW.at 10 rfl) @hg
  ·exact Ds12 hbB (hwW.at 0 rfl) (hwW.at 1 rfl) (hwW.at 2 rfl) (hwW.at 3 rfl) (hwW.at 4 rfl) (hwW.at 5 rfl) (hwW.at 6 rfl) (hwW.at 7 rfl) (hwW.at 8 rfl) (hwW.at 9 rfl) (hcC.l hbB 11 rfl) @hg
  ·exact Ds3 hbB (hcC.l hbB 10 rfl) (hcC.l hbB 11 rfl) @hg
  ·exact Ds4 hbB (hwW.at 7 rfl) (hcC.l hbB 10 rfl) (hcC.l hbB 11 rfl) @hg
  ·exact Ds5 hbB (hwW.at 6 rfl) (hcC.l hbB 8 rfl) (hcC.l hbB 10 rfl) (hcC.l hbB 11 rfl) @hg
  ·exact Ds5 hbB (hwW.at 5 rfl) (hcC.l hbB 7 rfl) (hcC.l hbB 10 rfl) (hcC.l hbB 11 rfl) @hg
  ·exact Ds4 hbB (hcC.l hbB 6 rfl) (hcC.l hbB 10 rfl) (hcC.l hbB 11 rfl) @hg
  ·exact Ds4 hbB (hwW.at 3 rfl) (hcC.l hbB 10 rfl) (hcC.l hbB 11 rfl) @hg
  ·exact Ds5 hbB (hwW.at 2 rfl) (hcC.l hbB 4 rfl) (hcC.l hbB 10 rfl) (hcC.l hbB 11 rfl) @hg
  ·exact Ds5 hbB (hwW.at 1 rfl) (hcC.l hbB 3 rfl) (hcC.l hbB 10 rfl) (hcC.l hbB 11 rfl) @hg
  ·exact Ds5 hbB (hwW.at 0 rfl) (hcC.l hbB 2 rfl) (hcC.l hbB 10 rfl) (hcC.l hbB 11 rfl) @hg
  ·exact Ds4 hbB (hcC.l hbB 1 rfl) (hcC.l hbB 10 rfl) (hcC.l hbB 11 rfl) @hg
 simp only [List.length_cons, List.length_nil, Nat.reduceAdd, Nat.reduceLT, decide_true, if_true]
 refine Dd1 @hd ?_
 refine TW_cond rfl (fun hc => ?_) (fun hc => ?_)
 ·refine Dd0 ?_
  (refine ⟨_, Sub.trans (Sub_fix 30) (Sub_immBox (b := 0) (f := 0) (id := 30) rfl rfl rfl), ?_⟩; (try simp only [go_sem]); refine ⟨by simp, rfl, ?_⟩; simp only [go_sem, Try.results43]; refine ⟨[0], rfl, rfl, ?_⟩; (repeat' (first | rfl | trivial | refine ⟨?_, ?_⟩)))
 ·simp at hc
theorem release_spec (sm : List (Int × List Int)) (bx : List Bx) (p pc n kind a woken : Int) (gives : Bool) (v g : Int) (i : Nat) (hi : i < sm.length) (hl : sm.length ≤ 1000000) (hw : (smN sm i).2.length ≤ 1000000) (hc0 : 0 ≤ (smN sm i).1 ∧ (smN sm i).1 ≤ 1000000) :
  RetH Try.prog 44 [.ptr 0 0] (jobH ⟨sm, bx, p, pc, n, kind, a, woken, gives, v, g, i⟩) (.tup []) (jobH ⟨sm.set i (relC (smN sm i).1 (smN sm i).2, (smN sm i).2.drop 1), bx, p, pc, n, kind, a, (smN sm i).2.headD 0, gives, v, g, i⟩) := by
 have hrr := sms_2 sm
 have hg := sms_get sm i hi
 refine RetH_of_body Try.func44 (by kernel_rfl) rfl (by first | (simp; done) | exact Nat.le_refl _ | (simp only [go_sem] <;> omega)) (TW_finS ?_); rw [Try.ntmps44]
 simp only [go_sem]
 refine Dd0 ?_
 refine TW_sub (Sub_bl 2) ?_
 refine TW_open mixed (by kernel_rfl) (fun b => ⟨[.ptr 0 0, .junk, if b 15 = true then .ptr 3 0 else .junk, if b 17 = true then .int .i64 ((smN sm i).snd.headD 0) else .junk, if b 12 = true then .tup [.agg [.int .i64 (relC (smN sm i).fst (smN sm i).snd), .sl false (ints (List.drop 1 (smN sm i).snd))], .int .i64 ((smN sm i).snd.headD 0)] else .junk, if b 0 = true then .ptr 0 0 else .junk, if b 1 = true then .ptr 0 0 else .junk, if b 2 = true then .ptr 0 0 else .junk, if b 3 = true then .ptr 0 0 else .junk, if b 4 = true then .sl false (sms sm) else .junk, if b 5 = true then .ptr 0 0 else .junk, if b 6 = true then .ptr 0 0 else .junk, if b 7 = true then .ptr 0 11 else .junk, if b 8 = true then .int .i64 (↑i : Int) else .junk, if b 9 = true then .cptr [.int .i64 (smN sm i).fst, .sl false (ints (smN sm i).snd)] else .junk, if b 10 = true then .agg [.int .i64 (smN sm i).fst, .sl false (ints (smN sm i).snd)] else .junk, if b 11 = true then .tup [.agg [.int .i64 (relC (smN sm i).fst (smN sm i).snd), .sl false (ints (List.drop 1 (smN sm i).snd))], .int .i64 ((smN sm i).snd.headD 0)] else .junk, if b 13 = true then .agg [.int .i64 (relC (smN sm i).fst (smN sm i).snd), .sl false (ints (List.drop 1 (smN sm i).snd))] else .junk, if b 14 = true then .int .i64 ((smN sm i).snd.headD 0) else .junk, .junk, .junk, .junk, .junk, .junk, .junk, .junk, .junk, .junk, .junk, .junk, .junk, .junk, .junk, .junk, .junk, .junk, .junk, .junk, .junk, .junk, .junk, .junk, .junk, .junk, .junk], [.box [.sl false (sms sm), .sl false (bxs bx), .int .i64 p, .int .i64 pc, .int .i64 n, .int .i64 kind, .int .i64 a, .int .i64 woken, .bool gives, .int .i64 v, .int .i64 g, .int .i64 (↑i : Int)], .un, .un, if b 16 = true then .box [.int .i64 (relC (smN sm i).fst (smN sm i).snd), .sl false (ints (List.drop 1 (smN sm i).snd))] else if b 15 = true then .box [.int .i64 0, .nils] else .un, .un, .un, .un, .un, .un, .un, .un, .un, .un, .un, .un, .un, .un, .un, .un, .un, .un, .un, .un, .un, .un, .un, .un, .un, .un, .un, .un, .un, .un, .un, .un, .un, .un, .un, .un, .un, .un, .un, .un, .un, .un, .un], 1⟩) rfl ?_ ?_
 ·skip
  (repeat refine Di ?_ (fun b hwW hbB hcC => ?_)); (exact trivial)
  ·exact Ds18 hbB (hwW.at 0 rfl) (hwW.at 1 rfl) (hwW.at 2 rfl) (hwW.at 3 rfl) (hwW.at 4 rfl) (hwW.at 5 rfl) (hwW.at 6 rfl) (hwW.at 7 rfl) (hwW.at 8 rfl) (hwW.at 9 rfl) (hwW.at 10 rfl) (hwW.at 11 rfl) (hwW.at 12 rfl) (hwW.at 13 rfl) (hwW.at 14 rfl) (hwW.at 15 rfl) (hwW.at 16 rfl) @hg
  ·exact Ds17 hbB (hwW.at 0 rfl) (hwW.at 1 rfl) (hwW.at 2 rfl) (hwW.at 3 rfl) (hwW.at 4 rfl) (hwW.at 5 rfl) (hwW.at 6 rfl) (hwW.at 7 rfl) (hwW.at 8 rfl) (hwW.at 9 rfl) (hwW.at 10 rfl) (hwW.at 11 rfl) (hwW.at 12 rfl) (hwW.at 13 rfl) (hwW.at 15 rfl) (hcC.l hbB 17 rfl) @hg
  ·exact Ds3 hbB (hcC.l hbB 16 rfl) (hcC.l hbB 17 rfl) @hg
  ·have w12 := hwW.at 12 rfl; exact Ds4 hbB ((hcC 12 _ rfl w12).at 11 rfl) w12 (hcC.l hbB 17 rfl) @hg
  ·have w12 := hwW.at 12 rfl; exact Ds5 hbB ((hcC 12 _ rfl w12).at 11 rfl) w12 (hcC.l hbB 16 rfl) (hcC.l hbB 17 rfl) @hg
  ·exact Ds6 hbB (hwW.at 11 rfl) (hcC.l hbB 13 rfl) (hcC.l hbB 14 rfl) (hcC.l hbB 16 rfl) (hcC.l hbB 17 rfl) @hg
  ·exact Dkpu5 hbB (hwW.at 10 rfl) (hcC.l hbB 12 rfl) (hcC.l hbB 16 rfl) (hcC.l hbB 17 rfl) @hg (rel_spec false (smN sm i).1 (smN sm i).2 hw (by omega))
  ·exact Ds5 hbB (hwW.at 9 rfl) (hcC.l hbB 11 rfl) (hcC.l hbB 16 rfl) (hcC.l hbB 17 rfl) @hg
  ·have l10 := hcC.l hbB 10 rfl; exact Ds7 hbB (hwW.at 4 rfl) (hwW.at 8 rfl) l10 (hcC.l l10 11 rfl) (hcC.l hbB 16 rfl) (hcC.l hbB 17 rfl) @hg
  ·have l9 := hcC.l hbB 9 rfl; have l10 := hcC.l l9 10 rfl; exact Ds6 hbB (hwW.at 7 rfl) l9 (hcC.l l10 11 rfl) (hcC.l hbB 16 rfl) (hcC.l hbB 17 rfl) @hg
  ·have l8 := hcC.l hbB 8 rfl; have l9 := hcC.l l8 9 rfl; have l10 := hcC.l l9 10 rfl; exact Ds6 hbB (hwW.at 6 rfl) l8 (hcC.l l10 11 rfl) (hcC.l hbB 16 rfl) (hcC.l hbB 17 rfl) @hg
  ·have l7 := hcC.l hbB 7 rfl; have l8 := hcC.l l7 8 rfl; have l9 := hcC.l l8 9 rfl; have l10 := hcC.l l9 10 rfl; exact Ds6 hbB (hwW.at 5 rfl) l7 (hcC.l l10 11 rfl) (hcC.l hbB 16 rfl) (hcC.l hbB 17 rfl) @hg
  ·have l6 := hcC.l hbB 6 rfl; have l7 := hcC.l l6 7 rfl; have l8 := hcC.l l7 8 rfl; have l9 := hcC.l l8 9 rfl; have l10 := hcC.l l9 10 rfl; exact Ds5 hbB l6 (hcC.l l10 11 rfl) (hcC.l hbB 16 rfl) (hcC.l hbB 17 rfl) @hg
  ·have l9 := hcC.l hbB 9 rfl; have l10 := hcC.l l9 10 rfl; exact Ds6 hbB (hwW.at 3 rfl) l9 (hcC.l l10 11 rfl) (hcC.l hbB 16 rfl) (hcC.l hbB 17 rfl) @hg
  ·have l4 := hcC.l hbB 4 rfl; have l9 := hcC.l l4 9 rfl; have l10 := hcC.l l9 10 rfl; exact Ds6 hbB (hwW.at 2 rfl) l4 (hcC.l l10 11 rfl) (hcC.l hbB 16 rfl) (hcC.l hbB 17 rfl) @hg
  ·have l3 := hcC.l hbB 3 rfl; have l4 := hcC.l l3 4 rfl; have l9 := hcC.l l4 9 rfl; have l10 := hcC.l l9 10 rfl; exact Ds6 hbB (hwW.at 1 rfl) l3 (hcC.l l10 11 rfl) (hcC.l hbB 16 rfl) (hcC.l hbB 17 rfl) @hg
  ·have l2 := hcC.l hbB 2 rfl; have l3 := hcC.l l2 3 rfl; have l4 := hcC.l l3 4 rfl; have l9 := hcC.l l4 9 rfl; have l10 := hcC.l l9 10 rfl; exact Ds6 hbB (hwW.at 0 rfl) l2 (hcC.l l10 11 rfl) (hcC.l hbB 16 rfl) (hcC.l hbB 17 rfl) @hg
  ·have l1 := hcC.l hbB 1 rfl; have l2 := hcC.l l1 2 rfl; have l3 := hcC.l l2 3 rfl; have l4 := hcC.l l3 4 rfl; have l9 := hcC.l l4 9 rfl; have l10 := hcC.l l9 10 rfl; exact Ds5 hbB l1 (hcC.l l10 11 rfl) (hcC.l hbB 16 rfl) (hcC.l hbB 17 rfl) @hg
 simp only [List.length_cons, List.length_nil, Nat.reduceAdd, Nat.reduceLT, decide_true, if_true]
 refine Dd0 ?_
 refine Dar0 (cloneS_spec false sm hl) ?_
 refine Dd0 ?_
 refine TW_sub (Sub_bl 536870898) ?_
 refine TW_open mixed (by kernel_rfl) (fun b => ⟨[.ptr 0 0, .junk, .ptr 3 0, .int .i64 ((smN sm i).snd.headD 0), .junk, .junk, .junk, .junk, .junk, .junk, .junk, .junk, .junk, .junk, .junk, .junk, .junk, .junk, .junk, .junk, .junk, .junk, .junk, .junk, .junk, .junk, .junk, .junk, .junk, if b 0 = true then .ptr 0 0 else .junk, if b 1 = true then .ptr 0 0 else .junk, if b 2 = true then .ptr 0 0 else .junk, if b 3 = true then .ptr 0 0 else .junk, if b 4 = true then .bsl 26 else .junk, if b 5 = true then .ptr 0 0 else .junk, if b 6 = true then .ptr 0 0 else .junk, if b 7 = true then .ptr 0 11 else .junk, if b 8 = true then .int .i64 (↑i : Int) else .junk, if b 9 = true then .ptr 0 0 else .junk, if b 10 = true then .agg [.int .i64 (relC (smN sm i).fst (smN sm i).snd), .sl false (ints (List.drop 1 (smN sm i).snd))] else .junk, if b 11 = true then .int .i64 ((smN sm i).snd.headD 0) else .junk, if b 12 = true then .eptr 26 i 2 0 else .junk, if b 14 = true then .ptr 0 0 else .junk, if b 15 = true then .ptr 0 5 else .junk, if b 16 = true then .ptr 0 7 else .junk], [if b 17 = true then .box [.bsl 26, .sl false (bxs bx), .int .i64 p, .int .i64 pc, .int .i64 n, .int .i64 kind, .int .i64 a, .int .i64 ((smN sm i).snd.headD 0), .bool gives, .int .i64 v, .int .i64 g, .int .i64 (↑i : Int)] else .box [.bsl 26, .sl false (bxs bx), .int .i64 p, .int .i64 pc, .int .i64 n, .int .i64 kind, .int .i64 a, .int .i64 woken, .bool gives, .int .i64 v, .int .i64 g, .int .i64 (↑i : Int)], .un, .un, .box [.int .i64 (relC (smN sm i).fst (smN sm i).snd), .sl false (ints (List.drop 1 (smN sm i).snd))], .un, .un, .un, .un, .un, .un, .un, .un, .un, .un, .un, .un, .un, .un, .un, .un, .un, .un, .un, .un, .un, .un, if b 13 = true then .arr 74 2 (sms (sm.set i (relC (smN sm i).fst (smN sm i).snd, List.drop 1 (smN sm i).snd))) else .arr 74 2 (sms sm), .un, .un, .un, .un, .un, .un, .un, .un, .un, .un, .un, .un, .un, .un, .un, .un, .un, .un, .un], 1⟩) rfl ?_ ?_
 ·skip
  (repeat refine Di ?_ (fun b hwW hbB hcC => ?_)); (exact trivial)
  ·exact Ds16 hbB (hwW.at 0 rfl) (hwW.at 1 rfl) (hwW.at 2 rfl) (hwW.at 3 rfl) (hwW.at 4 rfl) (hwW.at 5 rfl) (hwW.at 6 rfl) (hwW.at 7 rfl) (hwW.at 8 rfl) (hwW.at 9 rfl) (hwW.at 10 rfl) (hwW.at 11 rfl) (hwW.at 12 rfl) (hwW.at 13 rfl) (hwW.at 16 rfl) @hg
  ·exact Ds17 hbB (hwW.at 0 rfl) (hwW.at 1 rfl) (hwW.at 2 rfl) (hwW.at 3 rfl) (hwW.at 4 rfl) (hwW.at 5 rfl) (hwW.at 6 rfl) (hwW.at 7 rfl) (hwW.at 8 rfl) (hwW.at 9 rfl) (hwW.at 10 rfl) (hwW.at 11 rfl) (hwW.at 12 rfl) (hwW.at 13 rfl) (hwW.at 15 rfl) (hcC.l hbB 17 rfl) @hg
  ·have l16 := hcC.l hbB 16 rfl; exact Ds18 hbB (hwW.at 0 rfl) (hwW.at 1 rfl) (hwW.at 2 rfl) (hwW.at 3 rfl) (hwW.at 4 rfl) (hwW.at 5 rfl) (hwW.at 6 rfl) (hwW.at 7 rfl) (hwW.at 8 rfl) (hwW.at 9 rfl) (hwW.at 10 rfl) (hwW.at 11 rfl) (hwW.at 12 rfl) (hwW.at 13 rfl) (hwW.at 14 rfl) l16 (hcC.l l16 17 rfl) @hg
  ·have l15 := hcC.l hbB 15 rfl; have l16 := hcC.l l15 16 rfl; exact Ds17 hbB (hwW.at 0 rfl) (hwW.at 1 rfl) (hwW.at 2 rfl) (hwW.at 3 rfl) (hwW.at 4 rfl) (hwW.at 5 rfl) (hwW.at 6 rfl) (hwW.at 7 rfl) (hwW.at 8 rfl) (hwW.at 9 rfl) (hwW.at 10 rfl) (hwW.at 11 rfl) (hwW.at 12 rfl) (hwW.at 13 rfl) l15 (hcC.l l16 17 rfl) @hg
  ·exact Ds16 hbB (hwW.at 0 rfl) (hwW.at 1 rfl) (hwW.at 2 rfl) (hwW.at 3 rfl) (hwW.at 4 rfl) (hwW.at 5 rfl) (hwW.at 6 rfl) (hwW.at 7 rfl) (hwW.at 8 rfl) (hwW.at 10 rfl) (hwW.at 12 rfl) (hcC.l hbB 14 rfl) (hcC.l hbB 15 rfl) (hcC.l hbB 16 rfl) (hcC.l hbB 17 rfl) @hg
  ·exact Ds16 hbB (hwW.at 0 rfl) (hwW.at 1 rfl) (hwW.at 2 rfl) (hwW.at 3 rfl) (hwW.at 4 rfl) (hwW.at 5 rfl) (hwW.at 6 rfl) (hwW.at 7 rfl) (hwW.at 8 rfl) (hwW.at 10 rfl) (hcC.l hbB 13 rfl) (hcC.l hbB 14 rfl) (hcC.l hbB 15 rfl) (hcC.l hbB 16 rfl) (hcC.l hbB 17 rfl) @hg
  ·exact Ds5 hbB (hcC.l hbB 14 rfl) (hcC.l hbB 15 rfl) (hcC.l hbB 16 rfl) (hcC.l hbB 17 rfl) @hg
  ·exact Ds7 hbB (hcC.l hbB 12 rfl) (hcC.l hbB 13 rfl) (hcC.l hbB 14 rfl) (hcC.l hbB 15 rfl) (hcC.l hbB 16 rfl) (hcC.l hbB 17 rfl) @hg
  ·exact Ds5 hbB (hcC.l hbB 14 rfl) (hcC.l hbB 15 rfl) (hcC.l hbB 16 rfl) (hcC.l hbB 17 rfl) @hg
  ·exact Ds8 hbB (hwW.at 7 rfl) (hcC.l hbB 12 rfl) (hcC.l hbB 13 rfl) (hcC.l hbB 14 rfl) (hcC.l hbB 15 rfl) (hcC.l hbB 16 rfl) (hcC.l hbB 17 rfl) @hg
  ·exact Ds9 hbB (hwW.at 6 rfl) (hcC.l hbB 8 rfl) (hcC.l hbB 12 rfl) (hcC.l hbB 13 rfl) (hcC.l hbB 14 rfl) (hcC.l hbB 15 rfl) (hcC.l hbB 16 rfl) (hcC.l hbB 17 rfl) @hg
  ·exact Ds9 hbB (hwW.at 5 rfl) (hcC.l hbB 7 rfl) (hcC.l hbB 12 rfl) (hcC.l hbB 13 rfl) (hcC.l hbB 14 rfl) (hcC.l hbB 15 rfl) (hcC.l hbB 16 rfl) (hcC.l hbB 17 rfl) @hg
  ·exact Ds8 hbB (hcC.l hbB 6 rfl) (hcC.l hbB 12 rfl) (hcC.l hbB 13 rfl) (hcC.l hbB 14 rfl) (hcC.l hbB 15 rfl) (hcC.l hbB 16 rfl) (hcC.l hbB 17 rfl) @hg
  ·exact Ds8 hbB (hwW.at 3 rfl) (hcC.l hbB 12 rfl) (hcC.l hbB 13 rfl) (hcC.l hbB 14 rfl) (hcC.l hbB 15 rfl) (hcC.l hbB 16 rfl) (hcC.l hbB 17 rfl) @hg
  ·exact Ds9 hbB (hwW.at 2 rfl) (hcC.l hbB 4 rfl) (hcC.l hbB 12 rfl) (hcC.l hbB 13 rfl) (hcC.l hbB 14 rfl) (hcC.l hbB 15 rfl) (hcC.l hbB 16 rfl) (hcC.l hbB 17 rfl) @hg
  ·exact Ds9 hbB (hwW.at 1 rfl) (hcC.l hbB 3 rfl) (hcC.l hbB 12 rfl) (hcC.l hbB 13 rfl) (hcC.l hbB 14 rfl) (hcC.l hbB 15 rfl) (hcC.l hbB 16 rfl) (hcC.l hbB 17 rfl) @hg
  ·exact Ds9 hbB (hwW.at 0 rfl) (hcC.l hbB 2 rfl) (hcC.l hbB 12 rfl) (hcC.l hbB 13 rfl) (hcC.l hbB 14 rfl) (hcC.l hbB 15 rfl) (hcC.l hbB 16 rfl) (hcC.l hbB 17 rfl) @hg
  ·exact Ds8 hbB (hcC.l hbB 1 rfl) (hcC.l hbB 12 rfl) (hcC.l hbB 13 rfl) (hcC.l hbB 14 rfl) (hcC.l hbB 15 rfl) (hcC.l hbB 16 rfl) (hcC.l hbB 17 rfl) @hg
 simp only [List.length_cons, List.length_nil, Nat.reduceAdd, Nat.reduceLT, decide_true, if_true]
 refine Dd0 ?_
 (refine ⟨_, Sub.trans (Sub_fix 26) (Sub_immBox (b := 0) (f := 0) (id := 26) rfl rfl rfl), ?_⟩; (try simp only [go_sem]); refine ⟨by simp, rfl, ?_⟩; simp only [go_sem, Try.results44]; refine ⟨[0], rfl, rfl, ?_⟩; (repeat' (first | rfl | trivial | refine ⟨?_, ?_⟩)))
def bsend (b0 : Bx) (g n : Int) : Bx × Int × Bool :=
 if b0.w ≠ [] then (⟨b0.r, b0.m, b0.s, b0.w.drop 1⟩, b0.w.getD 0 0, true)
 else if (b0.m.length : Int) < b0.r then (⟨b0.r, b0.m ++ [n], b0.s, []⟩, 0, true)
 else (⟨b0.r, b0.m, b0.s ++ [(g, n)], []⟩, 0, false)
def brecv (b0 : Bx) (g : Int) : Bx × Int × Int × Bool :=
 if b0.s ≠ [] then (⟨b0.r, (b0.m ++ [(b0.s.getD 0 (0, 0)).2]).drop 1, b0.s.drop 1, b0.w⟩, (b0.m ++ [(b0.s.getD 0 (0, 0)).2]).getD 0 0, (b0.s.getD 0 (0, 0)).1, true)
 else if b0.m ≠ [] then (⟨b0.r, b0.m.drop 1, [], b0.w⟩, b0.m.getD 0 0, 0, true)
 else (⟨b0.r, [], [], b0.w ++ [g]⟩, 0, 0, false)
def bxa (x : Bx) : AV := .agg [.int .i64 x.r, .sl false (ints x.m), .sl false (mails x.s), .sl false (ints x.w)]
theorem bsend_57 (x : Bx) (g n : Int) (hm : x.m.length ≤ 999999) (hs : x.s.length ≤ 1000000) (hw : x.w.length ≤ 1000000) : Ret Try.prog 57 [bxa x, .int .i64 g, .int .i64 n] (.tup [bxa (bsend x g n).1, .int .i64 (bsend x g n).2.1, .bool (bsend x g n).2.2]) := by
 unfold bsend
 by_cases h : x.w = []
 ·rw [if_neg (by simpa using h)]
  by_cases h2 : (x.m.length : Int) < x.r
  ·rw [if_pos h2]; exact (h ▸ send2_spec x.r x.m x.s x.w g n hm hs hw h h2)
  ·rw [if_neg h2]; exact (h ▸ send3_spec x.r x.m x.s x.w g n hm hs hw h h2)
 ·rw [if_pos h]; exact send1_spec x.r x.m x.s x.w g n hm hs hw (List.length_pos_iff.2 h)
theorem bsend_31 (x : Bx) (g n : Int) (hm : x.m.length ≤ 999999) (hs : x.s.length ≤ 1000000) (hw : x.w.length ≤ 1000000) : Ret Try.prog 31 [bxa x, .int .i64 g, .int .i64 n] (.tup [bxa (bsend x g n).1, .int .i64 (bsend x g n).2.1, .bool (bsend x g n).2.2]) := by
 unfold bsend
 by_cases h : x.w = []
 ·rw [if_neg (by simpa using h)]
  by_cases h2 : (x.m.length : Int) < x.r
  ·rw [if_pos h2]; exact (h ▸ xsend2_spec x.r x.m x.s x.w g n (by omega) hs hw h h2)
  ·rw [if_neg h2]; exact (h ▸ xsend3_spec x.r x.m x.s x.w g n (by omega) hs hw h h2)
 ·rw [if_pos h]; exact xsend1_spec x.r x.m x.s x.w g n (by omega) hs hw (List.length_pos_iff.2 h)
theorem brecv_59 (x : Bx) (g : Int) (hm : x.m.length ≤ 999999) (hs : x.s.length ≤ 1000000) (hw : x.w.length ≤ 1000000) : Ret Try.prog 59 [bxa x, .int .i64 g] (.tup [bxa (brecv x g).1, .int .i64 (brecv x g).2.1, .int .i64 (brecv x g).2.2.1, .bool (brecv x g).2.2.2]) := by
 unfold brecv
 by_cases h : x.s = []
 ·rw [if_neg (by simpa using h)]
  by_cases h2 : x.m = []
  ·rw [if_neg (by simpa using h2)]; exact recv1_spec x.r x.m x.s x.w g hm hs hw h2 h
  ·rw [if_pos h2]; exact recv2_spec x.r x.m x.s x.w g hm hs hw (List.length_pos_iff.2 h2) h
 ·rw [if_pos h]; exact recv3_spec x.r x.m x.s x.w g hm hs hw (List.length_pos_iff.2 h)
theorem brecv_33 (x : Bx) (g : Int) (hm : x.m.length ≤ 999999) (hs : x.s.length ≤ 1000000) (hw : x.w.length ≤ 1000000) : Ret Try.prog 33 [bxa x, .int .i64 g] (.tup [bxa (brecv x g).1, .int .i64 (brecv x g).2.1, .int .i64 (brecv x g).2.2.1, .bool (brecv x g).2.2.2]) := by
 unfold brecv
 by_cases h : x.s = []
 ·rw [if_neg (by simpa using h)]
  by_cases h2 : x.m = []
  ·rw [if_neg (by simpa using h2)]; exact xrecv1_spec x.r x.m x.s x.w g (by omega) hs hw h2 h
  ·rw [if_pos h2]; exact xrecv2_spec x.r x.m x.s x.w g (by omega) hs hw (List.length_pos_iff.2 h2) h
 ·rw [if_pos h]
  obtain ⟨r, m, s, w⟩ := x
  have hs0 := List.length_pos_iff.2 h
  cases m with
  | nil => exact xrecv4_spec r [] s w g hm hs hw rfl hs0
  | cons y l => exact xrecv3_spec r (y :: l) s w g hm hs hw (Nat.succ_pos _) hs0
attribute [local go_sem] bxa
theorem send0_spec (sm : List (Int × List Int)) (bx : List Bx) (p pc n kind a woken : Int) (gives : Bool) (v g : Int) (i : Nat) (hi : i < bx.length) (hl : bx.length ≤ 1000000) (hm : (bxN bx i).m.length ≤ 999999) (hs : (bxN bx i).s.length ≤ 1000000) (hw : (bxN bx i).w.length ≤ 1000000) (hok : (bsend (bxN bx i) g n).2.2 = false) :
  RetH Try.prog 45 [.ptr 0 0] (jobH ⟨sm, bx, p, pc, n, kind, a, woken, gives, v, g, i⟩) (.tup []) (jobH ⟨sm, bx.set i (bsend (bxN bx i) g n).1, p, pc, n, 4, a, (bsend (bxN bx i) g n).2.1, gives, v, g, i⟩) := by
 have hsp := bsend_57 (bxN bx i) g n hm hs hw
 generalize bsend (bxN bx i) g n = res at hsp hok ⊢
 have hrr := bxs_4 bx
 have hg := bxs_get bx i hi
 refine RetH_of_body Try.func45 (by kernel_rfl) rfl (by first | (simp; done) | exact Nat.le_refl _ | (simp only [go_sem] <;> omega)) (TW_finS ?_); rw [Try.ntmps45]
 simp only [go_sem]
 refine Dd0 ?_
 refine TW_sub (Sub_bl 2) ?_
 refine TW_open mixed (by kernel_rfl) (fun b => ⟨[.ptr 0 0, .junk, if b 25 = true then .ptr 3 0 else .junk, if b 27 = true then .int .i64 res.snd.fst else .junk, if b 28 = true then .bool res.snd.snd else .junk, if b 21 = true then .tup [.agg [.int .i64 res.fst.r, .sl false (ints res.fst.m), .sl false (mails res.fst.s), .sl false (ints res.fst.w)], .int .i64 res.snd.fst, .bool res.snd.snd] else .junk, if b 0 = true then .ptr 0 0 else .junk, if b 1 = true then .ptr 0 0 else .junk, if b 2 = true then .ptr 0 0 else .junk, if b 3 = true then .ptr 0 1 else .junk, if b 4 = true then .sl false (bxs bx) else .junk, if b 5 = true then .ptr 0 0 else .junk, if b 6 = true then .ptr 0 0 else .junk, if b 7 = true then .ptr 0 11 else .junk, if b 8 = true then .int .i64 (↑i : Int) else .junk, if b 9 = true then .cptr [.int .i64 (bxN bx i).r, .sl false (ints (bxN bx i).m), .sl false (mails (bxN bx i).s), .sl false (ints (bxN bx i).w)] else .junk, if b 10 = true then .agg [.int .i64 (bxN bx i).r, .sl false (ints (bxN bx i).m), .sl false (mails (bxN bx i).s), .sl false (ints (bxN bx i).w)] else .junk, if b 11 = true then .ptr 0 0 else .junk, if b 12 = true then .ptr 0 0 else .junk, if b 13 = true then .ptr 0 10 else .junk, if b 14 = true then .int .i64 g else .junk, if b 15 = true then .ptr 0 0 else .junk, if b 16 = true then .ptr 0 0 else .junk, if b 17 = true then .ptr 0 2 else .junk, if b 18 = true then .ptr 0 4 else .junk, if b 19 = true then .int .i64 n else .junk, if b 20 = true then .tup [.agg [.int .i64 res.fst.r, .sl false (ints res.fst.m), .sl false (mails res.fst.s), .sl false (ints res.fst.w)], .int .i64 res.snd.fst, .bool res.snd.snd] else .junk, if b 22 = true then .agg [.int .i64 res.fst.r, .sl false (ints res.fst.m), .sl false (mails res.fst.s), .sl false (ints res.fst.w)] else .junk, if b 23 = true then .int .i64 res.snd.fst else .junk, if b 24 = true then .bool res.snd.snd else .junk, .junk, .junk, .junk, .junk, .junk, .junk, .junk, .junk, .junk, .junk, .junk, .junk, .junk, .junk, .junk, .junk, .junk, .junk, .junk, .junk, .junk, .junk, .junk, .junk, .junk, .junk, .junk, .junk, .junk, .junk, .junk, .junk, .junk, .junk, .junk, .junk, .junk, .junk, .junk, .junk, .junk, .junk, .junk, .junk, .junk, .junk, .junk, .junk, .junk], [.box [.sl false (sms sm), .sl false (bxs bx), .int .i64 p, .int .i64 pc, .int .i64 n, .int .i64 kind, .int .i64 a, .int .i64 woken, .bool gives, .int .i64 v, .int .i64 g, .int .i64 (↑i : Int)], .un, .un, if b 26 = true then .box [.int .i64 res.fst.r, .sl false (ints res.fst.m), .sl false (mails res.fst.s), .sl false (ints res.fst.w)] else if b 25 = true then .box [.int .i64 0, .nils, .nils, .nils] else .un, .un, .un, .un, .un, .un, .un, .un, .un, .un, .un, .un, .un, .un, .un, .un, .un, .un, .un, .un, .un, .un, .un, .un, .un, .un, .un, .un, .un, .un, .un, .un, .un, .un, .un, .un, .un, .un, .un, .un, .un, .un, .un, .un, .un, .un, .un, .un, .un, .un, .un, .un, .un, .un, .un, .un, .un, .un, .un, .un, .un, .un, .un, .un, .un, .un, .un, .un, .un, .un, .un, .un, .un, .un, .un, .un, .un], 1⟩) rfl ?_ ?_
 ·skip
  (repeat refine Di ?_ (fun b hwW hbB hcC => ?_)); (exact trivial)
  ·exact Ds29 hbB (hwW.at 0 rfl) (hwW.at 1 rfl) (hwW.at 2 rfl) (hwW.at 3 rfl) (hwW.at 4 rfl) (hwW.at 5 rfl) (hwW.at 6 rfl) (hwW.at 7 rfl) (hwW.at 8 rfl) (hwW.at 9 rfl) (hwW.at 10 rfl) (hwW.at 11 rfl) (hwW.at 12 rfl) (hwW.at 13 rfl) (hwW.at 14 rfl) (hwW.at 15 rfl) (hwW.at 16 rfl) (hwW.at 17 rfl) (hwW.at 18 rfl) (hwW.at 19 rfl) (hwW.at 20 rfl) (hwW.at 21 rfl) (hwW.at 22 rfl) (hwW.at 23 rfl) (hwW.at 24 rfl) (hwW.at 25 rfl) (hwW.at 26 rfl) (hwW.at 27 rfl) @hg
  ·exact Ds28 hbB (hwW.at 0 rfl) (hwW.at 1 rfl) (hwW.at 2 rfl) (hwW.at 3 rfl) (hwW.at 4 rfl) (hwW.at 5 rfl) (hwW.at 6 rfl) (hwW.at 7 rfl) (hwW.at 8 rfl) (hwW.at 9 rfl) (hwW.at 10 rfl) (hwW.at 11 rfl) (hwW.at 12 rfl) (hwW.at 13 rfl) (hwW.at 14 rfl) (hwW.at 15 rfl) (hwW.at 16 rfl) (hwW.at 17 rfl) (hwW.at 18 rfl) (hwW.at 19 rfl) (hwW.at 20 rfl) (hwW.at 21 rfl) (hwW.at 22 rfl) (hwW.at 23 rfl) (hwW.at 25 rfl) (hwW.at 26 rfl) (hcC.l hbB 28 rfl) @hg
  ·exact Ds27 hbB (hwW.at 0 rfl) (hwW.at 1 rfl) (hwW.at 2 rfl) (hwW.at 3 rfl) (hwW.at 4 rfl) (hwW.at 5 rfl) (hwW.at 6 rfl) (hwW.at 7 rfl) (hwW.at 8 rfl) (hwW.at 9 rfl) (hwW.at 10 rfl) (hwW.at 11 rfl) (hwW.at 12 rfl) (hwW.at 13 rfl) (hwW.at 14 rfl) (hwW.at 15 rfl) (hwW.at 16 rfl) (hwW.at 17 rfl) (hwW.at 18 rfl) (hwW.at 19 rfl) (hwW.at 20 rfl) (hwW.at 21 rfl) (hwW.at 22 rfl) (hwW.at 25 rfl) (hcC.l hbB 27 rfl) (hcC.l hbB 28 rfl) @hg
  ·exact Ds4 hbB (hcC.l hbB 26 rfl) (hcC.l hbB 27 rfl) (hcC.l hbB 28 rfl) @hg
  ·have w21 := hwW.at 21 rfl; exact Ds4 hbB ((hcC 21 _ rfl w21).at 20 rfl) w21 (hcC.l hbB 28 rfl) @hg
  ·have w21 := hwW.at 21 rfl; exact Ds5 hbB ((hcC 21 _ rfl w21).at 20 rfl) w21 (hcC.l hbB 27 rfl) (hcC.l hbB 28 rfl) @hg
  ·have w21 := hwW.at 21 rfl; exact Ds6 hbB ((hcC 21 _ rfl w21).at 20 rfl) w21 (hcC.l hbB 26 rfl) (hcC.l hbB 27 rfl) (hcC.l hbB 28 rfl) @hg
  ·exact Ds8 hbB (hwW.at 20 rfl) (hcC.l hbB 22 rfl) (hcC.l hbB 23 rfl) (hcC.l hbB 24 rfl) (hcC.l hbB 26 rfl) (hcC.l hbB 27 rfl) (hcC.l hbB 28 rfl) @hg
  ·exact Dkpu8 hbB (hwW.at 10 rfl) (hwW.at 14 rfl) (hwW.at 19 rfl) (hcC.l hbB 21 rfl) (hcC.l hbB 26 rfl) (hcC.l hbB 27 rfl) (hcC.l hbB 28 rfl) @hg (hsp)
  ·exact Ds6 hbB (hwW.at 18 rfl) (hcC.l hbB 20 rfl) (hcC.l hbB 26 rfl) (hcC.l hbB 27 rfl) (hcC.l hbB 28 rfl) @hg
  ·have l19 := hcC.l hbB 19 rfl; exact Ds7 hbB (hwW.at 17 rfl) l19 (hcC.l l19 20 rfl) (hcC.l hbB 26 rfl) (hcC.l hbB 27 rfl) (hcC.l hbB 28 rfl) @hg
  ·have l18 := hcC.l hbB 18 rfl; have l19 := hcC.l l18 19 rfl; exact Ds7 hbB (hwW.at 16 rfl) l18 (hcC.l l19 20 rfl) (hcC.l hbB 26 rfl) (hcC.l hbB 27 rfl) (hcC.l hbB 28 rfl) @hg
  ·have l17 := hcC.l hbB 17 rfl; have l18 := hcC.l l17 18 rfl; have l19 := hcC.l l18 19 rfl; exact Ds7 hbB (hwW.at 15 rfl) l17 (hcC.l l19 20 rfl) (hcC.l hbB 26 rfl) (hcC.l hbB 27 rfl) (hcC.l hbB 28 rfl) @hg
  ·have l16 := hcC.l hbB 16 rfl; have l17 := hcC.l l16 17 rfl; have l18 := hcC.l l17 18 rfl; have l19 := hcC.l l18 19 rfl; exact Ds6 hbB l16 (hcC.l l19 20 rfl) (hcC.l hbB 26 rfl) (hcC.l hbB 27 rfl) (hcC.l hbB 28 rfl) @hg
  ·exact Ds6 hbB (hwW.at 13 rfl) (hcC.l hbB 20 rfl) (hcC.l hbB 26 rfl) (hcC.l hbB 27 rfl) (hcC.l hbB 28 rfl) @hg
  ·have l14 := hcC.l hbB 14 rfl; exact Ds7 hbB (hwW.at 12 rfl) l14 (hcC.l l14 20 rfl) (hcC.l hbB 26 rfl) (hcC.l hbB 27 rfl) (hcC.l hbB 28 rfl) @hg
  ·have l13 := hcC.l hbB 13 rfl; have l14 := hcC.l l13 14 rfl; exact Ds7 hbB (hwW.at 11 rfl) l13 (hcC.l l14 20 rfl) (hcC.l hbB 26 rfl) (hcC.l hbB 27 rfl) (hcC.l hbB 28 rfl) @hg
  ·have l12 := hcC.l hbB 12 rfl; have l13 := hcC.l l12 13 rfl; have l14 := hcC.l l13 14 rfl; exact Ds6 hbB l12 (hcC.l l14 20 rfl) (hcC.l hbB 26 rfl) (hcC.l hbB 27 rfl) (hcC.l hbB 28 rfl) @hg
  ·exact Ds6 hbB (hwW.at 9 rfl) (hcC.l hbB 20 rfl) (hcC.l hbB 26 rfl) (hcC.l hbB 27 rfl) (hcC.l hbB 28 rfl) @hg
  ·have l10 := hcC.l hbB 10 rfl; exact Ds8 hbB (hwW.at 4 rfl) (hwW.at 8 rfl) l10 (hcC.l l10 20 rfl) (hcC.l hbB 26 rfl) (hcC.l hbB 27 rfl) (hcC.l hbB 28 rfl) @hg
  ·have l9 := hcC.l hbB 9 rfl; have l10 := hcC.l l9 10 rfl; exact Ds7 hbB (hwW.at 7 rfl) l9 (hcC.l l10 20 rfl) (hcC.l hbB 26 rfl) (hcC.l hbB 27 rfl) (hcC.l hbB 28 rfl) @hg
  ·have l8 := hcC.l hbB 8 rfl; have l9 := hcC.l l8 9 rfl; have l10 := hcC.l l9 10 rfl; exact Ds7 hbB (hwW.at 6 rfl) l8 (hcC.l l10 20 rfl) (hcC.l hbB 26 rfl) (hcC.l hbB 27 rfl) (hcC.l hbB 28 rfl) @hg
  ·have l7 := hcC.l hbB 7 rfl; have l8 := hcC.l l7 8 rfl; have l9 := hcC.l l8 9 rfl; have l10 := hcC.l l9 10 rfl; exact Ds7 hbB (hwW.at 5 rfl) l7 (hcC.l l10 20 rfl) (hcC.l hbB 26 rfl) (hcC.l hbB 27 rfl) (hcC.l hbB 28 rfl) @hg
  ·have l6 := hcC.l hbB 6 rfl; have l7 := hcC.l l6 7 rfl; have l8 := hcC.l l7 8 rfl; have l9 := hcC.l l8 9 rfl; have l10 := hcC.l l9 10 rfl; exact Ds6 hbB l6 (hcC.l l10 20 rfl) (hcC.l hbB 26 rfl) (hcC.l hbB 27 rfl) (hcC.l hbB 28 rfl) @hg
  ·have l9 := hcC.l hbB 9 rfl; have l10 := hcC.l l9 10 rfl; exact Ds7 hbB (hwW.at 3 rfl) l9 (hcC.l l10 20 rfl) (hcC.l hbB 26 rfl) (hcC.l hbB 27 rfl) (hcC.l hbB 28 rfl) @hg
  ·have l4 := hcC.l hbB 4 rfl; have l9 := hcC.l l4 9 rfl; have l10 := hcC.l l9 10 rfl; exact Ds7 hbB (hwW.at 2 rfl) l4 (hcC.l l10 20 rfl) (hcC.l hbB 26 rfl) (hcC.l hbB 27 rfl) (hcC.l hbB 28 rfl) @hg
  ·have l3 := hcC.l hbB 3 rfl; have l4 := hcC.l l3 4 rfl; have l9 := hcC.l l4 9 rfl; have l10 := hcC.l l9 10 rfl; exact Ds7 hbB (hwW.at 1 rfl) l3 (hcC.l l10 20 rfl) (hcC.l hbB 26 rfl) (hcC.l hbB 27 rfl) (hcC.l hbB 28 rfl) @hg
  ·have l2 := hcC.l hbB 2 rfl; have l3 := hcC.l l2 3 rfl; have l4 := hcC.l l3 4 rfl; have l9 := hcC.l l4 9 rfl; have l10 := hcC.l l9 10 rfl; exact Ds7 hbB (hwW.at 0 rfl) l2 (hcC.l l10 20 rfl) (hcC.l hbB 26 rfl) (hcC.l hbB 27 rfl) (hcC.l hbB 28 rfl) @hg
  ·have l1 := hcC.l hbB 1 rfl; have l2 := hcC.l l1 2 rfl; have l3 := hcC.l l2 3 rfl; have l4 := hcC.l l3 4 rfl; have l9 := hcC.l l4 9 rfl; have l10 := hcC.l l9 10 rfl; exact Ds6 hbB l1 (hcC.l l10 20 rfl) (hcC.l hbB 26 rfl) (hcC.l hbB 27 rfl) (hcC.l hbB 28 rfl) @hg
 simp only [List.length_cons, List.length_nil, Nat.reduceAdd, Nat.reduceLT, decide_true, if_true]
 refine Dd0 ?_
 refine Dar0 (cloneB_spec false bx hl) ?_
 refine Dd0 ?_
 refine TW_sub (Sub_bl 1099511627746) ?_
 refine TW_open mixed (by kernel_rfl) (fun b => ⟨[.ptr 0 0, .junk, .ptr 3 0, .int .i64 res.snd.fst, .bool res.snd.snd, .junk, .junk, .junk, .junk, .junk, .junk, .junk, .junk, .junk, .junk, .junk, .junk, .junk, .junk, .junk, .junk, .junk, .junk, .junk, .junk, .junk, .junk, .junk, .junk, .junk, .junk, .junk, .junk, .junk, .junk, .junk, .junk, .junk, .junk, .junk, if b 0 = true then .ptr 0 0 else .junk, if b 1 = true then .ptr 0 0 else .junk, if b 2 = true then .ptr 0 0 else .junk, if b 3 = true then .ptr 0 1 else .junk, if b 4 = true then .bsl 37 else .junk, if b 5 = true then .ptr 0 0 else .junk, if b 6 = true then .ptr 0 0 else .junk, if b 7 = true then .ptr 0 11 else .junk, if b 8 = true then .int .i64 (↑i : Int) else .junk, if b 9 = true then .ptr 0 0 else .junk, if b 10 = true then .agg [.int .i64 res.fst.r, .sl false (ints res.fst.m), .sl false (mails res.fst.s), .sl false (ints res.fst.w)] else .junk, if b 11 = true then .int .i64 res.snd.fst else .junk, if b 12 = true then .eptr 37 i 4 0 else .junk, if b 14 = true then .ptr 0 0 else .junk, if b 15 = true then .ptr 0 5 else .junk, if b 16 = true then .ptr 0 7 else .junk, .junk, .junk, .junk, .junk, .junk, .junk, .junk, .junk, .junk, .junk, .junk, .junk, .junk, .junk, .junk, .junk, .junk, .junk, .junk, .junk, .junk, .junk, .junk], [if b 17 = true then .box [.sl false (sms sm), .bsl 37, .int .i64 p, .int .i64 pc, .int .i64 n, .int .i64 kind, .int .i64 a, .int .i64 res.snd.fst, .bool gives, .int .i64 v, .int .i64 g, .int .i64 (↑i : Int)] else .box [.sl false (sms sm), .bsl 37, .int .i64 p, .int .i64 pc, .int .i64 n, .int .i64 kind, .int .i64 a, .int .i64 woken, .bool gives, .int .i64 v, .int .i64 g, .int .i64 (↑i : Int)], .un, .un, .box [.int .i64 res.fst.r, .sl false (ints res.fst.m), .sl false (mails res.fst.s), .sl false (ints res.fst.w)], .un, .un, .un, .un, .un, .un, .un, .un, .un, .un, .un, .un, .un, .un, .un, .un, .un, .un, .un, .un, .un, .un, .un, .un, .un, .un, .un, .un, .un, .un, .un, .un, .un, if b 13 = true then .arr 77 4 (bxs (bx.set i { r := res.fst.r, m := res.fst.m, s := res.fst.s, w := res.fst.w })) else .arr 77 4 (bxs bx), .un, .un, .un, .un, .un, .un, .un, .un, .un, .un, .un, .un, .un, .un, .un, .un, .un, .un, .un, .un, .un, .un, .un, .un, .un, .un, .un, .un, .un, .un, .un, .un, .un, .un, .un, .un, .un, .un, .un, .un, .un, .un], 1⟩) rfl ?_ ?_
 ·skip
  (repeat refine Di ?_ (fun b hwW hbB hcC => ?_)); (exact trivial)
  ·exact Ds16 hbB (hwW.at 0 rfl) (hwW.at 1 rfl) (hwW.at 2 rfl) (hwW.at 3 rfl) (hwW.at 4 rfl) (hwW.at 5 rfl) (hwW.at 6 rfl) (hwW.at 7 rfl) (hwW.at 8 rfl) (hwW.at 9 rfl) (hwW.at 10 rfl) (hwW.at 11 rfl) (hwW.at 12 rfl) (hwW.at 13 rfl) (hwW.at 16 rfl) @hg
  ·exact Ds17 hbB (hwW.at 0 rfl) (hwW.at 1 rfl) (hwW.at 2 rfl) (hwW.at 3 rfl) (hwW.at 4 rfl) (hwW.at 5 rfl) (hwW.at 6 rfl) (hwW.at 7 rfl) (hwW.at 8 rfl) (hwW.at 9 rfl) (hwW.at 10 rfl) (hwW.at 11 rfl) (hwW.at 12 rfl) (hwW.at 13 rfl) (hwW.at 15 rfl) (hcC.l hbB 17 rfl) @hg
  ·have l16 := hcC.l hbB 16 rfl; exact Ds18 hbB (hwW.at 0 rfl) (hwW.at 1 rfl) (hwW.at 2 rfl) (hwW.at 3 rfl) (hwW.at 4 rfl) (hwW.at 5 rfl) (hwW.at 6 rfl) (hwW.at 7 rfl) (hwW.at 8 rfl) (hwW.at 9 rfl) (hwW.at 10 rfl) (hwW.at 11 rfl) (hwW.at 12 rfl) (hwW.at 13 rfl) (hwW.at 14 rfl) l16 (hcC.l l16 17 rfl) @hg
  ·have l15 := hcC.l hbB 15 rfl; have l16 := hcC.l l15 16 rfl; exact Ds17 hbB (hwW.at 0 rfl) (hwW.at 1 rfl) (hwW.at 2 rfl) (hwW.at 3 rfl) (hwW.at 4 rfl) (hwW.at 5 rfl) (hwW.at 6 rfl) (hwW.at 7 rfl) (hwW.at 8 rfl) (hwW.at 9 rfl) (hwW.at 10 rfl) (hwW.at 11 rfl) (hwW.at 12 rfl) (hwW.at 13 rfl) l15 (hcC.l l16 17 rfl) @hg
  ·exact Ds16 hbB (hwW.at 0 rfl) (hwW.at 1 rfl) (hwW.at 2 rfl) (hwW.at 3 rfl) (hwW.at 4 rfl) (hwW.at 5 rfl) (hwW.at 6 rfl) (hwW.at 7 rfl) (hwW.at 8 rfl) (hwW.at 10 rfl) (hwW.at 12 rfl) (hcC.l hbB 14 rfl) (hcC.l hbB 15 rfl) (hcC.l hbB 16 rfl) (hcC.l hbB 17 rfl) @hg
  ·exact Ds16 hbB (hwW.at 0 rfl) (hwW.at 1 rfl) (hwW.at 2 rfl) (hwW.at 3 rfl) (hwW.at 4 rfl) (hwW.at 5 rfl) (hwW.at 6 rfl) (hwW.at 7 rfl) (hwW.at 8 rfl) (hwW.at 10 rfl) (hcC.l hbB 13 rfl) (hcC.l hbB 14 rfl) (hcC.l hbB 15 rfl) (hcC.l hbB 16 rfl) (hcC.l hbB 17 rfl) @hg
  ·exact Ds5 hbB (hcC.l hbB 14 rfl) (hcC.l hbB 15 rfl) (hcC.l hbB 16 rfl) (hcC.l hbB 17 rfl) @hg
  ·exact Ds7 hbB (hcC.l hbB 12 rfl) (hcC.l hbB 13 rfl) (hcC.l hbB 14 rfl) (hcC.l hbB 15 rfl) (hcC.l hbB 16 rfl) (hcC.l hbB 17 rfl) @hg
  ·exact Ds5 hbB (hcC.l hbB 14 rfl) (hcC.l hbB 15 rfl) (hcC.l hbB 16 rfl) (hcC.l hbB 17 rfl) @hg
  ·exact Ds8 hbB (hwW.at 7 rfl) (hcC.l hbB 12 rfl) (hcC.l hbB 13 rfl) (hcC.l hbB 14 rfl) (hcC.l hbB 15 rfl) (hcC.l hbB 16 rfl) (hcC.l hbB 17 rfl) @hg
  ·exact Ds9 hbB (hwW.at 6 rfl) (hcC.l hbB 8 rfl) (hcC.l hbB 12 rfl) (hcC.l hbB 13 rfl) (hcC.l hbB 14 rfl) (hcC.l hbB 15 rfl) (hcC.l hbB 16 rfl) (hcC.l hbB 17 rfl) @hg
  ·exact Ds9 hbB (hwW.at 5 rfl) (hcC.l hbB 7 rfl) (hcC.l hbB 12 rfl) (hcC.l hbB 13 rfl) (hcC.l hbB 14 rfl) (hcC.l hbB 15 rfl) (hcC.l hbB 16 rfl) (hcC.l hbB 17 rfl) @hg
  ·exact Ds8 hbB (hcC.l hbB 6 rfl) (hcC.l hbB 12 rfl) (hcC.l hbB 13 rfl) (hcC.l hbB 14 rfl) (hcC.l hbB 15 rfl) (hcC.l hbB 16 rfl) (hcC.l hbB 17 rfl) @hg
  ·exact Ds8 hbB (hwW.at 3 rfl) (hcC.l hbB 12 rfl) (hcC.l hbB 13 rfl) (hcC.l hbB 14 rfl) (hcC.l hbB 15 rfl) (hcC.l hbB 16 rfl) (hcC.l hbB 17 rfl) @hg
  ·exact Ds9 hbB (hwW.at 2 rfl) (hcC.l hbB 4 rfl) (hcC.l hbB 12 rfl) (hcC.l hbB 13 rfl) (hcC.l hbB 14 rfl) (hcC.l hbB 15 rfl) (hcC.l hbB 16 rfl) (hcC.l hbB 17 rfl) @hg
  ·exact Ds9 hbB (hwW.at 1 rfl) (hcC.l hbB 3 rfl) (hcC.l hbB 12 rfl) (hcC.l hbB 13 rfl) (hcC.l hbB 14 rfl) (hcC.l hbB 15 rfl) (hcC.l hbB 16 rfl) (hcC.l hbB 17 rfl) @hg
  ·exact Ds9 hbB (hwW.at 0 rfl) (hcC.l hbB 2 rfl) (hcC.l hbB 12 rfl) (hcC.l hbB 13 rfl) (hcC.l hbB 14 rfl) (hcC.l hbB 15 rfl) (hcC.l hbB 16 rfl) (hcC.l hbB 17 rfl) @hg
  ·exact Ds8 hbB (hcC.l hbB 1 rfl) (hcC.l hbB 12 rfl) (hcC.l hbB 13 rfl) (hcC.l hbB 14 rfl) (hcC.l hbB 15 rfl) (hcC.l hbB 16 rfl) (hcC.l hbB 17 rfl) @hg
 simp only [List.length_cons, List.length_nil, Nat.reduceAdd, Nat.reduceLT, decide_true, if_true]
 refine Dd1 @hok ?_
 refine TW_cond rfl (fun hc => ?_) (fun hc => ?_)
 ·refine Dd0 ?_
  (refine ⟨_, Sub.trans (Sub_fix 37) (Sub_immBox (b := 0) (f := 1) (id := 37) rfl rfl rfl), ?_⟩; (try simp only [go_sem]); refine ⟨by simp, rfl, ?_⟩; simp only [go_sem, Try.results45]; refine ⟨[0], rfl, rfl, ?_⟩; (repeat' (first | rfl | trivial | refine ⟨?_, ?_⟩)))
 ·simp at hc
theorem send1m_spec (sm : List (Int × List Int)) (bx : List Bx) (p pc n kind a woken : Int) (gives : Bool) (v g : Int) (i : Nat) (hi : i < bx.length) (hl : bx.length ≤ 1000000) (hm : (bxN bx i).m.length ≤ 999999) (hs : (bxN bx i).s.length ≤ 1000000) (hw : (bxN bx i).w.length ≤ 1000000) (hok : (bsend (bxN bx i) g n).2.2 = true) (hwk : (bsend (bxN bx i) g n).2.1 = 0) :
  RetH Try.prog 45 [.ptr 0 0] (jobH ⟨sm, bx, p, pc, n, kind, a, woken, gives, v, g, i⟩) (.tup []) (jobH ⟨sm, bx.set i (bsend (bxN bx i) g n).1, p, pc, n, kind, a, (bsend (bxN bx i) g n).2.1, gives, v, g, i⟩) := by
 have hsp := bsend_57 (bxN bx i) g n hm hs hw
 generalize bsend (bxN bx i) g n = res at hsp hok hwk ⊢
 have hd : decide (res.2.1 ≠ 0) = false := decide_eq_false (by simp [hwk])
 have hrr := bxs_4 bx
 have hg := bxs_get bx i hi
 refine RetH_of_body Try.func45 (by kernel_rfl) rfl (by first | (simp; done) | exact Nat.le_refl _ | (simp only [go_sem] <;> omega)) (TW_finS ?_); rw [Try.ntmps45]
 simp only [go_sem]
 refine Dd0 ?_
 refine TW_sub (Sub_bl 2) ?_
 refine TW_open mixed (by kernel_rfl) (fun b => ⟨[.ptr 0 0, .junk, if b 25 = true then .ptr 3 0 else .junk, if b 27 = true then .int .i64 res.snd.fst else .junk, if b 28 = true then .bool res.snd.snd else .junk, if b 21 = true then .tup [.agg [.int .i64 res.fst.r, .sl false (ints res.fst.m), .sl false (mails res.fst.s), .sl false (ints res.fst.w)], .int .i64 res.snd.fst, .bool res.snd.snd] else .junk, if b 0 = true then .ptr 0 0 else .junk, if b 1 = true then .ptr 0 0 else .junk, if b 2 = true then .ptr 0 0 else .junk, if b 3 = true then .ptr 0 1 else .junk, if b 4 = true then .sl false (bxs bx) else .junk, if b 5 = true then .ptr 0 0 else .junk, if b 6 = true then .ptr 0 0 else .junk, if b 7 = true then .ptr 0 11 else .junk, if b 8 = true then .int .i64 (↑i : Int) else .junk, if b 9 = true then .cptr [.int .i64 (bxN bx i).r, .sl false (ints (bxN bx i).m), .sl false (mails (bxN bx i).s), .sl false (ints (bxN bx i).w)] else .junk, if b 10 = true then .agg [.int .i64 (bxN bx i).r, .sl false (ints (bxN bx i).m), .sl false (mails (bxN bx i).s), .sl false (ints (bxN bx i).w)] else .junk, if b 11 = true then .ptr 0 0 else .junk, if b 12 = true then .ptr 0 0 else .junk, if b 13 = true then .ptr 0 10 else .junk, if b 14 = true then .int .i64 g else .junk, if b 15 = true then .ptr 0 0 else .junk, if b 16 = true then .ptr 0 0 else .junk, if b 17 = true then .ptr 0 2 else .junk, if b 18 = true then .ptr 0 4 else .junk, if b 19 = true then .int .i64 n else .junk, if b 20 = true then .tup [.agg [.int .i64 res.fst.r, .sl false (ints res.fst.m), .sl false (mails res.fst.s), .sl false (ints res.fst.w)], .int .i64 res.snd.fst, .bool res.snd.snd] else .junk, if b 22 = true then .agg [.int .i64 res.fst.r, .sl false (ints res.fst.m), .sl false (mails res.fst.s), .sl false (ints res.fst.w)] else .junk, if b 23 = true then .int .i64 res.snd.fst else .junk, if b 24 = true then .bool res.snd.snd else .junk, .junk, .junk, .junk, .junk, .junk, .junk, .junk, .junk, .junk, .junk, .junk, .junk, .junk, .junk, .junk, .junk, .junk, .junk, .junk, .junk, .junk, .junk, .junk, .junk, .junk, .junk, .junk, .junk, .junk, .junk, .junk, .junk, .junk, .junk, .junk, .junk, .junk, .junk, .junk, .junk, .junk, .junk, .junk, .junk, .junk, .junk, .junk, .junk, .junk], [.box [.sl false (sms sm), .sl false (bxs bx), .int .i64 p, .int .i64 pc, .int .i64 n, .int .i64 kind, .int .i64 a, .int .i64 woken, .bool gives, .int .i64 v, .int .i64 g, .int .i64 (↑i : Int)], .un, .un, if b 26 = true then .box [.int .i64 res.fst.r, .sl false (ints res.fst.m), .sl false (mails res.fst.s), .sl false (ints res.fst.w)] else if b 25 = true then .box [.int .i64 0, .nils, .nils, .nils] else .un, .un, .un, .un, .un, .un, .un, .un, .un, .un, .un, .un, .un, .un, .un, .un, .un, .un, .un, .un, .un, .un, .un, .un, .un, .un, .un, .un, .un, .un, .un, .un, .un, .un, .un, .un, .un, .un, .un, .un, .un, .un, .un, .un, .un, .un, .un, .un, .un, .un, .un, .un, .un, .un, .un, .un, .un, .un, .un, .un, .un, .un, .un, .un, .un, .un, .un, .un, .un, .un, .un, .un, .un, .un, .un, .un, .un], 1⟩) rfl ?_ ?_
 ·skip
  (repeat refine Di ?_ (fun b hwW hbB hcC => ?_)); (exact trivial)
  ·exact Ds29 hbB (hwW.at 0 rfl) (hwW.at 1 rfl) (hwW.at 2 rfl) (hwW.at 3 rfl) (hwW.at 4 rfl) (hwW.at 5 rfl) (hwW.at 6 rfl) (hwW.at 7 rfl) (hwW.at 8 rfl) (hwW.at 9 rfl) (hwW.at 10 rfl) (hwW.at 11 rfl) (hwW.at 12 rfl) (hwW.at 13 rfl) (hwW.at 14 rfl) (hwW.at 15 rfl) (hwW.at 16 rfl) (hwW.at 17 rfl) (hwW.at 18 rfl) (hwW.at 19 rfl) (hwW.at 20 rfl) (hwW.at 21 rfl) (hwW.at 22 rfl) (hwW.at 23 rfl) (hwW.at 24 rfl) (hwW.at 25 rfl) (hwW.at 26 rfl) (hwW.at 27 rfl) @hg
  ·exact Ds28 hbB (hwW.at 0 rfl) (hwW.at 1 rfl) (hwW.at 2 rfl) (hwW.at 3 rfl) (hwW.at 4 rfl) (hwW.at 5 rfl) (hwW.at 6 rfl) (hwW.at 7 rfl) (hwW.at 8 rfl) (hwW.at 9 rfl) (hwW.at 10 rfl) (hwW.at 11 rfl) (hwW.at 12 rfl) (hwW.at 13 rfl) (hwW.at 14 rfl) (hwW.at 15 rfl) (hwW.at 16 rfl) (hwW.at 17 rfl) (hwW.at 18 rfl) (hwW.at 19 rfl) (hwW.at 20 rfl) (hwW.at 21 rfl) (hwW.at 22 rfl) (hwW.at 23 rfl) (hwW.at 25 rfl) (hwW.at 26 rfl) (hcC.l hbB 28 rfl) @hg
  ·exact Ds27 hbB (hwW.at 0 rfl) (hwW.at 1 rfl) (hwW.at 2 rfl) (hwW.at 3 rfl) (hwW.at 4 rfl) (hwW.at 5 rfl) (hwW.at 6 rfl) (hwW.at 7 rfl) (hwW.at 8 rfl) (hwW.at 9 rfl) (hwW.at 10 rfl) (hwW.at 11 rfl) (hwW.at 12 rfl) (hwW.at 13 rfl) (hwW.at 14 rfl) (hwW.at 15 rfl) (hwW.at 16 rfl) (hwW.at 17 rfl) (hwW.at 18 rfl) (hwW.at 19 rfl) (hwW.at 20 rfl) (hwW.at 21 rfl) (hwW.at 22 rfl) (hwW.at 25 rfl) (hcC.l hbB 27 rfl) (hcC.l hbB 28 rfl) @hg
  ·exact Ds4 hbB (hcC.l hbB 26 rfl) (hcC.l hbB 27 rfl) (hcC.l hbB 28 rfl) @hg
  ·have w21 := hwW.at 21 rfl; exact Ds4 hbB ((hcC 21 _ rfl w21).at 20 rfl) w21 (hcC.l hbB 28 rfl) @hg
  ·have w21 := hwW.at 21 rfl; exact Ds5 hbB ((hcC 21 _ rfl w21).at 20 rfl) w21 (hcC.l hbB 27 rfl) (hcC.l hbB 28 rfl) @hg
  ·have w21 := hwW.at 21 rfl; exact Ds6 hbB ((hcC 21 _ rfl w21).at 20 rfl) w21 (hcC.l hbB 26 rfl) (hcC.l hbB 27 rfl) (hcC.l hbB 28 rfl) @hg
  ·exact Ds8 hbB (hwW.at 20 rfl) (hcC.l hbB 22 rfl) (hcC.l hbB 23 rfl) (hcC.l hbB 24 rfl) (hcC.l hbB 26 rfl) (hcC.l hbB 27 rfl) (hcC.l hbB 28 rfl) @hg
  ·exact Dkpu8 hbB (hwW.at 10 rfl) (hwW.at 14 rfl) (hwW.at 19 rfl) (hcC.l hbB 21 rfl) (hcC.l hbB 26 rfl) (hcC.l hbB 27 rfl) (hcC.l hbB 28 rfl) @hg (hsp)
  ·exact Ds6 hbB (hwW.at 18 rfl) (hcC.l hbB 20 rfl) (hcC.l hbB 26 rfl) (hcC.l hbB 27 rfl) (hcC.l hbB 28 rfl) @hg
  ·have l19 := hcC.l hbB 19 rfl; exact Ds7 hbB (hwW.at 17 rfl) l19 (hcC.l l19 20 rfl) (hcC.l hbB 26 rfl) (hcC.l hbB 27 rfl) (hcC.l hbB 28 rfl) @hg
  ·have l18 := hcC.l hbB 18 rfl; have l19 := hcC.l l18 19 rfl; exact Ds7 hbB (hwW.at 16 rfl) l18 (hcC.l l19 20 rfl) (hcC.l hbB 26 rfl) (hcC.l hbB 27 rfl) (hcC.l hbB 28 rfl) @hg
  ·have l17 := hcC.l hbB 17 rfl; have l18 := hcC.l l17 18 rfl; have l19 := hcC.l l18 19 rfl; exact Ds7 hbB (hwW.at 15 rfl) l17 (hcC.l l19 20 rfl) (hcC.l hbB 26 rfl) (hcC.l hbB 27 rfl) (hcC.l hbB 28 rfl) @hg
  ·have l16 := hcC.l hbB 16 rfl; have l17 := hcC.l l16 17 rfl; have l18 := hcC.l l17 18 rfl; have l19 := hcC.l l18 19 rfl; exact Ds6 hbB l16 (hcC.l l19 20 rfl) (hcC.l hbB 26 rfl) (hcC.l hbB 27 rfl) (hcC.l hbB 28 rfl) @hg
  ·exact Ds6 hbB (hwW.at 13 rfl) (hcC.l hbB 20 rfl) (hcC.l hbB 26 rfl) (hcC.l hbB 27 rfl) (hcC.l hbB 28 rfl) @hg
  ·have l14 := hcC.l hbB 14 rfl; exact Ds7 hbB (hwW.at 12 rfl) l14 (hcC.l l14 20 rfl) (hcC.l hbB 26 rfl) (hcC.l hbB 27 rfl) (hcC.l hbB 28 rfl) @hg
  ·have l13 := hcC.l hbB 13 rfl; have l14 := hcC.l l13 14 rfl; exact Ds7 hbB (hwW.at 11 rfl) l13 (hcC.l l14 20 rfl) (hcC.l hbB 26 rfl) (hcC.l hbB 27 rfl) (hcC.l hbB 28 rfl) @hg
  ·have l12 := hcC.l hbB 12 rfl; have l13 := hcC.l l12 13 rfl; have l14 := hcC.l l13 14 rfl; exact Ds6 hbB l12 (hcC.l l14 20 rfl) (hcC.l hbB 26 rfl) (hcC.l hbB 27 rfl) (hcC.l hbB 28 rfl) @hg
  ·exact Ds6 hbB (hwW.at 9 rfl) (hcC.l hbB 20 rfl) (hcC.l hbB 26 rfl) (hcC.l hbB 27 rfl) (hcC.l hbB 28 rfl) @hg
  ·have l10 := hcC.l hbB 10 rfl; exact Ds8 hbB (hwW.at 4 rfl) (hwW.at 8 rfl) l10 (hcC.l l10 20 rfl) (hcC.l hbB 26 rfl) (hcC.l hbB 27 rfl) (hcC.l hbB 28 rfl) @hg
  ·have l9 := hcC.l hbB 9 rfl; have l10 := hcC.l l9 10 rfl; exact Ds7 hbB (hwW.at 7 rfl) l9 (hcC.l l10 20 rfl) (hcC.l hbB 26 rfl) (hcC.l hbB 27 rfl) (hcC.l hbB 28 rfl) @hg
  ·have l8 := hcC.l hbB 8 rfl; have l9 := hcC.l l8 9 rfl; have l10 := hcC.l l9 10 rfl; exact Ds7 hbB (hwW.at 6 rfl) l8 (hcC.l l10 20 rfl) (hcC.l hbB 26 rfl) (hcC.l hbB 27 rfl) (hcC.l hbB 28 rfl) @hg
  ·have l7 := hcC.l hbB 7 rfl; have l8 := hcC.l l7 8 rfl; have l9 := hcC.l l8 9 rfl; have l10 := hcC.l l9 10 rfl; exact Ds7 hbB (hwW.at 5 rfl) l7 (hcC.l l10 20 rfl) (hcC.l hbB 26 rfl) (hcC.l hbB 27 rfl) (hcC.l hbB 28 rfl) @hg
  ·have l6 := hcC.l hbB 6 rfl; have l7 := hcC.l l6 7 rfl; have l8 := hcC.l l7 8 rfl; have l9 := hcC.l l8 9 rfl; have l10 := hcC.l l9 10 rfl; exact Ds6 hbB l6 (hcC.l l10 20 rfl) (hcC.l hbB 26 rfl) (hcC.l hbB 27 rfl) (hcC.l hbB 28 rfl) @hg
  ·have l9 := hcC.l hbB 9 rfl; have l10 := hcC.l l9 10 rfl; exact Ds7 hbB (hwW.at 3 rfl) l9 (hcC.l l10 20 rfl) (hcC.l hbB 26 rfl) (hcC.l hbB 27 rfl) (hcC.l hbB 28 rfl) @hg
  ·have l4 := hcC.l hbB 4 rfl; have l9 := hcC.l l4 9 rfl; have l10 := hcC.l l9 10 rfl; exact Ds7 hbB (hwW.at 2 rfl) l4 (hcC.l l10 20 rfl) (hcC.l hbB 26 rfl) (hcC.l hbB 27 rfl) (hcC.l hbB 28 rfl) @hg
  ·have l3 := hcC.l hbB 3 rfl; have l4 := hcC.l l3 4 rfl; have l9 := hcC.l l4 9 rfl; have l10 := hcC.l l9 10 rfl; exact Ds7 hbB (hwW.at 1 rfl) l3 (hcC.l l10 20 rfl) (hcC.l hbB 26 rfl) (hcC.l hbB 27 rfl) (hcC.l hbB 28 rfl) @hg
  ·have l2 := hcC.l hbB 2 rfl; have l3 := hcC.l l2 3 rfl; have l4 := hcC.l l3 4 rfl; have l9 := hcC.l l4 9 rfl; have l10 := hcC.l l9 10 rfl; exact Ds7 hbB (hwW.at 0 rfl) l2 (hcC.l l10 20 rfl) (hcC.l hbB 26 rfl) (hcC.l hbB 27 rfl) (hcC.l hbB 28 rfl) @hg
  ·have l1 := hcC.l hbB 1 rfl; have l2 := hcC.l l1 2 rfl; have l3 := hcC.l l2 3 rfl; have l4 := hcC.l l3 4 rfl; have l9 := hcC.l l4 9 rfl; have l10 := hcC.l l9 10 rfl; exact Ds6 hbB l1 (hcC.l l10 20 rfl) (hcC.l hbB 26 rfl) (hcC.l hbB 27 rfl) (hcC.l hbB 28 rfl) @hg
 simp only [List.length_cons, List.length_nil, Nat.reduceAdd, Nat.reduceLT, decide_true, if_true]
 refine Dd0 ?_
 refine Dar0 (cloneB_spec false bx hl) ?_
 refine Dd0 ?_
 refine TW_sub (Sub_bl 1099511627746) ?_
 refine TW_open mixed (by kernel_rfl) (fun b => ⟨[.ptr 0 0, .junk, .ptr 3 0, .int .i64 res.snd.fst, .bool res.snd.snd, .junk, .junk, .junk, .junk, .junk, .junk, .junk, .junk, .junk, .junk, .junk, .junk, .junk, .junk, .junk, .junk, .junk, .junk, .junk, .junk, .junk, .junk, .junk, .junk, .junk, .junk, .junk, .junk, .junk, .junk, .junk, .junk, .junk, .junk, .junk, if b 0 = true then .ptr 0 0 else .junk, if b 1 = true then .ptr 0 0 else .junk, if b 2 = true then .ptr 0 0 else .junk, if b 3 = true then .ptr 0 1 else .junk, if b 4 = true then .bsl 37 else .junk, if b 5 = true then .ptr 0 0 else .junk, if b 6 = true then .ptr 0 0 else .junk, if b 7 = true then .ptr 0 11 else .junk, if b 8 = true then .int .i64 (↑i : Int) else .junk, if b 9 = true then .ptr 0 0 else .junk, if b 10 = true then .agg [.int .i64 res.fst.r, .sl false (ints res.fst.m), .sl false (mails res.fst.s), .sl false (ints res.fst.w)] else .junk, if b 11 = true then .int .i64 res.snd.fst else .junk, if b 12 = true then .eptr 37 i 4 0 else .junk, if b 14 = true then .ptr 0 0 else .junk, if b 15 = true then .ptr 0 5 else .junk, if b 16 = true then .ptr 0 7 else .junk, .junk, .junk, .junk, .junk, .junk, .junk, .junk, .junk, .junk, .junk, .junk, .junk, .junk, .junk, .junk, .junk, .junk, .junk, .junk, .junk, .junk, .junk, .junk], [if b 17 = true then .box [.sl false (sms sm), .bsl 37, .int .i64 p, .int .i64 pc, .int .i64 n, .int .i64 kind, .int .i64 a, .int .i64 res.snd.fst, .bool gives, .int .i64 v, .int .i64 g, .int .i64 (↑i : Int)] else .box [.sl false (sms sm), .bsl 37, .int .i64 p, .int .i64 pc, .int .i64 n, .int .i64 kind, .int .i64 a, .int .i64 woken, .bool gives, .int .i64 v, .int .i64 g, .int .i64 (↑i : Int)], .un, .un, .box [.int .i64 res.fst.r, .sl false (ints res.fst.m), .sl false (mails res.fst.s), .sl false (ints res.fst.w)], .un, .un, .un, .un, .un, .un, .un, .un, .un, .un, .un, .un, .un, .un, .un, .un, .un, .un, .un, .un, .un, .un, .un, .un, .un, .un, .un, .un, .un, .un, .un, .un, .un, if b 13 = true then .arr 77 4 (bxs (bx.set i { r := res.fst.r, m := res.fst.m, s := res.fst.s, w := res.fst.w })) else .arr 77 4 (bxs bx), .un, .un, .un, .un, .un, .un, .un, .un, .un, .un, .un, .un, .un, .un, .un, .un, .un, .un, .un, .un, .un, .un, .un, .un, .un, .un, .un, .un, .un, .un, .un, .un, .un, .un, .un, .un, .un, .un, .un, .un, .un, .un], 1⟩) rfl ?_ ?_
 ·skip
  (repeat refine Di ?_ (fun b hwW hbB hcC => ?_)); (exact trivial)
  ·exact Ds16 hbB (hwW.at 0 rfl) (hwW.at 1 rfl) (hwW.at 2 rfl) (hwW.at 3 rfl) (hwW.at 4 rfl) (hwW.at 5 rfl) (hwW.at 6 rfl) (hwW.at 7 rfl) (hwW.at 8 rfl) (hwW.at 9 rfl) (hwW.at 10 rfl) (hwW.at 11 rfl) (hwW.at 12 rfl) (hwW.at 13 rfl) (hwW.at 16 rfl) @hg
  ·exact Ds17 hbB (hwW.at 0 rfl) (hwW.at 1 rfl) (hwW.at 2 rfl) (hwW.at 3 rfl) (hwW.at 4 rfl) (hwW.at 5 rfl) (hwW.at 6 rfl) (hwW.at 7 rfl) (hwW.at 8 rfl) (hwW.at 9 rfl) (hwW.at 10 rfl) (hwW.at 11 rfl) (hwW.at 12 rfl) (hwW.at 13 rfl) (hwW.at 15 rfl) (hcC.l hbB 17 rfl) @hg
  ·have l16 := hcC.l hbB 16 rfl; exact Ds18 hbB (hwW.at 0 rfl) (hwW.at 1 rfl) (hwW.at 2 rfl) (hwW.at 3 rfl) (hwW.at 4 rfl) (hwW.at 5 rfl) (hwW.at 6 rfl) (hwW.at 7 rfl) (hwW.at 8 rfl) (hwW.at 9 rfl) (hwW.at 10 rfl) (hwW.at 11 rfl) (hwW.at 12 rfl) (hwW.at 13 rfl) (hwW.at 14 rfl) l16 (hcC.l l16 17 rfl) @hg
  ·have l15 := hcC.l hbB 15 rfl; have l16 := hcC.l l15 16 rfl; exact Ds17 hbB (hwW.at 0 rfl) (hwW.at 1 rfl) (hwW.at 2 rfl) (hwW.at 3 rfl) (hwW.at 4 rfl) (hwW.at 5 rfl) (hwW.at 6 rfl) (hwW.at 7 rfl) (hwW.at 8 rfl) (hwW.at 9 rfl) (hwW.at 10 rfl) (hwW.at 11 rfl) (hwW.at 12 rfl) (hwW.at 13 rfl) l15 (hcC.l l16 17 rfl) @hg
  ·exact Ds16 hbB (hwW.at 0 rfl) (hwW.at 1 rfl) (hwW.at 2 rfl) (hwW.at 3 rfl) (hwW.at 4 rfl) (hwW.at 5 rfl) (hwW.at 6 rfl) (hwW.at 7 rfl) (hwW.at 8 rfl) (hwW.at 10 rfl) (hwW.at 12 rfl) (hcC.l hbB 14 rfl) (hcC.l hbB 15 rfl) (hcC.l hbB 16 rfl) (hcC.l hbB 17 rfl) @hg
  ·exact Ds16 hbB (hwW.at 0 rfl) (hwW.at 1 rfl) (hwW.at 2 rfl) (hwW.at 3 rfl) (hwW.at 4 rfl) (hwW.at 5 rfl) (hwW.at 6 rfl) (hwW.at 7 rfl) (hwW.at 8 rfl) (hwW.at 10 rfl) (hcC.l hbB 13 rfl) (hcC.l hbB 14 rfl) (hcC.l hbB 15 rfl) (hcC.l hbB 16 rfl) (hcC.l hbB 17 rfl) @hg
  ·exact Ds5 hbB (hcC.l hbB 14 rfl) (hcC.l hbB 15 rfl) (hcC.l hbB 16 rfl) (hcC.l hbB 17 rfl) @hg
  ·exact Ds7 hbB (hcC.l hbB 12 rfl) (hcC.l hbB 13 rfl) (hcC.l hbB 14 rfl) (hcC.l hbB 15 rfl) (hcC.l hbB 16 rfl) (hcC.l hbB 17 rfl) @hg
  ·exact Ds5 hbB (hcC.l hbB 14 rfl) (hcC.l hbB 15 rfl) (hcC.l hbB 16 rfl) (hcC.l hbB 17 rfl) @hg
  ·exact Ds8 hbB (hwW.at 7 rfl) (hcC.l hbB 12 rfl) (hcC.l hbB 13 rfl) (hcC.l hbB 14 rfl) (hcC.l hbB 15 rfl) (hcC.l hbB 16 rfl) (hcC.l hbB 17 rfl) @hg
  ·exact Ds9 hbB (hwW.at 6 rfl) (hcC.l hbB 8 rfl) (hcC.l hbB 12 rfl) (hcC.l hbB 13 rfl) (hcC.l hbB 14 rfl) (hcC.l hbB 15 rfl) (hcC.l hbB 16 rfl) (hcC.l hbB 17 rfl) @hg
  ·exact Ds9 hbB (hwW.at 5 rfl) (hcC.l hbB 7 rfl) (hcC.l hbB 12 rfl) (hcC.l hbB 13 rfl) (hcC.l hbB 14 rfl) (hcC.l hbB 15 rfl) (hcC.l hbB 16 rfl) (hcC.l hbB 17 rfl) @hg
  ·exact Ds8 hbB (hcC.l hbB 6 rfl) (hcC.l hbB 12 rfl) (hcC.l hbB 13 rfl) (hcC.l hbB 14 rfl) (hcC.l hbB 15 rfl) (hcC.l hbB 16 rfl) (hcC.l hbB 17 rfl) @hg
  ·exact Ds8 hbB (hwW.at 3 rfl) (hcC.l hbB 12 rfl) (hcC.l hbB 13 rfl) (hcC.l hbB 14 rfl) (hcC.l hbB 15 rfl) (hcC.l hbB 16 rfl) (hcC.l hbB 17 rfl) @hg
  ·exact Ds9 hbB (hwW.at 2 rfl) (hcC.l hbB 4 rfl) (hcC.l hbB 12 rfl) (hcC.l hbB 13 rfl) (hcC.l hbB 14 rfl) (hcC.l hbB 15 rfl) (hcC.l hbB 16 rfl) (hcC.l hbB 17 rfl) @hg
  ·exact Ds9 hbB (hwW.at 1 rfl) (hcC.l hbB 3 rfl) (hcC.l hbB 12 rfl) (hcC.l hbB 13 rfl) (hcC.l hbB 14 rfl) (hcC.l hbB 15 rfl) (hcC.l hbB 16 rfl) (hcC.l hbB 17 rfl) @hg
  ·exact Ds9 hbB (hwW.at 0 rfl) (hcC.l hbB 2 rfl) (hcC.l hbB 12 rfl) (hcC.l hbB 13 rfl) (hcC.l hbB 14 rfl) (hcC.l hbB 15 rfl) (hcC.l hbB 16 rfl) (hcC.l hbB 17 rfl) @hg
  ·exact Ds8 hbB (hcC.l hbB 1 rfl) (hcC.l hbB 12 rfl) (hcC.l hbB 13 rfl) (hcC.l hbB 14 rfl) (hcC.l hbB 15 rfl) (hcC.l hbB 16 rfl) (hcC.l hbB 17 rfl) @hg
 simp only [List.length_cons, List.length_nil, Nat.reduceAdd, Nat.reduceLT, decide_true, if_true]
 refine Dd1 @hok ?_
 refine TW_cond rfl (fun hc => ?_) (fun hc => ?_)
 ·simp at hc
 ·refine Dd1 @hd ?_
  refine TW_cond rfl (fun hc => ?_) (fun hc => ?_)
  ·simp at hc
   omega
  ·refine Dd0 ?_
   (refine ⟨_, Sub.trans (Sub_fix 37) (Sub_immBox (b := 0) (f := 1) (id := 37) rfl rfl rfl), ?_⟩; (try simp only [go_sem]); refine ⟨by simp, rfl, ?_⟩; simp only [go_sem, Try.results45]; refine ⟨[0], rfl, rfl, ?_⟩; (repeat' (first | rfl | trivial | refine ⟨?_, ?_⟩)))
theorem send2m_spec (sm : List (Int × List Int)) (bx : List Bx) (p pc n kind a woken : Int) (gives : Bool) (v g : Int) (i : Nat) (hi : i < bx.length) (hl : bx.length ≤ 1000000) (hm : (bxN bx i).m.length ≤ 999999) (hs : (bxN bx i).s.length ≤ 1000000) (hw : (bxN bx i).w.length ≤ 1000000) (hok : (bsend (bxN bx i) g n).2.2 = true) (hwk : (bsend (bxN bx i) g n).2.1 ≠ 0) :
  RetH Try.prog 45 [.ptr 0 0] (jobH ⟨sm, bx, p, pc, n, kind, a, woken, gives, v, g, i⟩) (.tup []) (jobH ⟨sm, bx.set i (bsend (bxN bx i) g n).1, p, pc, n, kind, a, (bsend (bxN bx i) g n).2.1, true, n, g, i⟩) := by
 have hsp := bsend_57 (bxN bx i) g n hm hs hw
 generalize bsend (bxN bx i) g n = res at hsp hok hwk ⊢
 have hd : decide (res.2.1 ≠ 0) = true := decide_eq_true (by simp [hwk])
 have hrr := bxs_4 bx
 have hg := bxs_get bx i hi
 refine RetH_of_body Try.func45 (by kernel_rfl) rfl (by first | (simp; done) | exact Nat.le_refl _ | (simp only [go_sem] <;> omega)) (TW_finS ?_); rw [Try.ntmps45]
 simp only [go_sem]
 refine Dd0 ?_
 refine TW_sub (Sub_bl 2) ?_
 refine TW_open mixed (by kernel_rfl) (fun b => ⟨[.ptr 0 0, .junk, if b 25 = true then .ptr 3 0 else .junk, if b 27 = true then .int .i64 res.snd.fst else .junk, if b 28 = true then .bool res.snd.snd else .junk, if b 21 = true then .tup [.agg [.int .i64 res.fst.r, .sl false (ints res.fst.m), .sl false (mails res.fst.s), .sl false (ints res.fst.w)], .int .i64 res.snd.fst, .bool res.snd.snd] else .junk, if b 0 = true then .ptr 0 0 else .junk, if b 1 = true then .ptr 0 0 else .junk, if b 2 = true then .ptr 0 0 else .junk, if b 3 = true then .ptr 0 1 else .junk, if b 4 = true then .sl false (bxs bx) else .junk, if b 5 = true then .ptr 0 0 else .junk, if b 6 = true then .ptr 0 0 else .junk, if b 7 = true then .ptr 0 11 else .junk, if b 8 = true then .int .i64 (↑i : Int) else .junk, if b 9 = true then .cptr [.int .i64 (bxN bx i).r, .sl false (ints (bxN bx i).m), .sl false (mails (bxN bx i).s), .sl false (ints (bxN bx i).w)] else .junk, if b 10 = true then .agg [.int .i64 (bxN bx i).r, .sl false (ints (bxN bx i).m), .sl false (mails (bxN bx i).s), .sl false (ints (bxN bx i).w)] else .junk, if b 11 = true then .ptr 0 0 else .junk, if b 12 = true then .ptr 0 0 else .junk, if b 13 = true then .ptr 0 10 else .junk, if b 14 = true then .int .i64 g else .junk, if b 15 = true then .ptr 0 0 else .junk, if b 16 = true then .ptr 0 0 else .junk, if b 17 = true then .ptr 0 2 else .junk, if b 18 = true then .ptr 0 4 else .junk, if b 19 = true then .int .i64 n else .junk, if b 20 = true then .tup [.agg [.int .i64 res.fst.r, .sl false (ints res.fst.m), .sl false (mails res.fst.s), .sl false (ints res.fst.w)], .int .i64 res.snd.fst, .bool res.snd.snd] else .junk, if b 22 = true then .agg [.int .i64 res.fst.r, .sl false (ints res.fst.m), .sl false (mails res.fst.s), .sl false (ints res.fst.w)] else .junk, if b 23 = true then .int .i64 res.snd.fst else .junk, if b 24 = true then .bool res.snd.snd else .junk, .junk, .junk, .junk, .junk, .junk, .junk, .junk, .junk, .junk, .junk, .junk, .junk, .junk, .junk, .junk, .junk, .junk, .junk, .junk, .junk, .junk, .junk, .junk, .junk, .junk, .junk, .junk, .junk, .junk, .junk, .junk, .junk, .junk, .junk, .junk, .junk, .junk, .junk, .junk, .junk, .junk, .junk, .junk, .junk, .junk, .junk, .junk, .junk, .junk], [.box [.sl false (sms sm), .sl false (bxs bx), .int .i64 p, .int .i64 pc, .int .i64 n, .int .i64 kind, .int .i64 a, .int .i64 woken, .bool gives, .int .i64 v, .int .i64 g, .int .i64 (↑i : Int)], .un, .un, if b 26 = true then .box [.int .i64 res.fst.r, .sl false (ints res.fst.m), .sl false (mails res.fst.s), .sl false (ints res.fst.w)] else if b 25 = true then .box [.int .i64 0, .nils, .nils, .nils] else .un, .un, .un, .un, .un, .un, .un, .un, .un, .un, .un, .un, .un, .un, .un, .un, .un, .un, .un, .un, .un, .un, .un, .un, .un, .un, .un, .un, .un, .un, .un, .un, .un, .un, .un, .un, .un, .un, .un, .un, .un, .un, .un, .un, .un, .un, .un, .un, .un, .un, .un, .un, .un, .un, .un, .un, .un, .un, .un, .un, .un, .un, .un, .un, .un, .un, .un, .un, .un, .un, .un, .un, .un, .un, .un, .un, .un], 1⟩) rfl ?_ ?_
 ·skip
  (repeat refine Di ?_ (fun b hwW hbB hcC => ?_)); (exact trivial)
  ·exact Ds29 hbB (hwW.at 0 rfl) (hwW.at 1 rfl) (hwW.at 2 rfl) (hwW.at 3 rfl) (hwW.at 4 rfl) (hwW.at 5 rfl) (hwW.at 6 rfl) (hwW.at 7 rfl) (hwW.at 8 rfl) (hwW.at 9 rfl) (hwW.at 10 rfl) (hwW.at 11 rfl) (hwW.at 12 rfl) (hwW.at 13 rfl) (hwW.at 14 rfl) (hwW.at 15 rfl) (hwW.at 16 rfl) (hwW.at 17 rfl) (hwW.at 18 rfl) (hwW.at 19 rfl) (hwW.at 20 rfl) (hwW.at 21 rfl) (hwW.at 22 rfl) (hwW.at 23 rfl) (hwW.at 24 rfl) (hwW.at 25 rfl) (hwW.at 26 rfl) (hwW.at 27 rfl) @hg
  ·exact Ds28 hbB (hwW.at 0 rfl) (hwW.at 1 rfl) (hwW.at 2 rfl) (hwW.at 3 rfl) (hwW.at 4 rfl) (hwW.at 5 rfl) (hwW.at 6 rfl) (hwW.at 7 rfl) (hwW.at 8 rfl) (hwW.at 9 rfl) (hwW.at 10 rfl) (hwW.at 11 rfl) (hwW.at 12 rfl) (hwW.at 13 rfl) (hwW.at 14 rfl) (hwW.at 15 rfl) (hwW.at 16 rfl) (hwW.at 17 rfl) (hwW.at 18 rfl) (hwW.at 19 rfl) (hwW.at 20 rfl) (hwW.at 21 rfl) (hwW.at 22 rfl) (hwW.at 23 rfl) (hwW.at 25 rfl) (hwW.at 26 rfl) (hcC.l hbB 28 rfl) @hg
  ·exact Ds27 hbB (hwW.at 0 rfl) (hwW.at 1 rfl) (hwW.at 2 rfl) (hwW.at 3 rfl) (hwW.at 4 rfl) (hwW.at 5 rfl) (hwW.at 6 rfl) (hwW.at 7 rfl) (hwW.at 8 rfl) (hwW.at 9 rfl) (hwW.at 10 rfl) (hwW.at 11 rfl) (hwW.at 12 rfl) (hwW.at 13 rfl) (hwW.at 14 rfl) (hwW.at 15 rfl) (hwW.at 16 rfl) (hwW.at 17 rfl) (hwW.at 18 rfl) (hwW.at 19 rfl) (hwW.at 20 rfl) (hwW.at 21 rfl) (hwW.at 22 rfl) (hwW.at 25 rfl) (hcC.l hbB 27 rfl) (hcC.l hbB 28 rfl) @hg
  ·exact Ds4 hbB (hcC.l hbB 26 rfl) (hcC.l hbB 27 rfl) (hcC.l hbB 28 rfl) @hg
  ·have w21 := hwW.at 21 rfl; exact Ds4 hbB ((hcC 21 _ rfl w21).at 20 rfl) w21 (hcC.l hbB 28 rfl) @hg
  ·have w21 := hwW.at 21 rfl; exact Ds5 hbB ((hcC 21 _ rfl w21).at 20 rfl) w21 (hcC.l hbB 27 rfl) (hcC.l hbB 28 rfl) @hg
  ·have w21 := hwW.at 21 rfl; exact Ds6 hbB ((hcC 21 _ rfl w21).at 20 rfl) w21 (hcC.l hbB 26 rfl) (hcC.l hbB 27 rfl) (hcC.l hbB 28 rfl) @hg
  ·exact Ds8 hbB (hwW.at 20 rfl) (hcC.l hbB 22 rfl) (hcC.l hbB 23 rfl) (hcC.l hbB 24 rfl) (hcC.l hbB 26 rfl) (hcC.l hbB 27 rfl) (hcC.l hbB 28 rfl) @hg
  ·exact Dkpu8 hbB (hwW.at 10 rfl) (hwW.at 14 rfl) (hwW.at 19 rfl) (hcC.l hbB 21 rfl) (hcC.l hbB 26 rfl) (hcC.l hbB 27 rfl) (hcC.l hbB 28 rfl) @hg (hsp)
  ·exact Ds6 hbB (hwW.at 18 rfl) (hcC.l hbB 20 rfl) (hcC.l hbB 26 rfl) (hcC.l hbB 27 rfl) (hcC.l hbB 28 rfl) @hg
  ·have l19 := hcC.l hbB 19 rfl; exact Ds7 hbB (hwW.at 17 rfl) l19 (hcC.l l19 20 rfl) (hcC.l hbB 26 rfl) (hcC.l hbB 27 rfl) (hcC.l hbB 28 rfl) @hg
  ·have l18 := hcC.l hbB 18 rfl; have l19 := hcC.l l18 19 rfl; exact Ds7 hbB (hwW.at 16 rfl) l18 (hcC.l l19 20 rfl) (hcC.l hbB 26 rfl) (hcC.l hbB 27 rfl) (hcC.l hbB 28 rfl) @hg
  ·have l17 := hcC.l hbB 17 rfl; have l18 := hcC.l l17 18 rfl; have l19 := hcC.l l18 19 rfl; exact Ds7 hbB (hwW.at 15 rfl) l17 (hcC.l l19 20 rfl) (hcC.l hbB 26 rfl) (hcC.l hbB 27 rfl) (hcC.l hbB 28 rfl) @hg
  ·have l16 := hcC.l hbB 16 rfl; have l17 := hcC.l l16 17 rfl; have l18 := hcC.l l17 18 rfl; have l19 := hcC.l l18 19 rfl; exact Ds6 hbB l16 (hcC.l l19 20 rfl) (hcC.l hbB 26 rfl) (hcC.l hbB 27 rfl) (hcC.l hbB 28 rfl) @hg
  ·exact Ds6 hbB (hwW.at 13 rfl) (hcC.l hbB 20 rfl) (hcC.l hbB 26 rfl) (hcC.l hbB 27 rfl) (hcC.l hbB 28 rfl) @hg
  ·have l14 := hcC.l hbB 14 rfl; exact Ds7 hbB (hwW.at 12 rfl) l14 (hcC.l l14 20 rfl) (hcC.l hbB 26 rfl) (hcC.l hbB 27 rfl) (hcC.l hbB 28 rfl) @hg
  ·have l13 := hcC.l hbB 13 rfl; have l14 := hcC.l l13 14 rfl; exact Ds7 hbB (hwW.at 11 rfl) l13 (hcC.l l14 20 rfl) (hcC.l hbB 26 rfl) (hcC.l hbB 27 rfl) (hcC.l hbB 28 rfl) @hg
  ·have l12 := hcC.l hbB 12 rfl; have l13 := hcC.l l12 13 rfl; have l14 := hcC.l l13 14 rfl; exact Ds6 hbB l12 (hcC.l l14 20 rfl) (hcC.l hbB 26 rfl) (hcC.l hbB 27 rfl) (hcC.l hbB 28 rfl) @hg
  ·exact Ds6 hbB (hwW.at 9 rfl) (hcC.l hbB 20 rfl) (hcC.l hbB 26 rfl) (hcC.l hbB 27 rfl) (hcC.l hbB 28 rfl) @hg
  ·have l10 := hcC.l hbB 10 rfl; exact Ds8 hbB (hwW.at 4 rfl) (hwW.at 8 rfl) l10 (hcC.l l10 20 rfl) (hcC.l hbB 26 rfl) (hcC.l hbB 27 rfl) (hcC.l hbB 28 rfl) @hg
  ·have l9 := hcC.l hbB 9 rfl; have l10 := hcC.l l9 10 rfl; exact Ds7 hbB (hwW.at 7 rfl) l9 (hcC.l l10 20 rfl) (hcC.l hbB 26 rfl) (hcC.l hbB 27 rfl) (hcC.l hbB 28 rfl) @hg
  ·have l8 := hcC.l hbB 8 rfl; have l9 := hcC.l l8 9 rfl; have l10 := hcC.l l9 10 rfl; exact Ds7 hbB (hwW.at 6 rfl) l8 (hcC.l l10 20 rfl) (hcC.l hbB 26 rfl) (hcC.l hbB 27 rfl) (hcC.l hbB 28 rfl) @hg
  ·have l7 := hcC.l hbB 7 rfl; have l8 := hcC.l l7 8 rfl; have l9 := hcC.l l8 9 rfl; have l10 := hcC.l l9 10 rfl; exact Ds7 hbB (hwW.at 5 rfl) l7 (hcC.l l10 20 rfl) (hcC.l hbB 26 rfl) (hcC.l hbB 27 rfl) (hcC.l hbB 28 rfl) @hg
  ·have l6 := hcC.l hbB 6 rfl; have l7 := hcC.l l6 7 rfl; have l8 := hcC.l l7 8 rfl; have l9 := hcC.l l8 9 rfl; have l10 := hcC.l l9 10 rfl; exact Ds6 hbB l6 (hcC.l l10 20 rfl) (hcC.l hbB 26 rfl) (hcC.l hbB 27 rfl) (hcC.l hbB 28 rfl) @hg
  ·have l9 := hcC.l hbB 9 rfl; have l10 := hcC.l l9 10 rfl; exact Ds7 hbB (hwW.at 3 rfl) l9 (hcC.l l10 20 rfl) (hcC.l hbB 26 rfl) (hcC.l hbB 27 rfl) (hcC.l hbB 28 rfl) @hg
  ·have l4 := hcC.l hbB 4 rfl; have l9 := hcC.l l4 9 rfl; have l10 := hcC.l l9 10 rfl; exact Ds7 hbB (hwW.at 2 rfl) l4 (hcC.l l10 20 rfl) (hcC.l hbB 26 rfl) (hcC.l hbB 27 rfl) (hcC.l hbB 28 rfl) @hg
  ·have l3 := hcC.l hbB 3 rfl; have l4 := hcC.l l3 4 rfl; have l9 := hcC.l l4 9 rfl; have l10 := hcC.l l9 10 rfl; exact Ds7 hbB (hwW.at 1 rfl) l3 (hcC.l l10 20 rfl) (hcC.l hbB 26 rfl) (hcC.l hbB 27 rfl) (hcC.l hbB 28 rfl) @hg
  ·have l2 := hcC.l hbB 2 rfl; have l3 := hcC.l l2 3 rfl; have l4 := hcC.l l3 4 rfl; have l9 := hcC.l l4 9 rfl; have l10 := hcC.l l9 10 rfl; exact Ds7 hbB (hwW.at 0 rfl) l2 (hcC.l l10 20 rfl) (hcC.l hbB 26 rfl) (hcC.l hbB 27 rfl) (hcC.l hbB 28 rfl) @hg
  ·have l1 := hcC.l hbB 1 rfl; have l2 := hcC.l l1 2 rfl; have l3 := hcC.l l2 3 rfl; have l4 := hcC.l l3 4 rfl; have l9 := hcC.l l4 9 rfl; have l10 := hcC.l l9 10 rfl; exact Ds6 hbB l1 (hcC.l l10 20 rfl) (hcC.l hbB 26 rfl) (hcC.l hbB 27 rfl) (hcC.l hbB 28 rfl) @hg
 simp only [List.length_cons, List.length_nil, Nat.reduceAdd, Nat.reduceLT, decide_true, if_true]
 refine Dd0 ?_
 refine Dar0 (cloneB_spec false bx hl) ?_
 refine Dd0 ?_
 refine TW_sub (Sub_bl 1099511627746) ?_
 refine TW_open mixed (by kernel_rfl) (fun b => ⟨[.ptr 0 0, .junk, .ptr 3 0, .int .i64 res.snd.fst, .bool res.snd.snd, .junk, .junk, .junk, .junk, .junk, .junk, .junk, .junk, .junk, .junk, .junk, .junk, .junk, .junk, .junk, .junk, .junk, .junk, .junk, .junk, .junk, .junk, .junk, .junk, .junk, .junk, .junk, .junk, .junk, .junk, .junk, .junk, .junk, .junk, .junk, if b 0 = true then .ptr 0 0 else .junk, if b 1 = true then .ptr 0 0 else .junk, if b 2 = true then .ptr 0 0 else .junk, if b 3 = true then .ptr 0 1 else .junk, if b 4 = true then .bsl 37 else .junk, if b 5 = true then .ptr 0 0 else .junk, if b 6 = true then .ptr 0 0 else .junk, if b 7 = true then .ptr 0 11 else .junk, if b 8 = true then .int .i64 (↑i : Int) else .junk, if b 9 = true then .ptr 0 0 else .junk, if b 10 = true then .agg [.int .i64 res.fst.r, .sl false (ints res.fst.m), .sl false (mails res.fst.s), .sl false (ints res.fst.w)] else .junk, if b 11 = true then .int .i64 res.snd.fst else .junk, if b 12 = true then .eptr 37 i 4 0 else .junk, if b 14 = true then .ptr 0 0 else .junk, if b 15 = true then .ptr 0 5 else .junk, if b 16 = true then .ptr 0 7 else .junk, .junk, .junk, .junk, .junk, .junk, .junk, .junk, .junk, .junk, .junk, .junk, .junk, .junk, .junk, .junk, .junk, .junk, .junk, .junk, .junk, .junk, .junk, .junk], [if b 17 = true then .box [.sl false (sms sm), .bsl 37, .int .i64 p, .int .i64 pc, .int .i64 n, .int .i64 kind, .int .i64 a, .int .i64 res.snd.fst, .bool gives, .int .i64 v, .int .i64 g, .int .i64 (↑i : Int)] else .box [.sl false (sms sm), .bsl 37, .int .i64 p, .int .i64 pc, .int .i64 n, .int .i64 kind, .int .i64 a, .int .i64 woken, .bool gives, .int .i64 v, .int .i64 g, .int .i64 (↑i : Int)], .un, .un, .box [.int .i64 res.fst.r, .sl false (ints res.fst.m), .sl false (mails res.fst.s), .sl false (ints res.fst.w)], .un, .un, .un, .un, .un, .un, .un, .un, .un, .un, .un, .un, .un, .un, .un, .un, .un, .un, .un, .un, .un, .un, .un, .un, .un, .un, .un, .un, .un, .un, .un, .un, .un, if b 13 = true then .arr 77 4 (bxs (bx.set i { r := res.fst.r, m := res.fst.m, s := res.fst.s, w := res.fst.w })) else .arr 77 4 (bxs bx), .un, .un, .un, .un, .un, .un, .un, .un, .un, .un, .un, .un, .un, .un, .un, .un, .un, .un, .un, .un, .un, .un, .un, .un, .un, .un, .un, .un, .un, .un, .un, .un, .un, .un, .un, .un, .un, .un, .un, .un, .un, .un], 1⟩) rfl ?_ ?_
 ·skip
  (repeat refine Di ?_ (fun b hwW hbB hcC => ?_)); (exact trivial)
  ·exact Ds16 hbB (hwW.at 0 rfl) (hwW.at 1 rfl) (hwW.at 2 rfl) (hwW.at 3 rfl) (hwW.at 4 rfl) (hwW.at 5 rfl) (hwW.at 6 rfl) (hwW.at 7 rfl) (hwW.at 8 rfl) (hwW.at 9 rfl) (hwW.at 10 rfl) (hwW.at 11 rfl) (hwW.at 12 rfl) (hwW.at 13 rfl) (hwW.at 16 rfl) @hg
  ·exact Ds17 hbB (hwW.at 0 rfl) (hwW.at 1 rfl) (hwW.at 2 rfl) (hwW.at 3 rfl) (hwW.at 4 rfl) (hwW.at 5 rfl) (hwW.at 6 rfl) (hwW.at 7 rfl) (hwW.at 8 rfl) (hwW.at 9 rfl) (hwW.at 10 rfl) (hwW.at 11 rfl) (hwW.at 12 rfl) (hwW.at 13 rfl) (hwW.at 15 rfl) (hcC.l hbB 17 rfl) @hg
  ·have l16 := hcC.l hbB 16 rfl; exact Ds18 hbB (hwW.at 0 rfl) (hwW.at 1 rfl) (hwW.at 2 rfl) (hwW.at 3 rfl) (hwW.at 4 rfl) (hwW.at 5 rfl) (hwW.at 6 rfl) (hwW.at 7 rfl) (hwW.at 8 rfl) (hwW.at 9 rfl) (hwW.at 10 rfl) (hwW.at 11 rfl) (hwW.at 12 rfl) (hwW.at 13 rfl) (hwW.at 14 rfl) l16 (hcC.l l16 17 rfl) @hg
  ·have l15 := hcC.l hbB 15 rfl; have l16 := hcC.l l15 16 rfl; exact Ds17 hbB (hwW.at 0 rfl) (hwW.at 1 rfl) (hwW.at 2 rfl) (hwW.at 3 rfl) (hwW.at 4 rfl) (hwW.at 5 rfl) (hwW.at 6 rfl) (hwW.at 7 rfl) (hwW.at 8 rfl) (hwW.at 9 rfl) (hwW.at 10 rfl) (hwW.at 11 rfl) (hwW.at 12 rfl) (hwW.at 13 rfl) l15 (hcC.l l16 17 rfl) @hg
  ·exact Ds16 hbB (hwW.at 0 rfl) (hwW.at 1 rfl) (hwW.at 2 rfl) (hwW.at 3 rfl) (hwW.at 4 rfl) (hwW.at 5 rfl) (hwW.at 6 rfl) (hwW.at 7 rfl) (hwW.at 8 rfl) (hwW.at 10 rfl) (hwW.at 12 rfl) (hcC.l hbB 14 rfl) (hcC.l hbB 15 rfl) (hcC.l hbB 16 rfl) (hcC.l hbB 17 rfl) @hg
  ·exact Ds16 hbB (hwW.at 0 rfl) (hwW.at 1 rfl) (hwW.at 2 rfl) (hwW.at 3 rfl) (hwW.at 4 rfl) (hwW.at 5 rfl) (hwW.at 6 rfl) (hwW.at 7 rfl) (hwW.at 8 rfl) (hwW.at 10 rfl) (hcC.l hbB 13 rfl) (hcC.l hbB 14 rfl) (hcC.l hbB 15 rfl) (hcC.l hbB 16 rfl) (hcC.l hbB 17 rfl) @hg
  ·exact Ds5 hbB (hcC.l hbB 14 rfl) (hcC.l hbB 15 rfl) (hcC.l hbB 16 rfl) (hcC.l hbB 17 rfl) @hg
  ·exact Ds7 hbB (hcC.l hbB 12 rfl) (hcC.l hbB 13 rfl) (hcC.l hbB 14 rfl) (hcC.l hbB 15 rfl) (hcC.l hbB 16 rfl) (hcC.l hbB 17 rfl) @hg
  ·exact Ds5 hbB (hcC.l hbB 14 rfl) (hcC.l hbB 15 rfl) (hcC.l hbB 16 rfl) (hcC.l hbB 17 rfl) @hg
  ·exact Ds8 hbB (hwW.at 7 rfl) (hcC.l hbB 12 rfl) (hcC.l hbB 13 rfl) (hcC.l hbB 14 rfl) (hcC.l hbB 15 rfl) (hcC.l hbB 16 rfl) (hcC.l hbB 17 rfl) @hg
  ·exact Ds9 hbB (hwW.at 6 rfl) (hcC.l hbB 8 rfl) (hcC.l hbB 12 rfl) (hcC.l hbB 13 rfl) (hcC.l hbB 14 rfl) (hcC.l hbB 15 rfl) (hcC.l hbB 16 rfl) (hcC.l hbB 17 rfl) @hg
  ·exact Ds9 hbB (hwW.at 5 rfl) (hcC.l hbB 7 rfl) (hcC.l hbB 12 rfl) (hcC.l hbB 13 rfl) (hcC.l hbB 14 rfl) (hcC.l hbB 15 rfl) (hcC.l hbB 16 rfl) (hcC.l hbB 17 rfl) @hg
  ·exact Ds8 hbB (hcC.l hbB 6 rfl) (hcC.l hbB 12 rfl) (hcC.l hbB 13 rfl) (hcC.l hbB 14 rfl) (hcC.l hbB 15 rfl) (hcC.l hbB 16 rfl) (hcC.l hbB 17 rfl) @hg
  ·exact Ds8 hbB (hwW.at 3 rfl) (hcC.l hbB 12 rfl) (hcC.l hbB 13 rfl) (hcC.l hbB 14 rfl) (hcC.l hbB 15 rfl) (hcC.l hbB 16 rfl) (hcC.l hbB 17 rfl) @hg
  ·exact Ds9 hbB (hwW.at 2 rfl) (hcC.l hbB 4 rfl) (hcC.l hbB 12 rfl) (hcC.l hbB 13 rfl) (hcC.l hbB 14 rfl) (hcC.l hbB 15 rfl) (hcC.l hbB 16 rfl) (hcC.l hbB 17 rfl) @hg
  ·exact Ds9 hbB (hwW.at 1 rfl) (hcC.l hbB 3 rfl) (hcC.l hbB 12 rfl) (hcC.l hbB 13 rfl) (hcC.l hbB 14 rfl) (hcC.l hbB 15 rfl) (hcC.l hbB 16 rfl) (hcC.l hbB 17 rfl) @hg
  ·exact Ds9 hbB (hwW.at 0 rfl) (hcC.l hbB 2 rfl) (hcC.l hbB 12 rfl) (hcC.l hbB 13 rfl) (hcC.l hbB 14 rfl) (hcC.l hbB 15 rfl) (hcC.l hbB 16 rfl) (hcC.l hbB 17 rfl) @hg
  ·exact Ds8 hbB (hcC.l hbB 1 rfl) (hcC.l hbB 12 rfl) (hcC.l hbB 13 rfl) (hcC.l hbB 14 rfl) (hcC.l hbB 15 rfl) (hcC.l hbB 16 rfl) (hcC.l hbB 17 rfl) @hg
 simp only [List.length_cons, List.length_nil, Nat.reduceAdd, Nat.reduceLT, decide_true, if_true]
 refine Dd1 @hok ?_
 refine TW_cond rfl (fun hc => ?_) (fun hc => ?_)
 ·simp at hc
 ·refine Dd1 @hd ?_
  refine TW_cond rfl (fun hc => ?_) (fun hc => ?_)
  ·refine Dd0 ?_
   (refine ⟨_, Sub.trans (Sub_fix 37) (Sub_immBox (b := 0) (f := 1) (id := 37) rfl rfl rfl), ?_⟩; (try simp only [go_sem]); refine ⟨by simp, rfl, ?_⟩; simp only [go_sem, Try.results45]; refine ⟨[0], rfl, rfl, ?_⟩; (repeat' (first | rfl | trivial | refine ⟨?_, ?_⟩)))
  ·simp at hc
   omega
theorem recv0_spec (sm : List (Int × List Int)) (bx : List Bx) (p pc n kind a woken : Int) (gives : Bool) (v g : Int) (i : Nat) (hi : i < bx.length) (hl : bx.length ≤ 1000000) (hm : (bxN bx i).m.length ≤ 999999) (hs : (bxN bx i).s.length ≤ 1000000) (hw : (bxN bx i).w.length ≤ 1000000) (hok : (brecv (bxN bx i) g).2.2.2 = false) :
  RetH Try.prog 46 [.ptr 0 0] (jobH ⟨sm, bx, p, pc, n, kind, a, woken, gives, v, g, i⟩) (.tup []) (jobH ⟨sm, bx.set i (brecv (bxN bx i) g).1, p, pc, n, 4, a, (brecv (bxN bx i) g).2.2.1, gives, v, g, i⟩) := by
 have hsp := brecv_59 (bxN bx i) g hm hs hw
 generalize brecv (bxN bx i) g = res at hsp hok ⊢
 have hrr := bxs_4 bx
 have hg := bxs_get bx i hi
 refine RetH_of_body Try.func46 (by kernel_rfl) rfl (by first | (simp; done) | exact Nat.le_refl _ | (simp only [go_sem] <;> omega)) (TW_finS ?_); rw [Try.ntmps46]
 simp only [go_sem]
 refine Dd0 ?_
 refine TW_sub (Sub_bl 2) ?_
 refine TW_open mixed (by kernel_rfl) (fun b => ⟨[.ptr 0 0, .junk, if b 21 = true then .ptr 3 0 else .junk, if b 23 = true then .int .i64 res.snd.fst else .junk, if b 24 = true then .int .i64 res.snd.snd.fst else .junk, if b 25 = true then .bool res.snd.snd.snd else .junk, if b 16 = true then .tup [.agg [.int .i64 res.fst.r, .sl false (ints res.fst.m), .sl false (mails res.fst.s), .sl false (ints res.fst.w)], .int .i64 res.snd.fst, .int .i64 res.snd.snd.fst, .bool res.snd.snd.snd] else .junk, if b 0 = true then .ptr 0 0 else .junk, if b 1 = true then .ptr 0 0 else .junk, if b 2 = true then .ptr 0 0 else .junk, if b 3 = true then .ptr 0 1 else .junk, if b 4 = true then .sl false (bxs bx) else .junk, if b 5 = true then .ptr 0 0 else .junk, if b 6 = true then .ptr 0 0 else .junk, if b 7 = true then .ptr 0 11 else .junk, if b 8 = true then .int .i64 (↑i : Int) else .junk, if b 9 = true then .cptr [.int .i64 (bxN bx i).r, .sl false (ints (bxN bx i).m), .sl false (mails (bxN bx i).s), .sl false (ints (bxN bx i).w)] else .junk, if b 10 = true then .agg [.int .i64 (bxN bx i).r, .sl false (ints (bxN bx i).m), .sl false (mails (bxN bx i).s), .sl false (ints (bxN bx i).w)] else .junk, if b 11 = true then .ptr 0 0 else .junk, if b 12 = true then .ptr 0 0 else .junk, if b 13 = true then .ptr 0 10 else .junk, if b 14 = true then .int .i64 g else .junk, if b 15 = true then .tup [.agg [.int .i64 res.fst.r, .sl false (ints res.fst.m), .sl false (mails res.fst.s), .sl false (ints res.fst.w)], .int .i64 res.snd.fst, .int .i64 res.snd.snd.fst, .bool res.snd.snd.snd] else .junk, if b 17 = true then .agg [.int .i64 res.fst.r, .sl false (ints res.fst.m), .sl false (mails res.fst.s), .sl false (ints res.fst.w)] else .junk, if b 18 = true then .int .i64 res.snd.fst else .junk, if b 19 = true then .int .i64 res.snd.snd.fst else .junk, if b 20 = true then .bool res.snd.snd.snd else .junk, .junk, .junk, .junk, .junk, .junk, .junk, .junk, .junk, .junk, .junk, .junk, .junk, .junk, .junk, .junk, .junk, .junk, .junk, .junk, .junk, .junk, .junk, .junk, .junk, .junk, .junk, .junk, .junk, .junk, .junk, .junk, .junk, .junk, .junk, .junk, .junk, .junk], [.box [.sl false (sms sm), .sl false (bxs bx), .int .i64 p, .int .i64 pc, .int .i64 n, .int .i64 kind, .int .i64 a, .int .i64 woken, .bool gives, .int .i64 v, .int .i64 g, .int .i64 (↑i : Int)], .un, .un, if b 22 = true then .box [.int .i64 res.fst.r, .sl false (ints res.fst.m), .sl false (mails res.fst.s), .sl false (ints res.fst.w)] else if b 21 = true then .box [.int .i64 0, .nils, .nils, .nils] else .un, .un, .un, .un, .un, .un, .un, .un, .un, .un, .un, .un, .un, .un, .un, .un, .un, .un, .un, .un, .un, .un, .un, .un, .un, .un, .un, .un, .un, .un, .un, .un, .un, .un, .un, .un, .un, .un, .un, .un, .un, .un, .un, .un, .un, .un, .un, .un, .un, .un, .un, .un, .un, .un, .un, .un, .un, .un, .un, .un, .un, .un], 1⟩) rfl ?_ ?_
 ·skip
  (repeat refine Di ?_ (fun b hwW hbB hcC => ?_)); (exact trivial)
  ·exact Ds26 hbB (hwW.at 0 rfl) (hwW.at 1 rfl) (hwW.at 2 rfl) (hwW.at 3 rfl) (hwW.at 4 rfl) (hwW.at 5 rfl) (hwW.at 6 rfl) (hwW.at 7 rfl) (hwW.at 8 rfl) (hwW.at 9 rfl) (hwW.at 10 rfl) (hwW.at 11 rfl) (hwW.at 12 rfl) (hwW.at 13 rfl) (hwW.at 14 rfl) (hwW.at 15 rfl) (hwW.at 16 rfl) (hwW.at 17 rfl) (hwW.at 18 rfl) (hwW.at 19 rfl) (hwW.at 20 rfl) (hwW.at 21 rfl) (hwW.at 22 rfl) (hwW.at 23 rfl) (hwW.at 24 rfl) @hg
  ·exact Ds25 hbB (hwW.at 0 rfl) (hwW.at 1 rfl) (hwW.at 2 rfl) (hwW.at 3 rfl) (hwW.at 4 rfl) (hwW.at 5 rfl) (hwW.at 6 rfl) (hwW.at 7 rfl) (hwW.at 8 rfl) (hwW.at 9 rfl) (hwW.at 10 rfl) (hwW.at 11 rfl) (hwW.at 12 rfl) (hwW.at 13 rfl) (hwW.at 14 rfl) (hwW.at 15 rfl) (hwW.at 16 rfl) (hwW.at 17 rfl) (hwW.at 18 rfl) (hwW.at 19 rfl) (hwW.at 21 rfl) (hwW.at 22 rfl) (hwW.at 23 rfl) (hcC.l hbB 25 rfl) @hg
  ·exact Ds24 hbB (hwW.at 0 rfl) (hwW.at 1 rfl) (hwW.at 2 rfl) (hwW.at 3 rfl) (hwW.at 4 rfl) (hwW.at 5 rfl) (hwW.at 6 rfl) (hwW.at 7 rfl) (hwW.at 8 rfl) (hwW.at 9 rfl) (hwW.at 10 rfl) (hwW.at 11 rfl) (hwW.at 12 rfl) (hwW.at 13 rfl) (hwW.at 14 rfl) (hwW.at 15 rfl) (hwW.at 16 rfl) (hwW.at 17 rfl) (hwW.at 18 rfl) (hwW.at 21 rfl) (hwW.at 22 rfl) (hcC.l hbB 24 rfl) (hcC.l hbB 25 rfl) @hg
  ·exact Ds23 hbB (hwW.at 0 rfl) (hwW.at 1 rfl) (hwW.at 2 rfl) (hwW.at 3 rfl) (hwW.at 4 rfl) (hwW.at 5 rfl) (hwW.at 6 rfl) (hwW.at 7 rfl) (hwW.at 8 rfl) (hwW.at 9 rfl) (hwW.at 10 rfl) (hwW.at 11 rfl) (hwW.at 12 rfl) (hwW.at 13 rfl) (hwW.at 14 rfl) (hwW.at 15 rfl) (hwW.at 16 rfl) (hwW.at 17 rfl) (hwW.at 21 rfl) (hcC.l hbB 23 rfl) (hcC.l hbB 24 rfl) (hcC.l hbB 25 rfl) @hg
  ·exact Ds5 hbB (hcC.l hbB 22 rfl) (hcC.l hbB 23 rfl) (hcC.l hbB 24 rfl) (hcC.l hbB 25 rfl) @hg
  ·have w16 := hwW.at 16 rfl; exact Ds4 hbB ((hcC 16 _ rfl w16).at 15 rfl) w16 (hcC.l hbB 25 rfl) @hg
  ·have w16 := hwW.at 16 rfl; exact Ds5 hbB ((hcC 16 _ rfl w16).at 15 rfl) w16 (hcC.l hbB 24 rfl) (hcC.l hbB 25 rfl) @hg
  ·have w16 := hwW.at 16 rfl; exact Ds6 hbB ((hcC 16 _ rfl w16).at 15 rfl) w16 (hcC.l hbB 23 rfl) (hcC.l hbB 24 rfl) (hcC.l hbB 25 rfl) @hg
  ·have w16 := hwW.at 16 rfl; exact Ds7 hbB ((hcC 16 _ rfl w16).at 15 rfl) w16 (hcC.l hbB 22 rfl) (hcC.l hbB 23 rfl) (hcC.l hbB 24 rfl) (hcC.l hbB 25 rfl) @hg
  ·exact Ds10 hbB (hwW.at 15 rfl) (hcC.l hbB 17 rfl) (hcC.l hbB 18 rfl) (hcC.l hbB 19 rfl) (hcC.l hbB 20 rfl) (hcC.l hbB 22 rfl) (hcC.l hbB 23 rfl) (hcC.l hbB 24 rfl) (hcC.l hbB 25 rfl) @hg
  ·exact Dkpu8 hbB (hwW.at 10 rfl) (hwW.at 14 rfl) (hcC.l hbB 16 rfl) (hcC.l hbB 22 rfl) (hcC.l hbB 23 rfl) (hcC.l hbB 24 rfl) (hcC.l hbB 25 rfl) @hg (hsp)
  ·exact Ds7 hbB (hwW.at 13 rfl) (hcC.l hbB 15 rfl) (hcC.l hbB 22 rfl) (hcC.l hbB 23 rfl) (hcC.l hbB 24 rfl) (hcC.l hbB 25 rfl) @hg
  ·have l14 := hcC.l hbB 14 rfl; exact Ds8 hbB (hwW.at 12 rfl) l14 (hcC.l l14 15 rfl) (hcC.l hbB 22 rfl) (hcC.l hbB 23 rfl) (hcC.l hbB 24 rfl) (hcC.l hbB 25 rfl) @hg
  ·have l13 := hcC.l hbB 13 rfl; have l14 := hcC.l l13 14 rfl; exact Ds8 hbB (hwW.at 11 rfl) l13 (hcC.l l14 15 rfl) (hcC.l hbB 22 rfl) (hcC.l hbB 23 rfl) (hcC.l hbB 24 rfl) (hcC.l hbB 25 rfl) @hg
  ·have l12 := hcC.l hbB 12 rfl; have l13 := hcC.l l12 13 rfl; have l14 := hcC.l l13 14 rfl; exact Ds7 hbB l12 (hcC.l l14 15 rfl) (hcC.l hbB 22 rfl) (hcC.l hbB 23 rfl) (hcC.l hbB 24 rfl) (hcC.l hbB 25 rfl) @hg
  ·exact Ds7 hbB (hwW.at 9 rfl) (hcC.l hbB 15 rfl) (hcC.l hbB 22 rfl) (hcC.l hbB 23 rfl) (hcC.l hbB 24 rfl) (hcC.l hbB 25 rfl) @hg
  ·have l10 := hcC.l hbB 10 rfl; exact Ds9 hbB (hwW.at 4 rfl) (hwW.at 8 rfl) l10 (hcC.l l10 15 rfl) (hcC.l hbB 22 rfl) (hcC.l hbB 23 rfl) (hcC.l hbB 24 rfl) (hcC.l hbB 25 rfl) @hg
  ·have l9 := hcC.l hbB 9 rfl; have l10 := hcC.l l9 10 rfl; exact Ds8 hbB (hwW.at 7 rfl) l9 (hcC.l l10 15 rfl) (hcC.l hbB 22 rfl) (hcC.l hbB 23 rfl) (hcC.l hbB 24 rfl) (hcC.l hbB 25 rfl) @hg
  ·have l8 := hcC.l hbB 8 rfl; have l9 := hcC.l l8 9 rfl; have l10 := hcC.l l9 10 rfl; exact Ds8 hbB (hwW.at 6 rfl) l8 (hcC.l l10 15 rfl) (hcC.l hbB 22 rfl) (hcC.l hbB 23 rfl) (hcC.l hbB 24 rfl) (hcC.l hbB 25 rfl) @hg
  ·have l7 := hcC.l hbB 7 rfl; have l8 := hcC.l l7 8 rfl; have l9 := hcC.l l8 9 rfl; have l10 := hcC.l l9 10 rfl; exact Ds8 hbB (hwW.at 5 rfl) l7 (hcC.l l10 15 rfl) (hcC.l hbB 22 rfl) (hcC.l hbB 23 rfl) (hcC.l hbB 24 rfl) (hcC.l hbB 25 rfl) @hg
  ·have l6 := hcC.l hbB 6 rfl; have l7 := hcC.l l6 7 rfl; have l8 := hcC.l l7 8 rfl; have l9 := hcC.l l8 9 rfl; have l10 := hcC.l l9 10 rfl; exact Ds7 hbB l6 (hcC.l l10 15 rfl) (hcC.l hbB 22 rfl) (hcC.l hbB 23 rfl) (hcC.l hbB 24 rfl) (hcC.l hbB 25 rfl) @hg
  ·have l9 := hcC.l hbB 9 rfl; have l10 := hcC.l l9 10 rfl; exact Ds8 hbB (hwW.at 3 rfl) l9 (hcC.l l10 15 rfl) (hcC.l hbB 22 rfl) (hcC.l hbB 23 rfl) (hcC.l hbB 24 rfl) (hcC.l hbB 25 rfl) @hg
  ·have l4 := hcC.l hbB 4 rfl; have l9 := hcC.l l4 9 rfl; have l10 := hcC.l l9 10 rfl; exact Ds8 hbB (hwW.at 2 rfl) l4 (hcC.l l10 15 rfl) (hcC.l hbB 22 rfl) (hcC.l hbB 23 rfl) (hcC.l hbB 24 rfl) (hcC.l hbB 25 rfl) @hg
  ·have l3 := hcC.l hbB 3 rfl; have l4 := hcC.l l3 4 rfl; have l9 := hcC.l l4 9 rfl; have l10 := hcC.l l9 10 rfl; exact Ds8 hbB (hwW.at 1 rfl) l3 (hcC.l l10 15 rfl) (hcC.l hbB 22 rfl) (hcC.l hbB 23 rfl) (hcC.l hbB 24 rfl) (hcC.l hbB 25 rfl) @hg
  ·have l2 := hcC.l hbB 2 rfl; have l3 := hcC.l l2 3 rfl; have l4 := hcC.l l3 4 rfl; have l9 := hcC.l l4 9 rfl; have l10 := hcC.l l9 10 rfl; exact Ds8 hbB (hwW.at 0 rfl) l2 (hcC.l l10 15 rfl) (hcC.l hbB 22 rfl) (hcC.l hbB 23 rfl) (hcC.l hbB 24 rfl) (hcC.l hbB 25 rfl) @hg
  ·have l1 := hcC.l hbB 1 rfl; have l2 := hcC.l l1 2 rfl; have l3 := hcC.l l2 3 rfl; have l4 := hcC.l l3 4 rfl; have l9 := hcC.l l4 9 rfl; have l10 := hcC.l l9 10 rfl; exact Ds7 hbB l1 (hcC.l l10 15 rfl) (hcC.l hbB 22 rfl) (hcC.l hbB 23 rfl) (hcC.l hbB 24 rfl) (hcC.l hbB 25 rfl) @hg
 simp only [List.length_cons, List.length_nil, Nat.reduceAdd, Nat.reduceLT, decide_true, if_true]
 refine Dd0 ?_
 refine Dar0 (cloneB_spec false bx hl) ?_
 refine Dd0 ?_
 refine TW_sub (Sub_bl 137438953410) ?_
 refine TW_open mixed (by kernel_rfl) (fun b => ⟨[.ptr 0 0, .junk, .ptr 3 0, .int .i64 res.snd.fst, .int .i64 res.snd.snd.fst, .bool res.snd.snd.snd, .junk, .junk, .junk, .junk, .junk, .junk, .junk, .junk, .junk, .junk, .junk, .junk, .junk, .junk, .junk, .junk, .junk, .junk, .junk, .junk, .junk, .junk, .junk, .junk, .junk, .junk, .junk, .junk, .junk, .junk, .junk, if b 0 = true then .ptr 0 0 else .junk, if b 1 = true then .ptr 0 0 else .junk, if b 2 = true then .ptr 0 0 else .junk, if b 3 = true then .ptr 0 1 else .junk, if b 4 = true then .bsl 34 else .junk, if b 5 = true then .ptr 0 0 else .junk, if b 6 = true then .ptr 0 0 else .junk, if b 7 = true then .ptr 0 11 else .junk, if b 8 = true then .int .i64 (↑i : Int) else .junk, if b 9 = true then .ptr 0 0 else .junk, if b 10 = true then .agg [.int .i64 res.fst.r, .sl false (ints res.fst.m), .sl false (mails res.fst.s), .sl false (ints res.fst.w)] else .junk, if b 11 = true then .int .i64 res.snd.snd.fst else .junk, if b 12 = true then .eptr 34 i 4 0 else .junk, if b 14 = true then .ptr 0 0 else .junk, if b 15 = true then .ptr 0 5 else .junk, if b 16 = true then .ptr 0 7 else .junk, .junk, .junk, .junk, .junk, .junk, .junk, .junk, .junk, .junk, .junk, .junk], [if b 17 = true then .box [.sl false (sms sm), .bsl 34, .int .i64 p, .int .i64 pc, .int .i64 n, .int .i64 kind, .int .i64 a, .int .i64 res.snd.snd.fst, .bool gives, .int .i64 v, .int .i64 g, .int .i64 (↑i : Int)] else .box [.sl false (sms sm), .bsl 34, .int .i64 p, .int .i64 pc, .int .i64 n, .int .i64 kind, .int .i64 a, .int .i64 woken, .bool gives, .int .i64 v, .int .i64 g, .int .i64 (↑i : Int)], .un, .un, .box [.int .i64 res.fst.r, .sl false (ints res.fst.m), .sl false (mails res.fst.s), .sl false (ints res.fst.w)], .un, .un, .un, .un, .un, .un, .un, .un, .un, .un, .un, .un, .un, .un, .un, .un, .un, .un, .un, .un, .un, .un, .un, .un, .un, .un, .un, .un, .un, .un, if b 13 = true then .arr 77 4 (bxs (bx.set i { r := res.fst.r, m := res.fst.m, s := res.fst.s, w := res.fst.w })) else .arr 77 4 (bxs bx), .un, .un, .un, .un, .un, .un, .un, .un, .un, .un, .un, .un, .un, .un, .un, .un, .un, .un, .un, .un, .un, .un, .un, .un, .un, .un, .un, .un, .un, .un], 1⟩) rfl ?_ ?_
 ·skip
  (repeat refine Di ?_ (fun b hwW hbB hcC => ?_)); (exact trivial)
  ·exact Ds16 hbB (hwW.at 0 rfl) (hwW.at 1 rfl) (hwW.at 2 rfl) (hwW.at 3 rfl) (hwW.at 4 rfl) (hwW.at 5 rfl) (hwW.at 6 rfl) (hwW.at 7 rfl) (hwW.at 8 rfl) (hwW.at 9 rfl) (hwW.at 10 rfl) (hwW.at 11 rfl) (hwW.at 12 rfl) (hwW.at 13 rfl) (hwW.at 16 rfl) @hg
  ·exact Ds17 hbB (hwW.at 0 rfl) (hwW.at 1 rfl) (hwW.at 2 rfl) (hwW.at 3 rfl) (hwW.at 4 rfl) (hwW.at 5 rfl) (hwW.at 6 rfl) (hwW.at 7 rfl) (hwW.at 8 rfl) (hwW.at 9 rfl) (hwW.at 10 rfl) (hwW.at 11 rfl) (hwW.at 12 rfl) (hwW.at 13 rfl) (hwW.at 15 rfl) (hcC.l hbB 17 rfl) @hg
  ·have l16 := hcC.l hbB 16 rfl; exact Ds18 hbB (hwW.at 0 rfl) (hwW.at 1 rfl) (hwW.at 2 rfl) (hwW.at 3 rfl) (hwW.at 4 rfl) (hwW.at 5 rfl) (hwW.at 6 rfl) (hwW.at 7 rfl) (hwW.at 8 rfl) (hwW.at 9 rfl) (hwW.at 10 rfl) (hwW.at 11 rfl) (hwW.at 12 rfl) (hwW.at 13 rfl) (hwW.at 14 rfl) l16 (hcC.l l16 17 rfl) @hg
  ·have l15 := hcC.l hbB 15 rfl; have l16 := hcC.l l15 16 rfl; exact Ds17 hbB (hwW.at 0 rfl) (hwW.at 1 rfl) (hwW.at 2 rfl) (hwW.at 3 rfl) (hwW.at 4 rfl) (hwW.at 5 rfl) (hwW.at 6 rfl) (hwW.at 7 rfl) (hwW.at 8 rfl) (hwW.at 9 rfl) (hwW.at 10 rfl) (hwW.at 11 rfl) (hwW.at 12 rfl) (hwW.at 13 rfl) l15 (hcC.l l16 17 rfl) @hg
  ·exact Ds16 hbB (hwW.at 0 rfl) (hwW.at 1 rfl) (hwW.at 2 rfl) (hwW.at 3 rfl) (hwW.at 4 rfl) (hwW.at 5 rfl) (hwW.at 6 rfl) (hwW.at 7 rfl) (hwW.at 8 rfl) (hwW.at 10 rfl) (hwW.at 12 rfl) (hcC.l hbB 14 rfl) (hcC.l hbB 15 rfl) (hcC.l hbB 16 rfl) (hcC.l hbB 17 rfl) @hg
  ·exact Ds16 hbB (hwW.at 0 rfl) (hwW.at 1 rfl) (hwW.at 2 rfl) (hwW.at 3 rfl) (hwW.at 4 rfl) (hwW.at 5 rfl) (hwW.at 6 rfl) (hwW.at 7 rfl) (hwW.at 8 rfl) (hwW.at 10 rfl) (hcC.l hbB 13 rfl) (hcC.l hbB 14 rfl) (hcC.l hbB 15 rfl) (hcC.l hbB 16 rfl) (hcC.l hbB 17 rfl) @hg
  ·exact Ds5 hbB (hcC.l hbB 14 rfl) (hcC.l hbB 15 rfl) (hcC.l hbB 16 rfl) (hcC.l hbB 17 rfl) @hg
  ·exact Ds7 hbB (hcC.l hbB 12 rfl) (hcC.l hbB 13 rfl) (hcC.l hbB 14 rfl) (hcC.l hbB 15 rfl) (hcC.l hbB 16 rfl) (hcC.l hbB 17 rfl) @hg
  ·exact Ds5 hbB (hcC.l hbB 14 rfl) (hcC.l hbB 15 rfl) (hcC.l hbB 16 rfl) (hcC.l hbB 17 rfl) @hg
  ·exact Ds8 hbB (hwW.at 7 rfl) (hcC.l hbB 12 rfl) (hcC.l hbB 13 rfl) (hcC.l hbB 14 rfl) (hcC.l hbB 15 rfl) (hcC.l hbB 16 rfl) (hcC.l hbB 17 rfl) @hg
  ·exact Ds9 hbB (hwW.at 6 rfl) (hcC.l hbB 8 rfl) (hcC.l hbB 12 rfl) (hcC.l hbB 13 rfl) (hcC.l hbB 14 rfl) (hcC.l hbB 15 rfl) (hcC.l hbB 16 rfl) (hcC.l hbB 17 rfl) @hg
  ·exact Ds9 hbB (hwW.at 5 rfl) (hcC.l hbB 7 rfl) (hcC.l hbB 12 rfl) (hcC.l hbB 13 rfl) (hcC.l hbB 14 rfl) (hcC.l hbB 15 rfl) (hcC.l hbB 16 rfl) (hcC.l hbB 17 rfl) @hg
  ·exact Ds8 hbB (hcC.l hbB 6 rfl) (hcC.l hbB 12 rfl) (hcC.l hbB 13 rfl) (hcC.l hbB 14 rfl) (hcC.l hbB 15 rfl) (hcC.l hbB 16 rfl) (hcC.l hbB 17 rfl) @hg
  ·exact Ds8 hbB (hwW.at 3 rfl) (hcC.l hbB 12 rfl) (hcC.l hbB 13 rfl) (hcC.l hbB 14 rfl) (hcC.l hbB 15 rfl) (hcC.l hbB 16 rfl) (hcC.l hbB 17 rfl) @hg
  ·exact Ds9 hbB (hwW.at 2 rfl) (hcC.l hbB 4 rfl) (hcC.l hbB 12 rfl) (hcC.l hbB 13 rfl) (hcC.l hbB 14 rfl) (hcC.l hbB 15 rfl) (hcC.l hbB 16 rfl) (hcC.l hbB 17 rfl) @hg
  ·exact Ds9 hbB (hwW.at 1 rfl) (hcC.l hbB 3 rfl) (hcC.l hbB 12 rfl) (hcC.l hbB 13 rfl) (hcC.l hbB 14 rfl) (hcC.l hbB 15 rfl) (hcC.l hbB 16 rfl) (hcC.l hbB 17 rfl) @hg
  ·exact Ds9 hbB (hwW.at 0 rfl) (hcC.l hbB 2 rfl) (hcC.l hbB 12 rfl) (hcC.l hbB 13 rfl) (hcC.l hbB 14 rfl) (hcC.l hbB 15 rfl) (hcC.l hbB 16 rfl) (hcC.l hbB 17 rfl) @hg
  ·exact Ds8 hbB (hcC.l hbB 1 rfl) (hcC.l hbB 12 rfl) (hcC.l hbB 13 rfl) (hcC.l hbB 14 rfl) (hcC.l hbB 15 rfl) (hcC.l hbB 16 rfl) (hcC.l hbB 17 rfl) @hg
 simp only [List.length_cons, List.length_nil, Nat.reduceAdd, Nat.reduceLT, decide_true, if_true]
 refine Dd1 @hok ?_
 refine TW_cond rfl (fun hc => ?_) (fun hc => ?_)
 ·refine Dd0 ?_
  (refine ⟨_, Sub.trans (Sub_fix 34) (Sub_immBox (b := 0) (f := 1) (id := 34) rfl rfl rfl), ?_⟩; (try simp only [go_sem]); refine ⟨by simp, rfl, ?_⟩; simp only [go_sem, Try.results46]; refine ⟨[0], rfl, rfl, ?_⟩; (repeat' (first | rfl | trivial | refine ⟨?_, ?_⟩)))
 ·simp at hc
theorem recv1m_spec (sm : List (Int × List Int)) (bx : List Bx) (p pc n kind a woken : Int) (gives : Bool) (v g : Int) (i : Nat) (hi : i < bx.length) (hl : bx.length ≤ 1000000) (hm : (bxN bx i).m.length ≤ 999999) (hs : (bxN bx i).s.length ≤ 1000000) (hw : (bxN bx i).w.length ≤ 1000000) (hok : (brecv (bxN bx i) g).2.2.2 = true) :
  RetH Try.prog 46 [.ptr 0 0] (jobH ⟨sm, bx, p, pc, n, kind, a, woken, gives, v, g, i⟩) (.tup []) (jobH ⟨sm, bx.set i (brecv (bxN bx i) g).1, p, pc, (brecv (bxN bx i) g).2.1, kind, a, (brecv (bxN bx i) g).2.2.1, gives, v, g, i⟩) := by
 have hsp := brecv_59 (bxN bx i) g hm hs hw
 generalize brecv (bxN bx i) g = res at hsp hok ⊢
 have hrr := bxs_4 bx
 have hg := bxs_get bx i hi
 refine RetH_of_body Try.func46 (by kernel_rfl) rfl (by first | (simp; done) | exact Nat.le_refl _ | (simp only [go_sem] <;> omega)) (TW_finS ?_); rw [Try.ntmps46]
 simp only [go_sem]
 refine Dd0 ?_
 refine TW_sub (Sub_bl 2) ?_
 refine TW_open mixed (by kernel_rfl) (fun b => ⟨[.ptr 0 0, .junk, if b 21 = true then .ptr 3 0 else .junk, if b 23 = true then .int .i64 res.snd.fst else .junk, if b 24 = true then .int .i64 res.snd.snd.fst else .junk, if b 25 = true then .bool res.snd.snd.snd else .junk, if b 16 = true then .tup [.agg [.int .i64 res.fst.r, .sl false (ints res.fst.m), .sl false (mails res.fst.s), .sl false (ints res.fst.w)], .int .i64 res.snd.fst, .int .i64 res.snd.snd.fst, .bool res.snd.snd.snd] else .junk, if b 0 = true then .ptr 0 0 else .junk, if b 1 = true then .ptr 0 0 else .junk, if b 2 = true then .ptr 0 0 else .junk, if b 3 = true then .ptr 0 1 else .junk, if b 4 = true then .sl false (bxs bx) else .junk, if b 5 = true then .ptr 0 0 else .junk, if b 6 = true then .ptr 0 0 else .junk, if b 7 = true then .ptr 0 11 else .junk, if b 8 = true then .int .i64 (↑i : Int) else .junk, if b 9 = true then .cptr [.int .i64 (bxN bx i).r, .sl false (ints (bxN bx i).m), .sl false (mails (bxN bx i).s), .sl false (ints (bxN bx i).w)] else .junk, if b 10 = true then .agg [.int .i64 (bxN bx i).r, .sl false (ints (bxN bx i).m), .sl false (mails (bxN bx i).s), .sl false (ints (bxN bx i).w)] else .junk, if b 11 = true then .ptr 0 0 else .junk, if b 12 = true then .ptr 0 0 else .junk, if b 13 = true then .ptr 0 10 else .junk, if b 14 = true then .int .i64 g else .junk, if b 15 = true then .tup [.agg [.int .i64 res.fst.r, .sl false (ints res.fst.m), .sl false (mails res.fst.s), .sl false (ints res.fst.w)], .int .i64 res.snd.fst, .int .i64 res.snd.snd.fst, .bool res.snd.snd.snd] else .junk, if b 17 = true then .agg [.int .i64 res.fst.r, .sl false (ints res.fst.m), .sl false (mails res.fst.s), .sl false (ints res.fst.w)] else .junk, if b 18 = true then .int .i64 res.snd.fst else .junk, if b 19 = true then .int .i64 res.snd.snd.fst else .junk, if b 20 = true then .bool res.snd.snd.snd else .junk, .junk, .junk, .junk, .junk, .junk, .junk, .junk, .junk, .junk, .junk, .junk, .junk, .junk, .junk, .junk, .junk, .junk, .junk, .junk, .junk, .junk, .junk, .junk, .junk, .junk, .junk, .junk, .junk, .junk, .junk, .junk, .junk, .junk, .junk, .junk, .junk, .junk], [.box [.sl false (sms sm), .sl false (bxs bx), .int .i64 p, .int .i64 pc, .int .i64 n, .int .i64 kind, .int .i64 a, .int .i64 woken, .bool gives, .int .i64 v, .int .i64 g, .int .i64 (↑i : Int)], .un, .un, if b 22 = true then .box [.int .i64 res.fst.r, .sl false (ints res.fst.m), .sl false (mails res.fst.s), .sl false (ints res.fst.w)] else if b 21 = true then .box [.int .i64 0, .nils, .nils, .nils] else .un, .un, .un, .un, .un, .un, .un, .un, .un, .un, .un, .un, .un, .un, .un, .un, .un, .un, .un, .un, .un, .un, .un, .un, .un, .un, .un, .un, .un, .un, .un, .un, .un, .un, .un, .un, .un, .un, .un, .un, .un, .un, .un, .un, .un, .un, .un, .un, .un, .un, .un, .un, .un, .un, .un, .un, .un, .un, .un, .un, .un, .un], 1⟩) rfl ?_ ?_
 ·skip
  (repeat refine Di ?_ (fun b hwW hbB hcC => ?_)); (exact trivial)
  ·exact Ds26 hbB (hwW.at 0 rfl) (hwW.at 1 rfl) (hwW.at 2 rfl) (hwW.at 3 rfl) (hwW.at 4 rfl) (hwW.at 5 rfl) (hwW.at 6 rfl) (hwW.at 7 rfl) (hwW.at 8 rfl) (hwW.at 9 rfl) (hwW.at 10 rfl) (hwW.at 11 rfl) (hwW.at 12 rfl) (hwW.at 13 rfl) (hwW.at 14 rfl) (hwW.at 15 rfl) (hwW.at 16 rfl) (hwW.at 17 rfl) (hwW.at 18 rfl) (hwW.at 19 rfl) (hwW.at 20 rfl) (hwW.at 21 rfl) (hwW.at 22 rfl) (hwW.at 23 rfl) (hwW.at 24 rfl) @hg
  ·exact Ds25 hbB (hwW.at 0 rfl) (hwW.at 1 rfl) (hwW.at 2 rfl) (hwW.at 3 rfl) (hwW.at 4 rfl) (hwW.at 5 rfl) (hwW.at 6 rfl) (hwW.at 7 rfl) (hwW.at 8 rfl) (hwW.at 9 rfl) (hwW.at 10 rfl) (hwW.at 11 rfl) (hwW.at 12 rfl) (hwW.at 13 rfl) (hwW.at 14 rfl) (hwW.at 15 rfl) (hwW.at 16 rfl) (hwW.at 17 rfl) (hwW.at 18 rfl) (hwW.at 19 rfl) (hwW.at 21 rfl) (hwW.at 22 rfl) (hwW.at 23 rfl) (hcC.l hbB 25 rfl) @hg
  ·exact Ds24 hbB (hwW.at 0 rfl) (hwW.at 1 rfl) (hwW.at 2 rfl) (hwW.at 3 rfl) (hwW.at 4 rfl) (hwW.at 5 rfl) (hwW.at 6 rfl) (hwW.at 7 rfl) (hwW.at 8 rfl) (hwW.at 9 rfl) (hwW.at 10 rfl) (hwW.at 11 rfl) (hwW.at 12 rfl) (hwW.at 13 rfl) (hwW.at 14 rfl) (hwW.at 15 rfl) (hwW.at 16 rfl) (hwW.at 17 rfl) (hwW.at 18 rfl) (hwW.at 21 rfl) (hwW.at 22 rfl) (hcC.l hbB 24 rfl) (hcC.l hbB 25 rfl) @hg
  ·exact Ds23 hbB (hwW.at 0 rfl) (hwW.at 1 rfl) (hwW.at 2 rfl) (hwW.at 3 rfl) (hwW.at 4 rfl) (hwW.at 5 rfl) (hwW.at 6 rfl) (hwW.at 7 rfl) (hwW.at 8 rfl) (hwW.at 9 rfl) (hwW.at 10 rfl) (hwW.at 11 rfl) (hwW.at 12 rfl) (hwW.at 13 rfl) (hwW.at 14 rfl) (hwW.at 15 rfl) (hwW.at 16 rfl) (hwW.at 17 rfl) (hwW.at 21 rfl) (hcC.l hbB 23 rfl) (hcC.l hbB 24 rfl) (hcC.l hbB 25 rfl) @hg
  ·exact Ds5 hbB (hcC.l hbB 22 rfl) (hcC.l hbB 23 rfl) (hcC.l hbB 24 rfl) (hcC.l hbB 25 rfl) @hg
  ·have w16 := hwW.at 16 rfl; exact Ds4 hbB ((hcC 16 _ rfl w16).at 15 rfl) w16 (hcC.l hbB 25 rfl) @hg
  ·have w16 := hwW.at 16 rfl; exact Ds5 hbB ((hcC 16 _ rfl w16).at 15 rfl) w16 (hcC.l hbB 24 rfl) (hcC.l hbB 25 rfl) @hg
  ·have w16 := hwW.at 16 rfl; exact Ds6 hbB ((hcC 16 _ rfl w16).at 15 rfl) w16 (hcC.l hbB 23 rfl) (hcC.l hbB 24 rfl) (hcC.l hbB 25 rfl) @hg
  ·have w16 := hwW.at 16 rfl; exact Ds7 hbB ((hcC 16 _ rfl w16).at 15 rfl) w16 (hcC.l hbB 22 rfl) (hcC.l hbB 23 rfl) (hcC.l hbB 24 rfl) (hcC.l hbB 25 rfl) @hg
  ·exact Ds10 hbB (hwW.at 15 rfl) (hcC.l hbB 17 rfl) (hcC.l hbB 18 rfl) (hcC.l hbB 19 rfl) (hcC.l hbB 20 rfl) (hcC.l hbB 22 rfl) (hcC.l hbB 23 rfl) (hcC.l hbB 24 rfl) (hcC.l hbB 25 rfl) @hg
  ·exact Dkpu8 hbB (hwW.at 10 rfl) (hwW.at 14 rfl) (hcC.l hbB 16 rfl) (hcC.l hbB 22 rfl) (hcC.l hbB 23 rfl) (hcC.l hbB 24 rfl) (hcC.l hbB 25 rfl) @hg (hsp)
  ·exact Ds7 hbB (hwW.at 13 rfl) (hcC.l hbB 15 rfl) (hcC.l hbB 22 rfl) (hcC.l hbB 23 rfl) (hcC.l hbB 24 rfl) (hcC.l hbB 25 rfl) @hg
  ·have l14 := hcC.l hbB 14 rfl; exact Ds8 hbB (hwW.at 12 rfl) l14 (hcC.l l14 15 rfl) (hcC.l hbB 22 rfl) (hcC.l hbB 23 rfl) (hcC.l hbB 24 rfl) (hcC.l hbB 25 rfl) @hg
  ·have l13 := hcC.l hbB 13 rfl; have l14 := hcC.l l13 14 rfl; exact Ds8 hbB (hwW.at 11 rfl) l13 (hcC.l l14 15 rfl) (hcC.l hbB 22 rfl) (hcC.l hbB 23 rfl) (hcC.l hbB 24 rfl) (hcC.l hbB 25 rfl) @hg
  ·have l12 := hcC.l hbB 12 rfl; have l13 := hcC.l l12 13 rfl; have l14 := hcC.l l13 14 rfl; exact Ds7 hbB l12 (hcC.l l14 15 rfl) (hcC.l hbB 22 rfl) (hcC.l hbB 23 rfl) (hcC.l hbB 24 rfl) (hcC.l hbB 25 rfl) @hg
  ·exact Ds7 hbB (hwW.at 9 rfl) (hcC.l hbB 15 rfl) (hcC.l hbB 22 rfl) (hcC.l hbB 23 rfl) (hcC.l hbB 24 rfl) (hcC.l hbB 25 rfl) @hg
  ·have l10 := hcC.l hbB 10 rfl; exact Ds9 hbB (hwW.at 4 rfl) (hwW.at 8 rfl) l10 (hcC.l l10 15 rfl) (hcC.l hbB 22 rfl) (hcC.l hbB 23 rfl) (hcC.l hbB 24 rfl) (hcC.l hbB 25 rfl) @hg
  ·have l9 := hcC.l hbB 9 rfl; have l10 := hcC.l l9 10 rfl; exact Ds8 hbB (hwW.at 7 rfl) l9 (hcC.l l10 15 rfl) (hcC.l hbB 22 rfl) (hcC.l hbB 23 rfl) (hcC.l hbB 24 rfl) (hcC.l hbB 25 rfl) @hg
  ·have l8 := hcC.l hbB 8 rfl; have l9 := hcC.l l8 9 rfl; have l10 := hcC.l l9 10 rfl; exact Ds8 hbB (hwW.at 6 rfl) l8 (hcC.l l10 15 rfl) (hcC.l hbB 22 rfl) (hcC.l hbB 23 rfl) (hcC.l hbB 24 rfl) (hcC.l hbB 25 rfl) @hg
  ·have l7 := hcC.l hbB 7 rfl; have l8 := hcC.l l7 8 rfl; have l9 := hcC.l l8 9 rfl; have l10 := hcC.l l9 10 rfl; exact Ds8 hbB (hwW.at 5 rfl) l7 (hcC.l l10 15 rfl) (hcC.l hbB 22 rfl) (hcC.l hbB 23 rfl) (hcC.l hbB 24 rfl) (hcC.l hbB 25 rfl) @hg
  ·have l6 := hcC.l hbB 6 rfl; have l7 := hcC.l l6 7 rfl; have l8 := hcC.l l7 8 rfl; have l9 := hcC.l l8 9 rfl; have l10 := hcC.l l9 10 rfl; exact Ds7 hbB l6 (hcC.l l10 15 rfl) (hcC.l hbB 22 rfl) (hcC.l hbB 23 rfl) (hcC.l hbB 24 rfl) (hcC.l hbB 25 rfl) @hg
  ·have l9 := hcC.l hbB 9 rfl; have l10 := hcC.l l9 10 rfl; exact Ds8 hbB (hwW.at 3 rfl) l9 (hcC.l l10 15 rfl) (hcC.l hbB 22 rfl) (hcC.l hbB 23 rfl) (hcC.l hbB 24 rfl) (hcC.l hbB 25 rfl) @hg
  ·have l4 := hcC.l hbB 4 rfl; have l9 := hcC.l l4 9 rfl; have l10 := hcC.l l9 10 rfl; exact Ds8 hbB (hwW.at 2 rfl) l4 (hcC.l l10 15 rfl) (hcC.l hbB 22 rfl) (hcC.l hbB 23 rfl) (hcC.l hbB 24 rfl) (hcC.l hbB 25 rfl) @hg
  ·have l3 := hcC.l hbB 3 rfl; have l4 := hcC.l l3 4 rfl; have l9 := hcC.l l4 9 rfl; have l10 := hcC.l l9 10 rfl; exact Ds8 hbB (hwW.at 1 rfl) l3 (hcC.l l10 15 rfl) (hcC.l hbB 22 rfl) (hcC.l hbB 23 rfl) (hcC.l hbB 24 rfl) (hcC.l hbB 25 rfl) @hg
  ·have l2 := hcC.l hbB 2 rfl; have l3 := hcC.l l2 3 rfl; have l4 := hcC.l l3 4 rfl; have l9 := hcC.l l4 9 rfl; have l10 := hcC.l l9 10 rfl; exact Ds8 hbB (hwW.at 0 rfl) l2 (hcC.l l10 15 rfl) (hcC.l hbB 22 rfl) (hcC.l hbB 23 rfl) (hcC.l hbB 24 rfl) (hcC.l hbB 25 rfl) @hg
  ·have l1 := hcC.l hbB 1 rfl; have l2 := hcC.l l1 2 rfl; have l3 := hcC.l l2 3 rfl; have l4 := hcC.l l3 4 rfl; have l9 := hcC.l l4 9 rfl; have l10 := hcC.l l9 10 rfl; exact Ds7 hbB l1 (hcC.l l10 15 rfl) (hcC.l hbB 22 rfl) (hcC.l hbB 23 rfl) (hcC.l hbB 24 rfl) (hcC.l hbB 25 rfl) @hg
 simp only [List.length_cons, List.length_nil, Nat.reduceAdd, Nat.reduceLT, decide_true, if_true]
 refine Dd0 ?_
 refine Dar0 (cloneB_spec false bx hl) ?_
 refine Dd0 ?_
 refine TW_sub (Sub_bl 137438953410) ?_
 refine TW_open mixed (by kernel_rfl) (fun b => ⟨[.ptr 0 0, .junk, .ptr 3 0, .int .i64 res.snd.fst, .int .i64 res.snd.snd.fst, .bool res.snd.snd.snd, .junk, .junk, .junk, .junk, .junk, .junk, .junk, .junk, .junk, .junk, .junk, .junk, .junk, .junk, .junk, .junk, .junk, .junk, .junk, .junk, .junk, .junk, .junk, .junk, .junk, .junk, .junk, .junk, .junk, .junk, .junk, if b 0 = true then .ptr 0 0 else .junk, if b 1 = true then .ptr 0 0 else .junk, if b 2 = true then .ptr 0 0 else .junk, if b 3 = true then .ptr 0 1 else .junk, if b 4 = true then .bsl 34 else .junk, if b 5 = true then .ptr 0 0 else .junk, if b 6 = true then .ptr 0 0 else .junk, if b 7 = true then .ptr 0 11 else .junk, if b 8 = true then .int .i64 (↑i : Int) else .junk, if b 9 = true then .ptr 0 0 else .junk, if b 10 = true then .agg [.int .i64 res.fst.r, .sl false (ints res.fst.m), .sl false (mails res.fst.s), .sl false (ints res.fst.w)] else .junk, if b 11 = true then .int .i64 res.snd.snd.fst else .junk, if b 12 = true then .eptr 34 i 4 0 else .junk, if b 14 = true then .ptr 0 0 else .junk, if b 15 = true then .ptr 0 5 else .junk, if b 16 = true then .ptr 0 7 else .junk, .junk, .junk, .junk, .junk, .junk, .junk, .junk, .junk, .junk, .junk, .junk], [if b 17 = true then .box [.sl false (sms sm), .bsl 34, .int .i64 p, .int .i64 pc, .int .i64 n, .int .i64 kind, .int .i64 a, .int .i64 res.snd.snd.fst, .bool gives, .int .i64 v, .int .i64 g, .int .i64 (↑i : Int)] else .box [.sl false (sms sm), .bsl 34, .int .i64 p, .int .i64 pc, .int .i64 n, .int .i64 kind, .int .i64 a, .int .i64 woken, .bool gives, .int .i64 v, .int .i64 g, .int .i64 (↑i : Int)], .un, .un, .box [.int .i64 res.fst.r, .sl false (ints res.fst.m), .sl false (mails res.fst.s), .sl false (ints res.fst.w)], .un, .un, .un, .un, .un, .un, .un, .un, .un, .un, .un, .un, .un, .un, .un, .un, .un, .un, .un, .un, .un, .un, .un, .un, .un, .un, .un, .un, .un, .un, if b 13 = true then .arr 77 4 (bxs (bx.set i { r := res.fst.r, m := res.fst.m, s := res.fst.s, w := res.fst.w })) else .arr 77 4 (bxs bx), .un, .un, .un, .un, .un, .un, .un, .un, .un, .un, .un, .un, .un, .un, .un, .un, .un, .un, .un, .un, .un, .un, .un, .un, .un, .un, .un, .un, .un, .un], 1⟩) rfl ?_ ?_
 ·skip
  (repeat refine Di ?_ (fun b hwW hbB hcC => ?_)); (exact trivial)
  ·exact Ds16 hbB (hwW.at 0 rfl) (hwW.at 1 rfl) (hwW.at 2 rfl) (hwW.at 3 rfl) (hwW.at 4 rfl) (hwW.at 5 rfl) (hwW.at 6 rfl) (hwW.at 7 rfl) (hwW.at 8 rfl) (hwW.at 9 rfl) (hwW.at 10 rfl) (hwW.at 11 rfl) (hwW.at 12 rfl) (hwW.at 13 rfl) (hwW.at 16 rfl) @hg
  ·exact Ds17 hbB (hwW.at 0 rfl) (hwW.at 1 rfl) (hwW.at 2 rfl) (hwW.at 3 rfl) (hwW.at 4 rfl) (hwW.at 5 rfl) (hwW.at 6 rfl) (hwW.at 7 rfl) (hwW.at 8 rfl) (hwW.at 9 rfl) (hwW.at 10 rfl) (hwW.at 11 rfl) (hwW.at 12 rfl) (hwW.at 13 rfl) (hwW.at 15 rfl) (hcC.l hbB 17 rfl) @hg
  ·have l16 := hcC.l hbB 16 rfl; exact Ds18 hbB (hwW.at 0 rfl) (hwW.at 1 rfl) (hwW.at 2 rfl) (hwW.at 3 rfl) (hwW.at 4 rfl) (hwW.at 5 rfl) (hwW.at 6 rfl) (hwW.at 7 rfl) (hwW.at 8 rfl) (hwW.at 9 rfl) (hwW.at 10 rfl) (hwW.at 11 rfl) (hwW.at 12 rfl) (hwW.at 13 rfl) (hwW.at 14 rfl) l16 (hcC.l l16 17 rfl) @hg
  ·have l15 := hcC.l hbB 15 rfl; have l16 := hcC.l l15 16 rfl; exact Ds17 hbB (hwW.at 0 rfl) (hwW.at 1 rfl) (hwW.at 2 rfl) (hwW.at 3 rfl) (hwW.at 4 rfl) (hwW.at 5 rfl) (hwW.at 6 rfl) (hwW.at 7 rfl) (hwW.at 8 rfl) (hwW.at 9 rfl) (hwW.at 10 rfl) (hwW.at 11 rfl) (hwW.at 12 rfl) (hwW.at 13 rfl) l15 (hcC.l l16 17 rfl) @hg
  ·exact Ds16 hbB (hwW.at 0 rfl) (hwW.at 1 rfl) (hwW.at 2 rfl) (hwW.at 3 rfl) (hwW.at 4 rfl) (hwW.at 5 rfl) (hwW.at 6 rfl) (hwW.at 7 rfl) (hwW.at 8 rfl) (hwW.at 10 rfl) (hwW.at 12 rfl) (hcC.l hbB 14 rfl) (hcC.l hbB 15 rfl) (hcC.l hbB 16 rfl) (hcC.l hbB 17 rfl) @hg
  ·exact Ds16 hbB (hwW.at 0 rfl) (hwW.at 1 rfl) (hwW.at 2 rfl) (hwW.at 3 rfl) (hwW.at 4 rfl) (hwW.at 5 rfl) (hwW.at 6 rfl) (hwW.at 7 rfl) (hwW.at 8 rfl) (hwW.at 10 rfl) (hcC.l hbB 13 rfl) (hcC.l hbB 14 rfl) (hcC.l hbB 15 rfl) (hcC.l hbB 16 rfl) (hcC.l hbB 17 rfl) @hg
  ·exact Ds5 hbB (hcC.l hbB 14 rfl) (hcC.l hbB 15 rfl) (hcC.l hbB 16 rfl) (hcC.l hbB 17 rfl) @hg
  ·exact Ds7 hbB (hcC.l hbB 12 rfl) (hcC.l hbB 13 rfl) (hcC.l hbB 14 rfl) (hcC.l hbB 15 rfl) (hcC.l hbB 16 rfl) (hcC.l hbB 17 rfl) @hg
  ·exact Ds5 hbB (hcC.l hbB 14 rfl) (hcC.l hbB 15 rfl) (hcC.l hbB 16 rfl) (hcC.l hbB 17 rfl) @hg
  ·exact Ds8 hbB (hwW.at 7 rfl) (hcC.l hbB 12 rfl) (hcC.l hbB 13 rfl) (hcC.l hbB 14 rfl) (hcC.l hbB 15 rfl) (hcC.l hbB 16 rfl) (hcC.l hbB 17 rfl) @hg
  ·exact Ds9 hbB (hwW.at 6 rfl) (hcC.l hbB 8 rfl) (hcC.l hbB 12 rfl) (hcC.l hbB 13 rfl) (hcC.l hbB 14 rfl) (hcC.l hbB 15 rfl) (hcC.l hbB 16 rfl) (hcC.l hbB 17 rfl) @hg
  ·exact Ds9 hbB (hwW.at 5 rfl) (hcC.l hbB 7 rfl) (hcC.l hbB 12 rfl) (hcC.l hbB 13 rfl) (hcC.l hbB 14 rfl) (hcC.l hbB 15 rfl) (hcC.l hbB 16 rfl) (hcC.l hbB 17 rfl) @hg
  ·exact Ds8 hbB (hcC.l hbB 6 rfl) (hcC.l hbB 12 rfl) (hcC.l hbB 13 rfl) (hcC.l hbB 14 rfl) (hcC.l hbB 15 rfl) (hcC.l hbB 16 rfl) (hcC.l hbB 17 rfl) @hg
  ·exact Ds8 hbB (hwW.at 3 rfl) (hcC.l hbB 12 rfl) (hcC.l hbB 13 rfl) (hcC.l hbB 14 rfl) (hcC.l hbB 15 rfl) (hcC.l hbB 16 rfl) (hcC.l hbB 17 rfl) @hg
  ·exact Ds9 hbB (hwW.at 2 rfl) (hcC.l hbB 4 rfl) (hcC.l hbB 12 rfl) (hcC.l hbB 13 rfl) (hcC.l hbB 14 rfl) (hcC.l hbB 15 rfl) (hcC.l hbB 16 rfl) (hcC.l hbB 17 rfl) @hg
  ·exact Ds9 hbB (hwW.at 1 rfl) (hcC.l hbB 3 rfl) (hcC.l hbB 12 rfl) (hcC.l hbB 13 rfl) (hcC.l hbB 14 rfl) (hcC.l hbB 15 rfl) (hcC.l hbB 16 rfl) (hcC.l hbB 17 rfl) @hg
  ·exact Ds9 hbB (hwW.at 0 rfl) (hcC.l hbB 2 rfl) (hcC.l hbB 12 rfl) (hcC.l hbB 13 rfl) (hcC.l hbB 14 rfl) (hcC.l hbB 15 rfl) (hcC.l hbB 16 rfl) (hcC.l hbB 17 rfl) @hg
  ·exact Ds8 hbB (hcC.l hbB 1 rfl) (hcC.l hbB 12 rfl) (hcC.l hbB 13 rfl) (hcC.l hbB 14 rfl) (hcC.l hbB 15 rfl) (hcC.l hbB 16 rfl) (hcC.l hbB 17 rfl) @hg
 simp only [List.length_cons, List.length_nil, Nat.reduceAdd, Nat.reduceLT, decide_true, if_true]
 refine Dd1 @hok ?_
 refine TW_cond rfl (fun hc => ?_) (fun hc => ?_)
 ·simp at hc
 ·refine Dd0 ?_
  (refine ⟨_, Sub.trans (Sub_fix 34) (Sub_immBox (b := 0) (f := 1) (id := 34) rfl rfl rfl), ?_⟩; (try simp only [go_sem]); refine ⟨by simp, rfl, ?_⟩; simp only [go_sem, Try.results46]; refine ⟨[0], rfl, rfl, ?_⟩; (repeat' (first | rfl | trivial | refine ⟨?_, ?_⟩)))

end Go.Proofs.YtodfkdnkgedgeaaT
