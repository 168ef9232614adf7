/- Walks over the program's functions, on values without memory, and what they come to. No condition. -/
import Derived.Test.YtmnpiofabgfcmaaTw20
import Derived.Test.YtmnpiofabgfcmaaBase
import Derived.Test.YtmnpiofabgfcmaaPB
import Derived.Test.YtmnpiofabgfcmaaFQH
set_option linter.unusedVariables false
set_option linter.unusedSimpArgs false
namespace Go.Proofs.YtmnpiofabgfcmaaT
open Go Go.Proofs Go.RowKit Go.Proofs.YtmnpiofabgfcmaaT.Ty
attribute [local go_sem] vOp eqv put hset ev vNew enterSt AV.solid AV.cells AV.leaf AV.pure AV.pures AV.scalar AV.scalars ofVal ofLeaf vLoad takeA vStore vBin vBuiltin elems vSlice intAt fillA fillR splice dense fills frz frzL names namesL fix frzH frzHL le leL vRes oneRes
attribute [local go_sem] c1 s1 a1 b1 z1 o1 i1 c2 s2 a2 b2 z2 o2 i2 u2 c3 s3 a3 b3 z3 o3 i3 u3 c4 s4 a4 b4 z4 o4 i4 u4 c5 s5 a5 b5 z5 o5 i5 u5 c6 s6 a6 b6 z6 o6 i6 u6 c7 s7 a7 b7 z7 o7 f7_0 f7_1 f7_2 f7_3 fo7 r7 i7 c8 s8 a8 b8 z8 o8 f8_0 f8_1 f8_2 f8_3 fo8 r8 i8 c9 s9 a9 b9 z9 o9 i9 u9 c10 s10 a10 b10 z10 o10 i10 u10 c11 s11 a11 b11 z11 o11 i11 u11 c12 s12 a12 b12 z12 o12 i12 u12 c13 s13 a13 b13 z13 o13 f13_0 f13_1 fo13 r13 i13 c14 s14 a14 b14 z14 o14 f14_0 f14_1 fo14 r14 i14 c15 s15 a15 b15 z15 o15 p15 i15 c16 s16 a16 b16 z16 o16 p16 i16 c17 s17 a17 b17 z17 o17 p17 i17 c18 s18 a18 b18 z18 o18 f18_0 fo18 r18 i18 c19 s19 a19 b19 z19 o19 f19_0 fo19 r19 i19 c21 s21 a21 b21 z21 o21 i21 u21 c22 s22 a22 b22 z22 o22 e22 i22 c23 s23 a23 b23 z23 o23 i23 c24 s24 a24 b24 z24 o24 e24 i24 c25 s25 a25 b25 z25 o25 e25 i25 c26 s26 a26 b26 z26 o26 i26 u26 c27 s27 a27 b27 z27 o27 i27 u27 c28 s28 a28 b28 z28 o28 f28_0 f28_1 f28_2 f28_3 f28_4 fo28 r28 i28 c29 s29 a29 b29 z29 o29 f29_0 f29_1 f29_2 f29_3 f29_4 fo29 r29 i29 c30 s30 a30 b30 z30 o30 i30 u30 c32 s32 a32 b32 z32 o32 i32 c33 s33 a33 b33 z33 o33 e33 i33 c34 s34 a34 b34 z34 o34 f34_0 f34_1 f34_2 f34_3 f34_4 fo34 r34 i34 c35 s35 a35 b35 z35 o35 f35_0 f35_1 f35_2 f35_3 f35_4 fo35 r35 i35 c37 s37 a37 b37 z37 o37 i37 c38 s38 a38 b38 z38 o38 i38 c39 s39 a39 b39 z39 o39 i39 c40 s40 a40 b40 z40 o40 i40 c41 s41 a41 b41 z41 o41 e41 i41 c42 s42 a42 b42 z42 o42 i42 c43 s43 a43 b43 z43 o43 i43 c44 s44 a44 b44 z44 o44 i44 c45 s45 a45 b45 z45 o45 f45_0 f45_1 fo45 r45 i45 c46 s46 a46 b46 z46 o46 f46_0 f46_1 fo46 r46 i46 c48 s48 a48 b48 z48 o48 i48 c49 s49 a49 b49 z49 o49 i49 c50 s50 a50 b50 z50 o50 i50 c51 s51 a51 b51 z51 o51 i51 c52 s52 a52 b52 z52 o52 i52 c53 s53 a53 b53 z53 o53 i53 c54 s54 a54 b54 z54 o54 i54 c55 s55 a55 b55 z55 o55 i55 c56 s56 a56 b56 z56 o56 i56 c57 s57 a57 b57 z57 o57 i57 c59 s59 a59 b59 z59 o59 i59 c61 s61 a61 b61 z61 o61 i61 c62 s62 a62 b62 z62 o62 i62 c63 s63 a63 b63 z63 o63 i63 c64 s64 a64 b64 z64 o64 i64 u64 c65 s65 a65 b65 z65 o65 i65 c67 s67 a67 b67 z67 o67 i67 c68 s68 a68 b68 z68 o68 i68 c69 s69 a69 b69 z69 o69 i69 c70 s70 a70 b70 z70 o70 i70 c71 s71 a71 b71 z71 o71 i71 c72 s72 a72 b72 z72 o72 f72_0 f72_1 q72 fo72 r72 i72 c73 s73 a73 b73 z73 o73 f73_0 f73_1 q73 fo73 r73 i73 c74 s74 a74 b74 z74 o74 i74 c75 s75 a75 b75 z75 o75 i75 c76 s76 a76 b76 z76 o76 i76 c77 s77 a77 b77 z77 o77 i77 c78 s78 a78 b78 z78 o78 i78 c79 s79 a79 b79 z79 o79 i79 c80 s80 a80 b80 z80 o80 f80_0 f80_1 fo80 r80 i80 c81 s81 a81 b81 z81 o81 i81 c82 s82 a82 b82 z82 o82 i82 c83 s83 a83 b83 z83 o83 i83 c84 s84 a84 b84 z84 o84 i84 c85 s85 a85 b85 z85 o85 i85 c87 s87 a87 b87 z87 o87 i87 c88 s88 a88 b88 z88 o88 i88 c89 s89 a89 b89 z89 o89 i89 c90 s90 a90 b90 z90 o90 i90 c91 s91 a91 b91 z91 o91 i91 c92 s92 a92 b92 z92 o92 i92 c93 s93 a93 b93 z93 o93 i93 c94 s94 a94 b94 z94 o94 i94 c95 s95 a95 b95 z95 o95 i95 c97 s97 a97 b97 z97 o97 i97 c98 s98 a98 b98 z98 o98 i98 c99 s99 a99 b99 z99 o99 i99 c100 s100 a100 b100 z100 o100 f100_0 f100_1 fo100 r100 i100 c101 s101 a101 b101 z101 o101 f101_0 f101_1 fo101 r101 i101 c102 s102 a102 b102 z102 o102 i102 c103 s103 a103 b103 z103 o103 i103 c104 s104 a104 b104 z104 o104 i104 c105 s105 a105 b105 z105 o105 i105 c106 s106 a106 b106 z106 o106 i106 c107 s107 a107 b107 z107 o107 e107 i107 c108 s108 a108 b108 z108 o108 i108 c109 s109 a109 b109 z109 o109 i109 c110 s110 a110 b110 z110 o110 i110 c111 s111 a111 b111 z111 o111 i111 c112 s112 a112 b112 z112 o112 i112 c113 s113 a113 b113 z113 o113 i113 c114 s114 a114 b114 z114 o114 i114 c115 s115 a115 b115 z115 o115 i115 c116 s116 a116 b116 z116 o116 i116 c117 s117 a117 b117 z117 o117 i117 c118 s118 a118 b118 z118 o118 p118 i118 c119 s119 a119 b119 z119 o119 f119_0 f119_1 f119_2 f119_3 fo119 r119 i119 c120 s120 a120 b120 z120 o120 f120_0 f120_1 f120_2 f120_3 fo120 r120 i120 c121 s121 a121 b121 z121 o121 i121 c122 s122 a122 b122 z122 o122 e122 i122 c124 s124 a124 b124 z124 o124 i124 c125 s125 a125 b125 z125 o125 i125 c126 s126 a126 b126 z126 o126 i126 c127 s127 a127 b127 z127 o127 f127_0 f127_1 f127_2 f127_3 fo127 r127 i127 c128 s128 a128 b128 z128 o128 f128_0 f128_1 f128_2 f128_3 fo128 r128 i128 c132 s132 a132 b132 z132 o132 i132 u132 c133 s133 a133 b133 z133 o133 i133 u133 c134 s134 a134 b134 z134 o134 i134 u134 c135 s135 a135 b135 z135 o135 i135 c136 s136 a136 b136 z136 o136 p136 i136 c137 s137 a137 b137 z137 o137 i137 u137 c138 s138 a138 b138 z138 o138 i138 u138 c139 s139 a139 b139 z139 o139 f139_0 f139_1 f139_2 f139_3 f139_4 f139_5 f139_6 f139_7 f139_8 f139_9 f139_10 fo139 r139 i139 c140 s140 a140 b140 z140 o140 f140_0 f140_1 f140_2 f140_3 f140_4 f140_5 f140_6 f140_7 f140_8 f140_9 f140_10 fo140 r140 i140
attribute [local go_sem] List.replicate List.length_cons List.length_nil Nat.reduceAdd Nat.reduceSub List.cons_append List.nil_append List.append_nil List.set_cons_succ List.set_cons_zero List.getD_cons_succ List.getD_cons_zero Nat.zero_add List.getElem?_cons_succ List.getElem?_cons_zero List.foldl_cons List.foldl_nil Option.map_some Option.map_none List.drop_succ_cons List.drop_zero List.take_succ_cons List.take_zero List.map_cons List.map_nil List.all_cons List.all_nil  Bool.and_true Bool.true_and imp_self Nat.add_zero beq_self_eq_true Option.isSome_some true_and and_true if_true if_false ints_len
set_option linter.unusedSimpArgs false
set_option maxRecDepth 100000
set_option maxHeartbeats 4000000
attribute [local go_sem] ints_nil ints_take ints_drop ints_cat ints_snoc ints_cons List.length_take List.length_drop List.drop_zero decide_true decide_false List.getElem?_toArray Option.bind_some Bool.false_eq_true Bool.true_eq_false Bool.not_true Bool.not_false Int.toNat_natCast Int.cast_ofNat_Int forget swap grow growIn opt_or opt_orn opt_and beq_true beq_false rdAll rdOp rdTmp agree Option.getD_some Option.getD_none List.flatten_cons List.flatten_nil ownCut mp mpL mpO vl vlL matchH freshH setAll nodupB enterH List.contains_cons List.contains_nil Nat.reduceMul Nat.reduceLT Nat.reduceLeDiff Nat.reduceEqDiff
attribute [local go_sem] vts_len vts_take vts_drop vts_cat vts_snoc rgs_len rws_len rgs_snoc rws_snoc rgs_cat rws_cat rgs_set rws_set rgs_take rws_take rgs_drop rws_drop rgs_nil rws_nil vts_nil runC
open BC
theorem made43_spec (r : Rn) (h : Small r) : Ret Try.prog 43 [.agg (runC r)] (.agg (runC r)) := by
 have hr2 := rgs_2 r.rs
 have hw1 := rws_1 r.sh
 have := h.rs; have := h.sh; have := h.t
 refine Ret_of_body Try.func43 (by kernel_rfl) rfl ?_; rw [Try.ntmps43]
 repeat (first | ((with_reducible first | refine O1 rfl (fun N hN => ?_) | refine O2 rfl rfl rfl (fun N hN => ?_)); simp only [go_sem]; (repeat (refine ⟨by first | omega | ((try simp only [go_sem, List.length_append, lim, lim2]) <;> omega) | assumption | exact ints_1 _ | exact rfl | (simp [ints]; done), ?_⟩)); (first | refine hN _ ?_ | (intro _ _; refine hN _ ?_)); clear hN N) | with_reducible (first | apply Ea | apply Eb | apply Ec | apply Ed | apply Ee | apply Ef | apply Eg | apply Eh | apply Ei | apply Ej | apply Ek | apply El | apply Em | refine En rfl ?_ | apply Eo | apply Ep | apply Eq1 | apply Er | apply Es) | ((with_reducible first | refine O3 rfl rfl rfl rfl ?_ | refine O4 rfl rfl rfl ?_); simp only [go_sem]))
 refine TW_sub (Sub_growIn (b := 3) (f := 2) (id := 59) 46 2 rfl rfl rfl (Nat.zero_le _)) ?_
 simp only [go_sem]
 refine TW_sub (Sub_blank [true, false, false, false, false, false, true, true, true, true, true, true, true, true, true, true, true, true, true, true, true, true, true, true, true, true, true, true, true, true, true, true, true, true, true, true, true, true, true, true]) ?_
 refine TW_loop (fun fuel st => ∃ (i : Nat) (u : List (Int × List Int)), (i ≤ r.rs.length) ∧ (u = r.rs.take i) ∧  fuel = r.rs.length - i ∧ st = ⟨[.junk, .ptr 1 0, .ptr 2 0, .ptr 3 0, .int .i64 i, .junk, .junk, .junk, .junk, .junk, .junk, .junk, .junk, .junk, .junk, .junk, .junk, .junk, .junk, .junk, .junk, .junk, .junk, .junk, .junk, .junk, .junk, .junk, .junk, .junk, .junk, .junk, .junk, .junk, .junk, .junk, .junk, .junk, .junk, .junk, .junk, .junk, .junk, .junk, .junk, .junk, .junk, .junk, .junk, .junk, .junk, .junk, .junk, .junk, .junk, .junk, .junk, .junk, .junk, .junk], [.un, .box [.sl false (vts r.t), .int .i64 r.size, .sl false (rgs r.rs), .sl false (rws r.sh), .int .u64 (↑r.on : Int)], .box [.nils, .int .i64 0, .nils, .nils, .int .u64 0], .box [.sl false (vts r.t), .int .i64 r.size, .bsl 59, .nils, .int .u64 r.on], .un, .un, .un, .un, .un, .un, .un, .un, .un, .un, .un, .un, .un, .un, .un, .un, .un, .un, .un, .un, .un, .un, .un, .un, .un, .un, .un, .un, .un, .un, .un, .un, .un, .un, .un, .un, .un, .un, .un, .un, .un, .un, .un, .un, .un, .un, .un, .un, .un, .un, .un, .un, .un, .un, .un, .arr 46 2 (rgs u)], 0⟩) (n := _) ⟨0, [], by first | omega | (simp; done) | (simp; omega) | assumption, by first | omega | (simp; done) | (simp; omega) | assumption, rfl, rfl⟩ ?_
 rintro fuel st ⟨i, u, hi, hu, rfl, rfl⟩
 repeat (first | ((with_reducible first | refine O1 rfl (fun N hN => ?_) | refine O2 rfl rfl rfl (fun N hN => ?_)); simp only [go_sem]; (repeat (refine ⟨by first | omega | ((try simp only [go_sem, List.length_append, lim, lim2]) <;> omega) | assumption | exact ints_1 _ | exact rfl | (simp [ints]; done), ?_⟩)); (first | refine hN _ ?_ | (intro _ _; refine hN _ ?_)); clear hN N) | with_reducible (first | apply Ea | apply Eb | apply Ec | apply Ed | apply Ee | apply Ef | apply Eg | apply Eh | apply Ei | apply Ej | apply Ek | apply El | apply Em | refine En rfl ?_ | apply Eo | apply Ep | apply Eq1 | apply Er | apply Es) | ((with_reducible first | refine O3 rfl rfl rfl rfl ?_ | refine O4 rfl rfl rfl ?_); simp only [go_sem]))
 refine TW_cond rfl (fun hc => ?_) (fun hc => ?_)
 ·have hlt : i < r.rs.length := by simpa using hc
  have hg := rgs_get r.rs i hlt
  have hu2 := rgs_2 u
  have hw := wrap_i64 (n := (i : Int) + 1) (by omega) (by omega)
  have hul : u.length ≤ 100 := by rw [hu, List.length_take]; omega
  have hel : (rg r.rs i).2.length ≤ 4000 := h.rl _ (by rw [rg_at hlt]; exact List.getElem_mem hlt)
  repeat (first | ((with_reducible first | refine O1 rfl (fun N hN => ?_) | refine O2 rfl rfl rfl (fun N hN => ?_)); simp only [go_sem]; (repeat (refine ⟨by first | omega | ((try simp only [go_sem, List.length_append, lim, lim2]) <;> omega) | assumption | exact ints_1 _ | exact rfl | (simp [ints]; done), ?_⟩)); (first | refine hN _ ?_ | (intro _ _; refine hN _ ?_)); clear hN N) | with_reducible (first | apply Ea | apply Eb | apply Ec | apply Ed | apply Ee | apply Ef | apply Eg | apply Eh | apply Ei | apply Ej | apply Ek | apply El | apply Em | refine En rfl ?_ | apply Eo | apply Ep | apply Eq1 | apply Er | apply Es) | ((with_reducible first | refine O3 rfl rfl rfl rfl ?_ | refine O4 rfl rfl rfl ?_); simp only [go_sem]))
  refine TW_sub (Sub_blank [true, false, false, false, false, false, true, true, true, true, true, true, true, false, false, false, false, false, false, false, false, false, false, false, false, false, false, false, false, false, false, false, false, false, false, false, false, false, false, false, false, false, false, false, false, false, false, false, false, false, false, false, false, false, false, false, false, false, false, false]) ?_
  refine TW_open mixed (by kernel_rfl) (fun b => ⟨[.junk, .ptr 1 0, .ptr 2 0, .ptr 3 0, .int .i64 (↑i : Int), .junk, .junk, .junk, .junk, .junk, .junk, .junk, .junk, .int .i64 (↑i : Int), .ptr 1 2, .sl false (rgs r.rs), .int .i64 (↑r.rs.length : Int), .bool (decide ((↑i : Int) < (↑r.rs.length : Int))), .junk, .junk, if b 0 = true then .ptr 3 2 else .junk, if b 1 = true then .bsl 59 else .junk, if b 2 = true then .ptr 1 2 else .junk, if b 3 = true then .sl false (rgs r.rs) else .junk, if b 4 = true then .int .i64 (↑i : Int) else .junk, if b 5 = true then .cptr [.int .i64 (rg r.rs i).fst, .sl false (ints (rg r.rs i).snd)] else .junk, if b 6 = true then .cptr [.int .i64 (rg r.rs i).fst, .sl false (ints (rg r.rs i).snd)] else .junk, if b 7 = true then .int .i64 (rg r.rs i).fst else .junk, if b 8 = true then .bsl 28 else .junk, if b 9 = true then .ptr 1 2 else .junk, if b 10 = true then .sl false (rgs r.rs) else .junk, if b 11 = true then .int .i64 (↑i : Int) else .junk, if b 12 = true then .cptr [.int .i64 (rg r.rs i).fst, .sl false (ints (rg r.rs i).snd)] else .junk, if b 13 = true then .cptr [.sl false (ints (rg r.rs i).snd)] else .junk, if b 14 = true then .sl false (ints (rg r.rs i).snd) else .junk, if b 15 = true then .bsl 35 else .junk, if b 16 = true then .agg [.int .i64 (rg r.rs i).fst, .bsl 35] else .junk, if b 17 = true then .bsl 37 else .junk, if b 18 = true then .bsl 38 else .junk, if b 19 = true then .ptr 3 2 else .junk, .junk, .junk, .junk, .junk, .junk, .junk, .junk, .junk, .junk, .junk, .junk, .junk, .junk, .junk, .junk, .junk, .junk, .junk, .junk, .junk], [.un, .box [.sl false (vts r.t), .int .i64 r.size, .sl false (rgs r.rs), .sl false (rws r.sh), .int .u64 (↑r.on : Int)], .box [.nils, .int .i64 0, .nils, .nils, .int .u64 0], if b 20 = true then .box [.sl false (vts r.t), .int .i64 r.size, .bsl 38, .nils, .int .u64 (↑r.on : Int)] else .box [.sl false (vts r.t), .int .i64 r.size, .bsl 59, .nils, .int .u64 (↑r.on : Int)], .un, .un, .un, .un, .un, .un, .un, .un, .un, .un, .un, .un, .un, .un, .un, .un, .un, .un, .un, .un, .un, .un, .un, .un, if b 15 = true then .dead else if b 8 = true then .arr 3 1 [] else .un, .un, .un, .un, .un, .un, .un, if b 17 = true then .imm (ints (rg r.rs i).snd) else if b 15 = true then .arr 3 1 (ints (rg r.rs i).snd) else .un, .un, if b 17 = true then .arr 46 2 [[.int .i64 (rg r.rs i).fst, .sl false (ints (rg r.rs i).snd)]] else .un, if b 18 = true then .arr 46 2 (rgs (u ++ [((rg r.rs i).fst, (rg r.rs i).snd)])) else .un, .un, .un, .un, .un, .un, .un, .un, .un, .un, .un, .un, .un, .un, .un, .un, .un, .un, .un, .un, .un, if b 18 = true then .dead else .arr 46 2 (rgs u)], 0⟩) rfl ?_ ?_
  ·skip
   refine ⟨fun b hwW hbB hcC => ?_, fun b hwW hbB hcC => ?_, fun b hwW hbB hcC => ?_, fun b hwW hbB hcC => ?_, fun b hwW hbB hcC => ?_, fun b hwW hbB hcC => ?_, fun b hwW hbB hcC => ?_, fun b hwW hbB hcC => ?_, fun b hwW hbB hcC => ?_, fun b hwW hbB hcC => ?_, fun b hwW hbB hcC => ?_, fun b hwW hbB hcC => ?_, fun b hwW hbB hcC => ?_, fun b hwW hbB hcC => ?_, fun b hwW hbB hcC => ?_, fun b hwW hbB hcC => ?_, fun b hwW hbB hcC => ?_, fun b hwW hbB hcC => ?_, fun b hwW hbB hcC => ?_, fun b hwW hbB hcC => ?_, fun b hwW hbB hcC => ?_, trivial⟩
   ·have hbB : b 0 = false := hbB; have l1 := hcC.later hbB 1 rfl rfl; have l18 := hcC.later l1 18 rfl rfl; have l19 := hcC.later hbB 19 rfl rfl; have l20 := hcC.later hbB 20 rfl rfl; simp only [vGuard, go_sem, hbB, upd, Bool.false_eq_true, l1, l18, l19, l20, hg] <;> (repeat (refine And.intro (by first | omega | ((try simp only [go_sem, List.length_append, lim, lim2]) <;> omega) | assumption | exact ints_1 _ | exact rfl | (simp [ints]; done)) ?_)) <;> (first | rfl | first | omega | ((try simp only [go_sem, List.length_append, lim, lim2]) <;> omega) | assumption | exact ints_1 _ | exact rfl | (simp [ints]; done))
   ·have hbB : b 1 = false := hbB; have w0 := hwW.at 0 rfl; have l18 := hcC.later hbB 18 rfl rfl; have l19 := hcC.later hbB 19 rfl rfl; have l20 := hcC.later hbB 20 rfl rfl; simp only [vGuard, go_sem, hbB, upd, Bool.false_eq_true, w0, l18, l19, l20, hg] <;> (repeat (refine And.intro (by first | omega | ((try simp only [go_sem, List.length_append, lim, lim2]) <;> omega) | assumption | exact ints_1 _ | exact rfl | (simp [ints]; done)) ?_)) <;> (first | rfl | first | omega | ((try simp only [go_sem, List.length_append, lim, lim2]) <;> omega) | assumption | exact ints_1 _ | exact rfl | (simp [ints]; done))
   ·have hbB : b 2 = false := hbB; have l3 := hcC.later hbB 3 rfl rfl; have l5 := hcC.later l3 5 rfl rfl; have l6 := hcC.later l5 6 rfl rfl; have l7 := hcC.later l6 7 rfl rfl; have l16 := hcC.later l7 16 rfl rfl; have l17 := hcC.later l16 17 rfl rfl; have l18 := hcC.later l17 18 rfl rfl; have l19 := hcC.later hbB 19 rfl rfl; have l20 := hcC.later hbB 20 rfl rfl; simp only [vGuard, go_sem, hbB, upd, Bool.false_eq_true, l3, l17, l18, l19, l20, hg] <;> (repeat (refine And.intro (by first | omega | ((try simp only [go_sem, List.length_append, lim, lim2]) <;> omega) | assumption | exact ints_1 _ | exact rfl | (simp [ints]; done)) ?_)) <;> (first | rfl | first | omega | ((try simp only [go_sem, List.length_append, lim, lim2]) <;> omega) | assumption | exact ints_1 _ | exact rfl | (simp [ints]; done))
   ·have hbB : b 3 = false := hbB; have w2 := hwW.at 2 rfl; have l5 := hcC.later hbB 5 rfl rfl; have l6 := hcC.later l5 6 rfl rfl; have l7 := hcC.later l6 7 rfl rfl; have l16 := hcC.later l7 16 rfl rfl; have l17 := hcC.later l16 17 rfl rfl; have l18 := hcC.later l17 18 rfl rfl; have l19 := hcC.later hbB 19 rfl rfl; have l20 := hcC.later hbB 20 rfl rfl; simp only [vGuard, go_sem, hbB, upd, Bool.false_eq_true, w2, l5, l17, l18, l19, l20, hg] <;> (repeat (refine And.intro (by first | omega | ((try simp only [go_sem, List.length_append, lim, lim2]) <;> omega) | assumption | exact ints_1 _ | exact rfl | (simp [ints]; done)) ?_)) <;> (first | rfl | first | omega | ((try simp only [go_sem, List.length_append, lim, lim2]) <;> omega) | assumption | exact ints_1 _ | exact rfl | (simp [ints]; done))
   ·have hbB : b 4 = false := hbB; have l5 := hcC.later hbB 5 rfl rfl; have l6 := hcC.later l5 6 rfl rfl; have l7 := hcC.later l6 7 rfl rfl; have l16 := hcC.later l7 16 rfl rfl; have l17 := hcC.later l16 17 rfl rfl; have l18 := hcC.later l17 18 rfl rfl; have l19 := hcC.later hbB 19 rfl rfl; have l20 := hcC.later hbB 20 rfl rfl; simp only [vGuard, go_sem, hbB, upd, Bool.false_eq_true, l5, l17, l18, l19, l20, hg] <;> (repeat (refine And.intro (by first | omega | ((try simp only [go_sem, List.length_append, lim, lim2]) <;> omega) | assumption | exact ints_1 _ | exact rfl | (simp [ints]; done)) ?_)) <;> (first | rfl | first | omega | ((try simp only [go_sem, List.length_append, lim, lim2]) <;> omega) | assumption | exact ints_1 _ | exact rfl | (simp [ints]; done))
   ·have hbB : b 5 = false := hbB; have w3 := hwW.at 3 rfl; have w4 := hwW.at 4 rfl; have l6 := hcC.later hbB 6 rfl rfl; have l7 := hcC.later l6 7 rfl rfl; have l16 := hcC.later l7 16 rfl rfl; have l17 := hcC.later l16 17 rfl rfl; have l18 := hcC.later l17 18 rfl rfl; have l19 := hcC.later hbB 19 rfl rfl; have l20 := hcC.later hbB 20 rfl rfl; simp only [vGuard, go_sem, hbB, upd, Bool.false_eq_true, w3, w4, l6, l17, l18, l19, l20, hg] <;> (repeat (refine And.intro (by first | omega | ((try simp only [go_sem, List.length_append, lim, lim2]) <;> omega) | assumption | exact ints_1 _ | exact rfl | (simp [ints]; done)) ?_)) <;> (first | rfl | first | omega | ((try simp only [go_sem, List.length_append, lim, lim2]) <;> omega) | assumption | exact ints_1 _ | exact rfl | (simp [ints]; done))
   ·have hbB : b 6 = false := hbB; have w5 := hwW.at 5 rfl; have l7 := hcC.later hbB 7 rfl rfl; have l16 := hcC.later l7 16 rfl rfl; have l17 := hcC.later l16 17 rfl rfl; have l18 := hcC.later l17 18 rfl rfl; have l19 := hcC.later hbB 19 rfl rfl; have l20 := hcC.later hbB 20 rfl rfl; simp only [vGuard, go_sem, hbB, upd, Bool.false_eq_true, w5, l7, l17, l18, l19, l20, hg] <;> (repeat (refine And.intro (by first | omega | ((try simp only [go_sem, List.length_append, lim, lim2]) <;> omega) | assumption | exact ints_1 _ | exact rfl | (simp [ints]; done)) ?_)) <;> (first | rfl | first | omega | ((try simp only [go_sem, List.length_append, lim, lim2]) <;> omega) | assumption | exact ints_1 _ | exact rfl | (simp [ints]; done))
   ·have hbB : b 7 = false := hbB; have w6 := hwW.at 6 rfl; have l16 := hcC.later hbB 16 rfl rfl; have l17 := hcC.later l16 17 rfl rfl; have l18 := hcC.later l17 18 rfl rfl; have l19 := hcC.later hbB 19 rfl rfl; have l20 := hcC.later hbB 20 rfl rfl; simp only [vGuard, go_sem, hbB, upd, Bool.false_eq_true, w6, l16, l17, l18, l19, l20, hg] <;> (repeat (refine And.intro (by first | omega | ((try simp only [go_sem, List.length_append, lim, lim2]) <;> omega) | assumption | exact ints_1 _ | exact rfl | (simp [ints]; done)) ?_)) <;> (first | rfl | first | omega | ((try simp only [go_sem, List.length_append, lim, lim2]) <;> omega) | assumption | exact ints_1 _ | exact rfl | (simp [ints]; done))
   ·have hbB : b 8 = false := hbB; have l15 := hcC.later hbB 15 rfl rfl; have l16 := hcC.later l15 16 rfl rfl; have l17 := hcC.later l16 17 rfl rfl; have l18 := hcC.later l15 18 rfl rfl; have l19 := hcC.later hbB 19 rfl rfl; have l20 := hcC.later hbB 20 rfl rfl; simp only [vGuard, go_sem, hbB, upd, Bool.false_eq_true, l15, l17, l18, l19, l20, hg] <;> (repeat (refine And.intro (by first | omega | ((try simp only [go_sem, List.length_append, lim, lim2]) <;> omega) | assumption | exact ints_1 _ | exact rfl | (simp [ints]; done)) ?_)) <;> (first | rfl | first | omega | ((try simp only [go_sem, List.length_append, lim, lim2]) <;> omega) | assumption | exact ints_1 _ | exact rfl | (simp [ints]; done))
   ·have hbB : b 9 = false := hbB; have l10 := hcC.later hbB 10 rfl rfl; have l12 := hcC.later l10 12 rfl rfl; have l13 := hcC.later l12 13 rfl rfl; have l14 := hcC.later l13 14 rfl rfl; have l15 := hcC.later l14 15 rfl rfl; have l16 := hcC.later l15 16 rfl rfl; have l17 := hcC.later l16 17 rfl rfl; have l18 := hcC.later l15 18 rfl rfl; have l19 := hcC.later hbB 19 rfl rfl; have l20 := hcC.later hbB 20 rfl rfl; simp only [vGuard, go_sem, hbB, upd, Bool.false_eq_true, l10, l15, l17, l18, l19, l20, hg] <;> (repeat (refine And.intro (by first | omega | ((try simp only [go_sem, List.length_append, lim, lim2]) <;> omega) | assumption | exact ints_1 _ | exact rfl | (simp [ints]; done)) ?_)) <;> (first | rfl | first | omega | ((try simp only [go_sem, List.length_append, lim, lim2]) <;> omega) | assumption | exact ints_1 _ | exact rfl | (simp [ints]; done))
   ·have hbB : b 10 = false := hbB; have w9 := hwW.at 9 rfl; have l12 := hcC.later hbB 12 rfl rfl; have l13 := hcC.later l12 13 rfl rfl; have l14 := hcC.later l13 14 rfl rfl; have l15 := hcC.later l14 15 rfl rfl; have l16 := hcC.later l15 16 rfl rfl; have l17 := hcC.later l16 17 rfl rfl; have l18 := hcC.later l15 18 rfl rfl; have l19 := hcC.later hbB 19 rfl rfl; have l20 := hcC.later hbB 20 rfl rfl; simp only [vGuard, go_sem, hbB, upd, Bool.false_eq_true, w9, l12, l15, l17, l18, l19, l20, hg] <;> (repeat (refine And.intro (by first | omega | ((try simp only [go_sem, List.length_append, lim, lim2]) <;> omega) | assumption | exact ints_1 _ | exact rfl | (simp [ints]; done)) ?_)) <;> (first | rfl | first | omega | ((try simp only [go_sem, List.length_append, lim, lim2]) <;> omega) | assumption | exact ints_1 _ | exact rfl | (simp [ints]; done))
   ·have hbB : b 11 = false := hbB; have l12 := hcC.later hbB 12 rfl rfl; have l13 := hcC.later l12 13 rfl rfl; have l14 := hcC.later l13 14 rfl rfl; have l15 := hcC.later l14 15 rfl rfl; have l16 := hcC.later l15 16 rfl rfl; have l17 := hcC.later l16 17 rfl rfl; have l18 := hcC.later l15 18 rfl rfl; have l19 := hcC.later hbB 19 rfl rfl; have l20 := hcC.later hbB 20 rfl rfl; simp only [vGuard, go_sem, hbB, upd, Bool.false_eq_true, l12, l15, l17, l18, l19, l20, hg] <;> (repeat (refine And.intro (by first | omega | ((try simp only [go_sem, List.length_append, lim, lim2]) <;> omega) | assumption | exact ints_1 _ | exact rfl | (simp [ints]; done)) ?_)) <;> (first | rfl | first | omega | ((try simp only [go_sem, List.length_append, lim, lim2]) <;> omega) | assumption | exact ints_1 _ | exact rfl | (simp [ints]; done))
   ·have hbB : b 12 = false := hbB; have w10 := hwW.at 10 rfl; have w11 := hwW.at 11 rfl; have l13 := hcC.later hbB 13 rfl rfl; have l14 := hcC.later l13 14 rfl rfl; have l15 := hcC.later l14 15 rfl rfl; have l16 := hcC.later l15 16 rfl rfl; have l17 := hcC.later l16 17 rfl rfl; have l18 := hcC.later l15 18 rfl rfl; have l19 := hcC.later hbB 19 rfl rfl; have l20 := hcC.later hbB 20 rfl rfl; simp only [vGuard, go_sem, hbB, upd, Bool.false_eq_true, w10, w11, l13, l15, l17, l18, l19, l20, hg] <;> (repeat (refine And.intro (by first | omega | ((try simp only [go_sem, List.length_append, lim, lim2]) <;> omega) | assumption | exact ints_1 _ | exact rfl | (simp [ints]; done)) ?_)) <;> (first | rfl | first | omega | ((try simp only [go_sem, List.length_append, lim, lim2]) <;> omega) | assumption | exact ints_1 _ | exact rfl | (simp [ints]; done))
   ·have hbB : b 13 = false := hbB; have w12 := hwW.at 12 rfl; have l14 := hcC.later hbB 14 rfl rfl; have l15 := hcC.later l14 15 rfl rfl; have l16 := hcC.later l15 16 rfl rfl; have l17 := hcC.later l16 17 rfl rfl; have l18 := hcC.later l15 18 rfl rfl; have l19 := hcC.later hbB 19 rfl rfl; have l20 := hcC.later hbB 20 rfl rfl; simp only [vGuard, go_sem, hbB, upd, Bool.false_eq_true, w12, l14, l15, l17, l18, l19, l20, hg] <;> (repeat (refine And.intro (by first | omega | ((try simp only [go_sem, List.length_append, lim, lim2]) <;> omega) | assumption | exact ints_1 _ | exact rfl | (simp [ints]; done)) ?_)) <;> (first | rfl | first | omega | ((try simp only [go_sem, List.length_append, lim, lim2]) <;> omega) | assumption | exact ints_1 _ | exact rfl | (simp [ints]; done))
   ·have hbB : b 14 = false := hbB; have w13 := hwW.at 13 rfl; have l15 := hcC.later hbB 15 rfl rfl; have l16 := hcC.later l15 16 rfl rfl; have l17 := hcC.later l16 17 rfl rfl; have l18 := hcC.later l15 18 rfl rfl; have l19 := hcC.later hbB 19 rfl rfl; have l20 := hcC.later hbB 20 rfl rfl; simp only [vGuard, go_sem, hbB, upd, Bool.false_eq_true, w13, l15, l17, l18, l19, l20, hg] <;> (repeat (refine And.intro (by first | omega | ((try simp only [go_sem, List.length_append, lim, lim2]) <;> omega) | assumption | exact ints_1 _ | exact rfl | (simp [ints]; done)) ?_)) <;> (first | rfl | first | omega | ((try simp only [go_sem, List.length_append, lim, lim2]) <;> omega) | assumption | exact ints_1 _ | exact rfl | (simp [ints]; done))
   ·have hbB : b 15 = false := hbB; have w8 := hwW.at 8 rfl; have w14 := hwW.at 14 rfl; have l16 := hcC.later hbB 16 rfl rfl; have l17 := hcC.later l16 17 rfl rfl; have l18 := hcC.later hbB 18 rfl rfl; have l19 := hcC.later hbB 19 rfl rfl; have l20 := hcC.later hbB 20 rfl rfl; simp only [vGuard, go_sem, hbB, upd, Bool.false_eq_true, w8, w14, l16, l17, l18, l19, l20, hg] <;> (repeat (refine And.intro (by first | omega | ((try simp only [go_sem, List.length_append, lim, lim2]) <;> omega) | assumption | exact ints_1 _ | exact rfl | (simp [ints]; done)) ?_)) <;> (first | rfl | first | omega | ((try simp only [go_sem, List.length_append, lim, lim2]) <;> omega) | assumption | exact ints_1 _ | exact rfl | (simp [ints]; done))
   ·have hbB : b 16 = false := hbB; have w7 := hwW.at 7 rfl; have w15 := hwW.at 15 rfl; have w8 := (hcC 15 _ rfl w15).at 8 rfl; have l17 := hcC.later hbB 17 rfl rfl; have l18 := hcC.later l17 18 rfl rfl; have l19 := hcC.later hbB 19 rfl rfl; have l20 := hcC.later hbB 20 rfl rfl; simp only [vGuard, go_sem, hbB, upd, Bool.false_eq_true, w7, w8, w15, l17, l18, l19, l20, hg] <;> (repeat (refine And.intro (by first | omega | ((try simp only [go_sem, List.length_append, lim, lim2]) <;> omega) | assumption | exact ints_1 _ | exact rfl | (simp [ints]; done)) ?_)) <;> (first | rfl | first | omega | ((try simp only [go_sem, List.length_append, lim, lim2]) <;> omega) | assumption | exact ints_1 _ | exact rfl | (simp [ints]; done))
   ·have hbB : b 17 = false := hbB; have w16 := hwW.at 16 rfl; have w15 := (hcC 16 _ rfl w16).at 15 rfl; have w8 := (hcC 15 _ rfl w15).at 8 rfl; have l18 := hcC.later hbB 18 rfl rfl; have l19 := hcC.later hbB 19 rfl rfl; have l20 := hcC.later hbB 20 rfl rfl; simp only [vGuard, go_sem, hbB, upd, Bool.false_eq_true, w8, w15, w16, l18, l19, l20, hg] <;> (repeat (refine And.intro (by first | omega | ((try simp only [go_sem, List.length_append, lim, lim2]) <;> omega) | assumption | exact ints_1 _ | exact rfl | (simp [ints]; done)) ?_)) <;> (first | rfl | first | omega | ((try simp only [go_sem, List.length_append, lim, lim2]) <;> omega) | assumption | exact ints_1 _ | exact rfl | (simp [ints]; done))
   ·have hbB : b 18 = false := hbB; have w1 := hwW.at 1 rfl; have w17 := hwW.at 17 rfl; have w15 := hwW.at 15 rfl; have w8 := (hcC 15 _ rfl w15).at 8 rfl; have l19 := hcC.later hbB 19 rfl rfl; have l20 := hcC.later hbB 20 rfl rfl; simp only [vGuard, go_sem, hbB, upd, Bool.false_eq_true, w1, w8, w15, w17, l19, l20, hg] <;> (repeat (refine And.intro (by first | omega | ((try simp only [go_sem, List.length_append, lim, lim2]) <;> omega) | assumption | exact ints_1 _ | exact rfl | (simp [ints]; done)) ?_)) <;> (first | rfl | first | omega | ((try simp only [go_sem, List.length_append, lim, lim2]) <;> omega) | assumption | exact ints_1 _ | exact rfl | (simp [ints]; done))
   ·have hbB : b 19 = false := hbB; have w0 := hwW.at 0 rfl; have w1 := hwW.at 1 rfl; have w2 := hwW.at 2 rfl; have w3 := hwW.at 3 rfl; have w4 := hwW.at 4 rfl; have w5 := hwW.at 5 rfl; have w6 := hwW.at 6 rfl; have w7 := hwW.at 7 rfl; have w8 := hwW.at 8 rfl; have w9 := hwW.at 9 rfl; have w10 := hwW.at 10 rfl; have w11 := hwW.at 11 rfl; have w12 := hwW.at 12 rfl; have w13 := hwW.at 13 rfl; have w14 := hwW.at 14 rfl; have w15 := hwW.at 15 rfl; have w16 := hwW.at 16 rfl; have w17 := hwW.at 17 rfl; have w18 := hwW.at 18 rfl; have l20 := hcC.later hbB 20 rfl rfl; simp only [vGuard, go_sem, hbB, upd, Bool.false_eq_true, w0, w1, w2, w3, w4, w5, w6, w7, w8, w9, w10, w11, w12, w13, w14, w15, w16, w17, w18, l20, hg] <;> (repeat (refine And.intro (by first | omega | ((try simp only [go_sem, List.length_append, lim, lim2]) <;> omega) | assumption | exact ints_1 _ | exact rfl | (simp [ints]; done)) ?_)) <;> (first | rfl | first | omega | ((try simp only [go_sem, List.length_append, lim, lim2]) <;> omega) | assumption | exact ints_1 _ | exact rfl | (simp [ints]; done))
   ·have hbB : b 20 = false := hbB; have w19 := hwW.at 19 rfl; have w18 := hwW.at 18 rfl; have w0 := hwW.at 0 rfl; have w1 := hwW.at 1 rfl; have w2 := hwW.at 2 rfl; have w3 := hwW.at 3 rfl; have w4 := hwW.at 4 rfl; have w5 := hwW.at 5 rfl; have w6 := hwW.at 6 rfl; have w7 := hwW.at 7 rfl; have w8 := hwW.at 8 rfl; have w9 := hwW.at 9 rfl; have w10 := hwW.at 10 rfl; have w11 := hwW.at 11 rfl; have w12 := hwW.at 12 rfl; have w13 := hwW.at 13 rfl; have w14 := hwW.at 14 rfl; have w15 := hwW.at 15 rfl; have w16 := hwW.at 16 rfl; have w17 := hwW.at 17 rfl; simp only [vGuard, go_sem, hbB, upd, Bool.false_eq_true, w0, w1, w2, w3, w4, w5, w6, w7, w8, w9, w10, w11, w12, w13, w14, w15, w16, w17, w18, w19, hg] <;> (repeat (refine And.intro (by first | omega | ((try simp only [go_sem, List.length_append, lim, lim2]) <;> omega) | assumption | exact ints_1 _ | exact rfl | (simp [ints]; done)) ?_)) <;> (first | rfl | first | omega | ((try simp only [go_sem, List.length_append, lim, lim2]) <;> omega) | assumption | exact ints_1 _ | exact rfl | (simp [ints]; done))
  simp only [List.length_cons, List.length_nil, Nat.reduceAdd, Nat.reduceLT, decide_true, if_true]
  repeat (first | ((with_reducible first | refine O1 rfl (fun N hN => ?_) | refine O2 rfl rfl rfl (fun N hN => ?_)); simp only [go_sem, hw]; (repeat (refine ⟨by first | omega | ((try simp only [go_sem, hw, List.length_append, lim, lim2]) <;> omega) | assumption | exact ints_1 _ | exact rfl | (simp [ints]; done), ?_⟩)); (first | refine hN _ ?_ | (intro _ _; refine hN _ ?_)); clear hN N) | with_reducible (first | apply Ea | apply Eb | apply Ec | apply Ed | apply Ee | apply Ef | apply Eg | apply Eh | apply Ei | apply Ej | apply Ek | apply El | apply Em | refine En rfl ?_ | apply Eo | apply Ep | apply Eq1 | apply Er | apply Es) | ((with_reducible first | refine O3 rfl rfl rfl rfl ?_ | refine O4 rfl rfl rfl ?_); simp only [go_sem, hw]))
  (refine ⟨(fun (i : Nat) (u : List (Int × List Int)) => r.rs.length - i) (i + 1) ( u ++ [((rg r.rs i).1, (rg r.rs i).2)]), _, ?hm, ?hI, (Sub.trans (Sub_swap 59 38 (by simp) (by simp) (Nat.le_of_ble_eq_true rfl) (Nat.le_of_ble_eq_true rfl)) (Sub.trans (Sub_forget [28, 35, 37, 38] rfl) (Sub_blank [true, false, false, false, false, false, true, true, true, true, true, true, true, true, true, true, true, true, true, true, true, true, true, true, true, true, true, true, true, true, true, true, true, true, true, true, true, true, true, true])))⟩; (case hm => (first | omega | (simp only; omega) | (simp only [List.length_cons]; omega))); (case hI => (simp only [go_sem, forget, swap, scrL, scr, scrH, scrO, renL, ren, renO, sw, blankL, List.contains_cons, List.contains_nil, Nat.reduceBEq, Bool.or_false, Bool.false_or, Bool.or_true, Bool.true_or, Bool.false_eq_true, if_true, if_false] <;> exact ⟨i + 1, u ++ [((rg r.rs i).1, (rg r.rs i).2)], by omega, by rw [hu, rg_at hlt, List.take_succ_eq_append_getElem hlt], rfl, rfl⟩)))
 ·have hi2 : u = r.rs := by
   have : ¬ (i < r.rs.length) := by simpa using hc
   rw [hu, List.take_of_length_le (by omega)]
  subst hi2
  repeat (first | ((with_reducible first | refine O1 rfl (fun N hN => ?_) | refine O2 rfl rfl rfl (fun N hN => ?_)); simp only [go_sem]; (repeat (refine ⟨by first | omega | ((try simp only [go_sem, List.length_append, lim, lim2]) <;> omega) | assumption | exact ints_1 _ | exact rfl | (simp [ints]; done), ?_⟩)); (first | refine hN _ ?_ | (intro _ _; refine hN _ ?_)); clear hN N) | with_reducible (first | apply Ea | apply Eb | apply Ec | apply Ed | apply Ee | apply Ef | apply Eg | apply Eh | apply Ei | apply Ej | apply Ek | apply El | apply Em | refine En rfl ?_ | apply Eo | apply Ep | apply Eq1 | apply Er | apply Es) | ((with_reducible first | refine O3 rfl rfl rfl rfl ?_ | refine O4 rfl rfl rfl ?_); simp only [go_sem]))
  refine TW_sub (Sub_growIn (b := 3) (f := 3) (id := 58) 41 1 rfl rfl rfl (Nat.zero_le _)) ?_
  simp only [go_sem]
  refine TW_sub (Sub_blank [true, false, false, false, true, false, true, true, true, true, true, true, true, true, true, true, true, true, true, true, true, true, true, true, true, true, true, true, true, true, true, true, true, true, true, true, true, true, true, true, true, true, true, true, true, true, true, true, true, true, true, true, true, true, true, true, true, true, true]) ?_
  refine TW_loop (fun fuel st => ∃ (i : Nat) (v : List (List Int)), (i ≤ r.sh.length) ∧ (v = r.sh.take i) ∧  fuel = r.sh.length - i ∧ st = ⟨[.junk, .ptr 1 0, .ptr 2 0, .ptr 3 0, .junk, .int .i64 i, .junk, .junk, .junk, .junk, .junk, .junk, .junk, .junk, .junk, .junk, .junk, .junk, .junk, .junk, .junk, .junk, .junk, .junk, .junk, .junk, .junk, .junk, .junk, .junk, .junk, .junk, .junk, .junk, .junk, .junk, .junk, .junk, .junk, .junk, .junk, .junk, .junk, .junk, .junk, .junk, .junk, .junk, .junk, .junk, .junk, .junk, .junk, .junk, .junk, .junk, .junk, .junk, .junk, .junk], [.un, .box [.sl false (vts r.t), .int .i64 r.size, .sl false (rgs r.rs), .sl false (rws r.sh), .int .u64 (↑r.on : Int)], .box [.nils, .int .i64 0, .nils, .nils, .int .u64 0], .box [.sl false (vts r.t), .int .i64 r.size, .bsl 59, .bsl 58, .int .u64 r.on], .un, .un, .un, .un, .un, .un, .un, .un, .un, .un, .un, .un, .un, .un, .un, .un, .un, .un, .un, .un, .un, .un, .un, .un, .un, .un, .un, .un, .un, .un, .un, .un, .un, .un, .un, .un, .un, .un, .un, .un, .un, .un, .un, .un, .un, .un, .un, .un, .un, .un, .un, .un, .un, .un, .arr 41 1 (rws v), .arr 46 2 (rgs r.rs)], 0⟩) (n := _) ⟨0, [], by first | omega | (simp; done) | (simp; omega) | assumption, by first | omega | (simp; done) | (simp; omega) | assumption, rfl, rfl⟩ ?_
  rintro fuel st ⟨i, v, hi, hv, rfl, rfl⟩
  repeat (first | ((with_reducible first | refine O1 rfl (fun N hN => ?_) | refine O2 rfl rfl rfl (fun N hN => ?_)); simp only [go_sem]; (repeat (refine ⟨by first | omega | ((try simp only [go_sem, List.length_append, lim, lim2]) <;> omega) | assumption | exact ints_1 _ | exact rfl | (simp [ints]; done), ?_⟩)); (first | refine hN _ ?_ | (intro _ _; refine hN _ ?_)); clear hN N) | with_reducible (first | apply Ea | apply Eb | apply Ec | apply Ed | apply Ee | apply Ef | apply Eg | apply Eh | apply Ei | apply Ej | apply Ek | apply El | apply Em | refine En rfl ?_ | apply Eo | apply Ep | apply Eq1 | apply Er | apply Es) | ((with_reducible first | refine O3 rfl rfl rfl rfl ?_ | refine O4 rfl rfl rfl ?_); simp only [go_sem]))
  refine TW_cond rfl (fun hc => ?_) (fun hc => ?_)
  ·have hlt : i < r.sh.length := by simpa using hc
   have hg := rws_get r.sh i hlt
   have hv1 := rws_1 v
   have hw := wrap_i64 (n := (i : Int) + 1) (by omega) (by omega)
   have hvl : v.length ≤ 100 := by rw [hv, List.length_take]; omega
   have hel : (rw' r.sh i).length ≤ 4000 := h.sl _ (by rw [rw_at hlt]; exact List.getElem_mem hlt)
   repeat (first | ((with_reducible first | refine O1 rfl (fun N hN => ?_) | refine O2 rfl rfl rfl (fun N hN => ?_)); simp only [go_sem]; (repeat (refine ⟨by first | omega | ((try simp only [go_sem, List.length_append, lim, lim2]) <;> omega) | assumption | exact ints_1 _ | exact rfl | (simp [ints]; done), ?_⟩)); (first | refine hN _ ?_ | (intro _ _; refine hN _ ?_)); clear hN N) | with_reducible (first | apply Ea | apply Eb | apply Ec | apply Ed | apply Ee | apply Ef | apply Eg | apply Eh | apply Ei | apply Ej | apply Ek | apply El | apply Em | refine En rfl ?_ | apply Eo | apply Ep | apply Eq1 | apply Er | apply Es) | ((with_reducible first | refine O3 rfl rfl rfl rfl ?_ | refine O4 rfl rfl rfl ?_); simp only [go_sem]))
   refine TW_sub (Sub_blank [true, false, false, false, true, false, true, true, true, true, true, true, true, true, true, true, true, true, true, true, true, true, true, true, true, true, true, true, true, true, true, true, true, true, true, true, true, true, true, true, false, false, false, false, false, false, false, false, false, false, false, false, false, false, false, false, false, false, false, false]) ?_
   refine TW_open mixed (by kernel_rfl) (fun b => ⟨[.junk, .ptr 1 0, .ptr 2 0, .ptr 3 0, .junk, .int .i64 (↑i : Int), .junk, .junk, .junk, .junk, .junk, .junk, .junk, .junk, .junk, .junk, .junk, .junk, .junk, .junk, .junk, .junk, .junk, .junk, .junk, .junk, .junk, .junk, .junk, .junk, .junk, .junk, .junk, .junk, .junk, .junk, .junk, .junk, .junk, .junk, .int .i64 (↑i : Int), .ptr 1 3, .sl false (rws r.sh), .int .i64 (↑r.sh.length : Int), .bool (decide ((↑i : Int) < (↑r.sh.length : Int))), .junk, .junk, if b 0 = true then .ptr 3 3 else .junk, if b 1 = true then .bsl 58 else .junk, if b 2 = true then .bsl 49 else .junk, if b 3 = true then .ptr 1 3 else .junk, if b 4 = true then .sl false (rws r.sh) else .junk, if b 5 = true then .int .i64 (↑i : Int) else .junk, if b 6 = true then .cptr [.sl false (ints (rw' r.sh i))] else .junk, if b 7 = true then .sl false (ints (rw' r.sh i)) else .junk, if b 8 = true then .bsl 55 else .junk, if b 9 = true then .bsl 56 else .junk, if b 10 = true then .bsl 57 else .junk, if b 11 = true then .ptr 3 3 else .junk, .junk], [.un, .box [.sl false (vts r.t), .int .i64 r.size, .sl false (rgs r.rs), .sl false (rws r.sh), .int .u64 (↑r.on : Int)], .box [.nils, .int .i64 0, .nils, .nils, .int .u64 0], if b 12 = true then .box [.sl false (vts r.t), .int .i64 r.size, .bsl 59, .bsl 57, .int .u64 (↑r.on : Int)] else .box [.sl false (vts r.t), .int .i64 r.size, .bsl 59, .bsl 58, .int .u64 (↑r.on : Int)], .un, .un, .un, .un, .un, .un, .un, .un, .un, .un, .un, .un, .un, .un, .un, .un, .un, .un, .un, .un, .un, .un, .un, .un, .un, .un, .un, .un, .un, .un, .un, .un, .un, .un, .un, .un, .un, .un, .un, .un, .un, .un, .un, .un, .un, if b 8 = true then .dead else if b 2 = true then .arr 3 1 [] else .un, .un, .un, .un, .un, .un, if b 9 = true then .imm (ints (rw' r.sh i)) else if b 8 = true then .arr 3 1 (ints (rw' r.sh i)) else .un, if b 9 = true then .arr 41 1 [[.sl false (ints (rw' r.sh i))]] else .un, if b 10 = true then .arr 41 1 (rws (v ++ [rw' r.sh i])) else .un, if b 10 = true then .dead else .arr 41 1 (rws v), .arr 46 2 (rgs r.rs)], 0⟩) rfl ?_ ?_
   ·skip
    refine ⟨fun b hwW hbB hcC => ?_, fun b hwW hbB hcC => ?_, fun b hwW hbB hcC => ?_, fun b hwW hbB hcC => ?_, fun b hwW hbB hcC => ?_, fun b hwW hbB hcC => ?_, fun b hwW hbB hcC => ?_, fun b hwW hbB hcC => ?_, fun b hwW hbB hcC => ?_, fun b hwW hbB hcC => ?_, fun b hwW hbB hcC => ?_, fun b hwW hbB hcC => ?_, fun b hwW hbB hcC => ?_, trivial⟩
    ·have hbB : b 0 = false := hbB; have l1 := hcC.later hbB 1 rfl rfl; have l10 := hcC.later l1 10 rfl rfl; have l11 := hcC.later hbB 11 rfl rfl; have l12 := hcC.later hbB 12 rfl rfl; simp only [vGuard, go_sem, hbB, upd, Bool.false_eq_true, l1, l10, l11, l12, hg] <;> (repeat (refine And.intro (by first | omega | ((try simp only [go_sem, List.length_append, lim, lim2]) <;> omega) | assumption | exact ints_1 _ | exact rfl | (simp [ints]; done)) ?_)) <;> (first | rfl | first | omega | ((try simp only [go_sem, List.length_append, lim, lim2]) <;> omega) | assumption | exact ints_1 _ | exact rfl | (simp [ints]; done))
    ·have hbB : b 1 = false := hbB; have w0 := hwW.at 0 rfl; have l10 := hcC.later hbB 10 rfl rfl; have l11 := hcC.later hbB 11 rfl rfl; have l12 := hcC.later hbB 12 rfl rfl; simp only [vGuard, go_sem, hbB, upd, Bool.false_eq_true, w0, l10, l11, l12, hg] <;> (repeat (refine And.intro (by first | omega | ((try simp only [go_sem, List.length_append, lim, lim2]) <;> omega) | assumption | exact ints_1 _ | exact rfl | (simp [ints]; done)) ?_)) <;> (first | rfl | first | omega | ((try simp only [go_sem, List.length_append, lim, lim2]) <;> omega) | assumption | exact ints_1 _ | exact rfl | (simp [ints]; done))
    ·have hbB : b 2 = false := hbB; have l8 := hcC.later hbB 8 rfl rfl; have l9 := hcC.later l8 9 rfl rfl; have l10 := hcC.later l8 10 rfl rfl; have l11 := hcC.later hbB 11 rfl rfl; have l12 := hcC.later hbB 12 rfl rfl; simp only [vGuard, go_sem, hbB, upd, Bool.false_eq_true, l8, l9, l10, l11, l12, hg] <;> (repeat (refine And.intro (by first | omega | ((try simp only [go_sem, List.length_append, lim, lim2]) <;> omega) | assumption | exact ints_1 _ | exact rfl | (simp [ints]; done)) ?_)) <;> (first | rfl | first | omega | ((try simp only [go_sem, List.length_append, lim, lim2]) <;> omega) | assumption | exact ints_1 _ | exact rfl | (simp [ints]; done))
    ·have hbB : b 3 = false := hbB; have l4 := hcC.later hbB 4 rfl rfl; have l6 := hcC.later l4 6 rfl rfl; have l7 := hcC.later l6 7 rfl rfl; have l8 := hcC.later l7 8 rfl rfl; have l9 := hcC.later l8 9 rfl rfl; have l10 := hcC.later l8 10 rfl rfl; have l11 := hcC.later hbB 11 rfl rfl; have l12 := hcC.later hbB 12 rfl rfl; simp only [vGuard, go_sem, hbB, upd, Bool.false_eq_true, l4, l8, l9, l10, l11, l12, hg] <;> (repeat (refine And.intro (by first | omega | ((try simp only [go_sem, List.length_append, lim, lim2]) <;> omega) | assumption | exact ints_1 _ | exact rfl | (simp [ints]; done)) ?_)) <;> (first | rfl | first | omega | ((try simp only [go_sem, List.length_append, lim, lim2]) <;> omega) | assumption | exact ints_1 _ | exact rfl | (simp [ints]; done))
    ·have hbB : b 4 = false := hbB; have w3 := hwW.at 3 rfl; have l6 := hcC.later hbB 6 rfl rfl; have l7 := hcC.later l6 7 rfl rfl; have l8 := hcC.later l7 8 rfl rfl; have l9 := hcC.later l8 9 rfl rfl; have l10 := hcC.later l8 10 rfl rfl; have l11 := hcC.later hbB 11 rfl rfl; have l12 := hcC.later hbB 12 rfl rfl; simp only [vGuard, go_sem, hbB, upd, Bool.false_eq_true, w3, l6, l8, l9, l10, l11, l12, hg] <;> (repeat (refine And.intro (by first | omega | ((try simp only [go_sem, List.length_append, lim, lim2]) <;> omega) | assumption | exact ints_1 _ | exact rfl | (simp [ints]; done)) ?_)) <;> (first | rfl | first | omega | ((try simp only [go_sem, List.length_append, lim, lim2]) <;> omega) | assumption | exact ints_1 _ | exact rfl | (simp [ints]; done))
    ·have hbB : b 5 = false := hbB; have l6 := hcC.later hbB 6 rfl rfl; have l7 := hcC.later l6 7 rfl rfl; have l8 := hcC.later l7 8 rfl rfl; have l9 := hcC.later l8 9 rfl rfl; have l10 := hcC.later l8 10 rfl rfl; have l11 := hcC.later hbB 11 rfl rfl; have l12 := hcC.later hbB 12 rfl rfl; simp only [vGuard, go_sem, hbB, upd, Bool.false_eq_true, l6, l8, l9, l10, l11, l12, hg] <;> (repeat (refine And.intro (by first | omega | ((try simp only [go_sem, List.length_append, lim, lim2]) <;> omega) | assumption | exact ints_1 _ | exact rfl | (simp [ints]; done)) ?_)) <;> (first | rfl | first | omega | ((try simp only [go_sem, List.length_append, lim, lim2]) <;> omega) | assumption | exact ints_1 _ | exact rfl | (simp [ints]; done))
    ·have hbB : b 6 = false := hbB; have w4 := hwW.at 4 rfl; have w5 := hwW.at 5 rfl; have l7 := hcC.later hbB 7 rfl rfl; have l8 := hcC.later l7 8 rfl rfl; have l9 := hcC.later l8 9 rfl rfl; have l10 := hcC.later l8 10 rfl rfl; have l11 := hcC.later hbB 11 rfl rfl; have l12 := hcC.later hbB 12 rfl rfl; simp only [vGuard, go_sem, hbB, upd, Bool.false_eq_true, w4, w5, l7, l8, l9, l10, l11, l12, hg] <;> (repeat (refine And.intro (by first | omega | ((try simp only [go_sem, List.length_append, lim, lim2]) <;> omega) | assumption | exact ints_1 _ | exact rfl | (simp [ints]; done)) ?_)) <;> (first | rfl | first | omega | ((try simp only [go_sem, List.length_append, lim, lim2]) <;> omega) | assumption | exact ints_1 _ | exact rfl | (simp [ints]; done))
    ·have hbB : b 7 = false := hbB; have w6 := hwW.at 6 rfl; have l8 := hcC.later hbB 8 rfl rfl; have l9 := hcC.later l8 9 rfl rfl; have l10 := hcC.later l8 10 rfl rfl; have l11 := hcC.later hbB 11 rfl rfl; have l12 := hcC.later hbB 12 rfl rfl; simp only [vGuard, go_sem, hbB, upd, Bool.false_eq_true, w6, l8, l9, l10, l11, l12, hg] <;> (repeat (refine And.intro (by first | omega | ((try simp only [go_sem, List.length_append, lim, lim2]) <;> omega) | assumption | exact ints_1 _ | exact rfl | (simp [ints]; done)) ?_)) <;> (first | rfl | first | omega | ((try simp only [go_sem, List.length_append, lim, lim2]) <;> omega) | assumption | exact ints_1 _ | exact rfl | (simp [ints]; done))
    ·have hbB : b 8 = false := hbB; have w2 := hwW.at 2 rfl; have w7 := hwW.at 7 rfl; have l9 := hcC.later hbB 9 rfl rfl; have l10 := hcC.later hbB 10 rfl rfl; have l11 := hcC.later hbB 11 rfl rfl; have l12 := hcC.later hbB 12 rfl rfl; simp only [vGuard, go_sem, hbB, upd, Bool.false_eq_true, w2, w7, l9, l10, l11, l12, hg] <;> (repeat (refine And.intro (by first | omega | ((try simp only [go_sem, List.length_append, lim, lim2]) <;> omega) | assumption | exact ints_1 _ | exact rfl | (simp [ints]; done)) ?_)) <;> (first | rfl | first | omega | ((try simp only [go_sem, List.length_append, lim, lim2]) <;> omega) | assumption | exact ints_1 _ | exact rfl | (simp [ints]; done))
    ·have hbB : b 9 = false := hbB; have w8 := hwW.at 8 rfl; have w2 := (hcC 8 _ rfl w8).at 2 rfl; have l10 := hcC.later hbB 10 rfl rfl; have l11 := hcC.later hbB 11 rfl rfl; have l12 := hcC.later hbB 12 rfl rfl; simp only [vGuard, go_sem, hbB, upd, Bool.false_eq_true, w2, w8, l10, l11, l12, hg] <;> (repeat (refine And.intro (by first | omega | ((try simp only [go_sem, List.length_append, lim, lim2]) <;> omega) | assumption | exact ints_1 _ | exact rfl | (simp [ints]; done)) ?_)) <;> (first | rfl | first | omega | ((try simp only [go_sem, List.length_append, lim, lim2]) <;> omega) | assumption | exact ints_1 _ | exact rfl | (simp [ints]; done))
    ·have hbB : b 10 = false := hbB; have w1 := hwW.at 1 rfl; have w9 := hwW.at 9 rfl; have w8 := hwW.at 8 rfl; have w2 := (hcC 8 _ rfl w8).at 2 rfl; have l11 := hcC.later hbB 11 rfl rfl; have l12 := hcC.later hbB 12 rfl rfl; simp only [vGuard, go_sem, hbB, upd, Bool.false_eq_true, w1, w2, w8, w9, l11, l12, hg] <;> (repeat (refine And.intro (by first | omega | ((try simp only [go_sem, List.length_append, lim, lim2]) <;> omega) | assumption | exact ints_1 _ | exact rfl | (simp [ints]; done)) ?_)) <;> (first | rfl | first | omega | ((try simp only [go_sem, List.length_append, lim, lim2]) <;> omega) | assumption | exact ints_1 _ | exact rfl | (simp [ints]; done))
    ·have hbB : b 11 = false := hbB; have w0 := hwW.at 0 rfl; have w1 := hwW.at 1 rfl; have w2 := hwW.at 2 rfl; have w3 := hwW.at 3 rfl; have w4 := hwW.at 4 rfl; have w5 := hwW.at 5 rfl; have w6 := hwW.at 6 rfl; have w7 := hwW.at 7 rfl; have w8 := hwW.at 8 rfl; have w9 := hwW.at 9 rfl; have w10 := hwW.at 10 rfl; have l12 := hcC.later hbB 12 rfl rfl; simp only [vGuard, go_sem, hbB, upd, Bool.false_eq_true, w0, w1, w2, w3, w4, w5, w6, w7, w8, w9, w10, l12, hg] <;> (repeat (refine And.intro (by first | omega | ((try simp only [go_sem, List.length_append, lim, lim2]) <;> omega) | assumption | exact ints_1 _ | exact rfl | (simp [ints]; done)) ?_)) <;> (first | rfl | first | omega | ((try simp only [go_sem, List.length_append, lim, lim2]) <;> omega) | assumption | exact ints_1 _ | exact rfl | (simp [ints]; done))
    ·have hbB : b 12 = false := hbB; have w11 := hwW.at 11 rfl; have w10 := hwW.at 10 rfl; have w0 := hwW.at 0 rfl; have w1 := hwW.at 1 rfl; have w2 := hwW.at 2 rfl; have w3 := hwW.at 3 rfl; have w4 := hwW.at 4 rfl; have w5 := hwW.at 5 rfl; have w6 := hwW.at 6 rfl; have w7 := hwW.at 7 rfl; have w8 := hwW.at 8 rfl; have w9 := hwW.at 9 rfl; simp only [vGuard, go_sem, hbB, upd, Bool.false_eq_true, w0, w1, w2, w3, w4, w5, w6, w7, w8, w9, w10, w11, hg] <;> (repeat (refine And.intro (by first | omega | ((try simp only [go_sem, List.length_append, lim, lim2]) <;> omega) | assumption | exact ints_1 _ | exact rfl | (simp [ints]; done)) ?_)) <;> (first | rfl | first | omega | ((try simp only [go_sem, List.length_append, lim, lim2]) <;> omega) | assumption | exact ints_1 _ | exact rfl | (simp [ints]; done))
   simp only [List.length_cons, List.length_nil, Nat.reduceAdd, Nat.reduceLT, decide_true, if_true]
   repeat (first | ((with_reducible first | refine O1 rfl (fun N hN => ?_) | refine O2 rfl rfl rfl (fun N hN => ?_)); simp only [go_sem, hw]; (repeat (refine ⟨by first | omega | ((try simp only [go_sem, hw, List.length_append, lim, lim2]) <;> omega) | assumption | exact ints_1 _ | exact rfl | (simp [ints]; done), ?_⟩)); (first | refine hN _ ?_ | (intro _ _; refine hN _ ?_)); clear hN N) | with_reducible (first | apply Ea | apply Eb | apply Ec | apply Ed | apply Ee | apply Ef | apply Eg | apply Eh | apply Ei | apply Ej | apply Ek | apply El | apply Em | refine En rfl ?_ | apply Eo | apply Ep | apply Eq1 | apply Er | apply Es) | ((with_reducible first | refine O3 rfl rfl rfl rfl ?_ | refine O4 rfl rfl rfl ?_); simp only [go_sem, hw]))
   (refine ⟨(fun (i : Nat) (v : List (List Int)) => r.sh.length - i) (i + 1) ( v ++ [rw' r.sh i]), _, ?hm, ?hI, (Sub.trans (Sub_swap 58 57 (by simp) (by simp) (Nat.le_of_ble_eq_true rfl) (Nat.le_of_ble_eq_true rfl)) (Sub.trans (Sub_forget [49, 55, 56, 57] rfl) (Sub_blank [true, false, false, false, true, false, true, true, true, true, true, true, true, true, true, true, true, true, true, true, true, true, true, true, true, true, true, true, true, true, true, true, true, true, true, true, true, true, true, true, true, true, true, true, true, true, true, true, true, true, true, true, true, true, true, true, true, true, true])))⟩; (case hm => (first | omega | (simp only; omega) | (simp only [List.length_cons]; omega))); (case hI => (simp only [go_sem, forget, swap, scrL, scr, scrH, scrO, renL, ren, renO, sw, blankL, List.contains_cons, List.contains_nil, Nat.reduceBEq, Bool.or_false, Bool.false_or, Bool.or_true, Bool.true_or, Bool.false_eq_true, if_true, if_false] <;> exact ⟨i + 1, v ++ [rw' r.sh i], by omega, by rw [hv, rw_at hlt, List.take_succ_eq_append_getElem hlt], rfl, rfl⟩)))
  ·have hi2 : v = r.sh := by
    have : ¬ (i < r.sh.length) := by simpa using hc
    rw [hv, List.take_of_length_le (by omega)]
   subst hi2
   repeat (first | ((with_reducible first | refine O1 rfl (fun N hN => ?_) | refine O2 rfl rfl rfl (fun N hN => ?_)); simp only [go_sem]; (repeat (refine ⟨by first | omega | ((try simp only [go_sem, List.length_append, lim, lim2]) <;> omega) | assumption | exact ints_1 _ | exact rfl | (simp [ints]; done), ?_⟩)); (first | refine hN _ ?_ | (intro _ _; refine hN _ ?_)); clear hN N) | with_reducible (first | apply Ea | apply Eb | apply Ec | apply Ed | apply Ee | apply Ef | apply Eg | apply Eh | apply Ei | apply Ej | apply Ek | apply El | apply Em | refine En rfl ?_ | apply Eo | apply Ep | apply Eq1 | apply Er | apply Es) | ((with_reducible first | refine O3 rfl rfl rfl rfl ?_ | refine O4 rfl rfl rfl ?_); simp only [go_sem]))
   (refine ⟨by simp, ?_⟩; simp only [go_sem, Try.results43])
theorem pos_all {r : Rn} (hm : mayN r = true) : ∀ x ∈ allN r, 0 < x := ((mayB_iff _).1 (mayN_tree hm).2.2.2.2.2.2.2.2).1
theorem pos_row {r : Rn} (hm : mayN r = true) {n : Nat} (hn : n < r.sh.length) : ∀ x ∈ rw' r.sh n, 0 < x := fun x hx => pos_all hm x (by
 unfold allN; rw [rw_at hn] at hx
 exact List.mem_append_right _ (List.mem_flatten.2 ⟨_, List.getElem_mem hn, hx⟩))
theorem pos_ring {r : Rn} (hm : mayN r = true) {k : Nat} (hk0 : k < r.rs.length) : ∀ x ∈ allR (rg r.rs k).1 (rg r.rs k).2, 0 < x := fun x hx => pos_all hm x (by
 unfold allN; rw [rg_at hk0] at hx
 exact List.mem_append_left _ (List.mem_flatten.2 ⟨_, List.mem_map.2 ⟨_, List.getElem_mem hk0, rfl⟩, hx⟩))
theorem rowG_ne {r : Rn} (hm : mayN r = true) {n : Nat} (hn : n < r.sh.length) (hr : rw' r.sh n ≠ []) : rowG r n ≠ 0 := by
 have := pos_row hm hn (rowG r n) (by
  unfold rowG
  cases h : rw' r.sh n with
  | nil => exact absurd h hr
  | cons a l => simp)
 omega
theorem locW_ne {r : Rn} (hm : mayN r = true) {n : Nat} (hn : n < r.sh.length) : (locW r n).2.1 = 0 ↔ rw' r.sh n = [] := by
 unfold locW
 by_cases h : rw' r.sh n = []
 ·rw [if_pos h]; simp [h]
 ·rw [if_neg h]; simp only [h, iff_false]; exact rowG_ne hm hn h
theorem locO_ne {k : Nat} {r : Rn} : (locO r k).2.1 = 0 ↔ ownG r k = 0 := by
 unfold locO
 by_cases h : ownG r k = 0
 ·rw [if_pos h]; simp [h]
 ·rw [if_neg h]
theorem ownG_zero {r : Rn} (hm : mayN r = true) {k : Nat} (hk0 : k < r.rs.length) : ownG r k = 0 ↔ (rg r.rs k).1 = 0 ∧ (rg r.rs k).2 = [] := by
 have hp := pos_ring hm hk0
 unfold ownG takeG
 by_cases h : (rg r.rs k).1 = 0
 ·rw [if_pos h]
  cases h2 : (rg r.rs k).2 with
  | nil => simp [h]
  | cons a l =>
   have := hp a (by unfold allR; rw [if_pos h, h2]; simp)
   simp only [List.headD_cons, h, true_and, reduceCtorEq, iff_false]; omega
 ·rw [if_neg h]; simp [h]
theorem locO_eq {r : Rn} (hm : mayN r = true) {k : Nat} (hk0 : k < r.rs.length) : locO r k = if (rg r.rs k).1 ≠ 0 then (⟨r.t, r.size, r.rs.set k (0, (rg r.rs k).2), r.sh, r.on⟩, (rg r.rs k).1, 1)
  else if (rg r.rs k).2 ≠ [] then (⟨r.t, r.size, r.rs.set k (0, (rg r.rs k).2.drop 1), r.sh, r.on⟩, (rg r.rs k).2.headD 0, 2) else (r, 0, 0) := by
 have hz := ownG_zero hm hk0
 unfold locO
 by_cases hg : ownG r k = 0
 ·obtain ⟨a, b⟩ := hz.1 hg
  rw [if_pos hg, if_neg (fun e => e a), if_neg (fun e => e b)]
 ·rw [if_neg hg]
  by_cases h : (rg r.rs k).1 = 0
  ·have h2 : (rg r.rs k).2 ≠ [] := fun e => hg (hz.2 ⟨h, e⟩)
   rw [if_neg (fun e => e h), if_pos h2]
   unfold ownR ownG ownF takeL takeG
   rw [if_pos h, if_pos h, if_neg (fun e => e h)]
  ·rw [if_pos h]
   unfold ownR ownG ownF takeL takeG
   rw [if_neg h, if_neg h, if_pos h]
theorem loc_eq {r : Rn} (hm : mayN r = true) {k n : Nat} (hk0 : k < r.rs.length) (hn : n < r.sh.length) (x : Int) : locF r k n x = xlocF r k n x := by
 have hW := locW_ne hm hn
 have hO := @locO_ne k r
 have hz := ownG_zero hm hk0
 have hOe := locO_eq hm hk0
 unfold locF xlocF
 cases hx : turnB x with
 | true =>
  simp only [if_true]
  by_cases h1 : rw' r.sh n = []
  ·rw [if_neg (fun e => e (hW.2 h1))]
   by_cases h2 : ownG r k = 0
   ·rw [if_neg (fun e => e (hO.2 h2)), if_neg (fun e => e.1 h1), ← hOe]; unfold locO; rw [if_pos h2]
   ·rw [if_pos (fun e => h2 (hO.1 e)), if_neg (fun e => e.1 h1), ← hOe]
  ·rw [if_pos (fun e => h1 (hW.1 e)), if_pos ⟨h1, .inl trivial⟩]
   unfold locW; rw [if_neg h1]
 | false =>
  simp only [Bool.false_eq_true, if_false, false_or]
  by_cases h2 : ownG r k = 0
  ·rw [if_neg (fun e => e (hO.2 h2))]
   by_cases h1 : rw' r.sh n = []
   ·rw [if_neg (fun e => e (hW.2 h1)), if_neg (fun e => e.1 h1), ← hOe]
    unfold locO; rw [if_pos h2]
   ·rw [if_pos (fun e => h1 (hW.1 e)), if_pos ⟨h1, hz.1 h2⟩]
    unfold locW; rw [if_neg h1]
  ·rw [if_pos (fun e => h2 (hO.1 e)), if_neg (fun e => h2 (hz.2 e.2)), ← hOe]
theorem few_loc {r : Rn} (h : fewB r = true) (k n : Nat) (x : Int) : fewB (xlocF r k n x).1 = true := by
 obtain ⟨a, b, c, d, e⟩ := (fewB_iff r).1 h
 have hd : ∀ m, (rg r.rs m).2.length ≤ 40 := fun m => by
  rcases Nat.lt_or_ge m r.rs.length with hm | hm
  ·rw [rg_at hm]; exact d _ (List.getElem_mem hm)
  ·unfold rg; rw [List.getD_eq_getElem?_getD, List.getElem?_eq_none hm]; simp
 have he : ∀ m, (rw' r.sh m).length ≤ 40 := fun m => by
  rcases Nat.lt_or_ge m r.sh.length with hm | hm
  ·rw [rw_at hm]; exact e _ (List.getElem_mem hm)
  ·unfold rw'; rw [List.getD_eq_getElem?_getD, List.getElem?_eq_none hm]; simp
 have hset : ∀ y : List Int, y.length ≤ 40 → fewB ⟨r.t, r.size, r.rs.set k (0, y), r.sh, r.on⟩ = true := fun y hy => by
  rw [fewB_iff]
  refine ⟨a, by simpa using b, c, fun z hz => ?_, e⟩
  rcases List.mem_or_eq_of_mem_set hz with hz | rfl
  ·exact d z hz
  ·exact hy
 unfold xlocF
 split
 ·unfold rowR
  rw [fewB_iff]
  refine ⟨a, b, by simpa using c, d, fun z hz => ?_⟩
  rcases List.mem_or_eq_of_mem_set hz with hz | rfl
  ·exact e z hz
  ·have := he n; simp; omega
 ·split
  ·exact hset _ (hd k)
  ·split
   ·exact hset _ (by have := hd k; simp; omega)
   ·exact h
theorem may_node {r : Rn} (hm : mayN r = true) {p : Int} (hp : has r.on p = true) : ∃ k n : Nat, p = k ∧ k < r.rs.length ∧ n < r.sh.length ∧ nodeI r.t k = n := by
 obtain ⟨hT, _, _, hr, hsh, _, hlt, _⟩ := mayN_tree hm
 rw [← has_in] at hp
 have hmem : p ∈ all r.on := by simpa using hp
 obtain ⟨i, hi, _, rfl⟩ : ∃ i : Nat, i < 64 ∧ r.on.testBit i = true ∧ (i : Int) = p := by
  rw [← upto_all] at hmem
  unfold upto at hmem
  simp only [List.mem_map, List.mem_filter, List.mem_range] at hmem
  obtain ⟨i, ⟨h1, h2⟩, h3⟩ := hmem
  exact ⟨i, h1, h2, h3⟩
 have h2 := hlt _ hmem
 obtain ⟨n, hn, hnl⟩ := node_in hT (k := i) (by omega)
 exact ⟨i, n, rfl, by omega, by omega, hn⟩
def oR : Rn := ⟨[(-1, 0), (0, 1), (1, 2), (2, 3)], 2, [(4, [2])], [[1]], 1⟩
theorem one_spec : Ret Try.prog 92 [] (.agg (runC oR)) := by
 refine Ret_of_body Try.func92 (by kernel_rfl) rfl ?_; rw [Try.ntmps92]
 repeat (first | ((with_reducible first | refine O1 rfl (fun N hN => ?_) | refine O2 rfl rfl rfl (fun N hN => ?_)); simp only [go_sem]; (repeat (refine ⟨by first | omega | ((try simp only [go_sem, List.length_append, lim, lim2]) <;> omega) | assumption | exact ints_1 _ | exact rfl | (simp [ints]; done), ?_⟩)); (first | refine hN _ ?_ | (intro _ _; refine hN _ ?_)); clear hN N) | with_reducible (first | apply Ea | apply Eb | apply Ec | apply Ed | apply Ee | apply Ef | apply Eg | apply Eh | apply Ei | apply Ej | apply Ek | apply El | apply Em | refine En rfl ?_ | apply Eo | apply Ep | apply Eq1 | apply Er | apply Es) | ((with_reducible first | refine O3 rfl rfl rfl rfl ?_ | refine O4 rfl rfl rfl ?_); simp only [go_sem]))
 (refine ⟨by simp, ?_⟩; simp only [go_sem, Try.results92])
 exact ⟨rfl, rfl, rfl, rfl, rfl⟩
theorem oR_facts : mayN oR = true ∧ has oR.on ((0 : Nat) : Int) = true ∧ nodeI oR.t ((0 : Nat) : Int) = ((0 : Nat) : Int) ∧ fewB oR = true ∧ (locF oR 0 0 1).2 = (4, 1) ∧ (locF oR 0 0 61).2 = (1, 3) := by decide +kernel
theorem oloc (x : Int) : Ret Try.prog 44 [.agg (runC oR), .int .i64 0, .int .i64 x] (T3 (locF oR 0 0 x)) := local_ok oR 0 0 x (small_few oR_facts.2.2.2.1 (by decide)) oR_facts.1 oR_facts.2.1 oR_facts.2.2.1 (by decide) (by decide)
theorem turn0 : turnB 0 = true := by decide
theorem shown42_spec : Ret Try.prog 42 [] (.bool true) := by
 have h1 := oloc 1
 have h2 := oloc 61
 obtain ⟨X, hX⟩ : ∃ X, X = (locF oR 0 0 1).1 := ⟨_, rfl⟩
 obtain ⟨Y, hY⟩ : ∃ Y, Y = (locF oR 0 0 61).1 := ⟨_, rfl⟩
 rw [show locF oR 0 0 1 = (X, 4, 1) from Prod.ext hX.symm oR_facts.2.2.2.2.1] at h1
 rw [show locF oR 0 0 61 = (Y, 1, 3) from Prod.ext hY.symm oR_facts.2.2.2.2.2] at h2
 have hone := one_spec
 obtain ⟨r, hr⟩ : ∃ r, r = oR := ⟨_, rfl⟩
 rw [← hr] at hone h1 h2
 refine Ret_of_body Try.func42 (by kernel_rfl) rfl ?_; rw [Try.ntmps42]
 repeat (first | ((with_reducible first | refine O1 rfl (fun N hN => ?_) | refine O2 rfl rfl rfl (fun N hN => ?_)); simp only [go_sem]; (repeat (refine ⟨by first | omega | ((try simp only [go_sem, List.length_append, lim, lim2]) <;> omega) | assumption | exact ints_1 _ | exact rfl | (simp [ints]; done), ?_⟩)); (first | refine hN _ ?_ | (intro _ _; refine hN _ ?_)); clear hN N) | with_reducible (first | apply Ea | apply Eb | apply Ec | apply Ed | apply Ee | apply Ef | apply Eg | apply Eh | apply Ei | apply Ej | apply Ek | apply El | apply Em | refine En rfl ?_ | apply Eo | apply Ep | apply Eq1 | apply Er | apply Es) | ((with_reducible first | refine O3 rfl rfl rfl rfl ?_ | refine O4 rfl rfl rfl ?_); simp only [go_sem]))
 ((with_reducible first | refine O1 rfl (fun N hN => ?_) | refine O2 rfl rfl rfl (fun N hN => ?_)); simp only [go_sem]; refine vCall.pu _ _ (hone) ?ha16 (hN _ ?hk16); (case ha16 => (first | (simp only [go_sem]; done) | (simp only [go_sem] <;> (first | omega | ((try simp only [go_sem, List.length_append, lim, lim2]) <;> omega) | assumption | exact ints_1 _ | exact rfl | (simp [ints]; done))) | (simp [ints]; done))); clear hN N; apply Ops_eq; (simp only [go_sem]; rfl))
 repeat (first | ((with_reducible first | refine O1 rfl (fun N hN => ?_) | refine O2 rfl rfl rfl (fun N hN => ?_)); simp only [go_sem]; (repeat (refine ⟨by first | omega | ((try simp only [go_sem, List.length_append, lim, lim2]) <;> omega) | assumption | exact ints_1 _ | exact rfl | (simp [ints]; done), ?_⟩)); (first | refine hN _ ?_ | (intro _ _; refine hN _ ?_)); clear hN N) | with_reducible (first | apply Ea | apply Eb | apply Ec | apply Ed | apply Ee | apply Ef | apply Eg | apply Eh | apply Ei | apply Ej | apply Ek | apply El | apply Em | refine En rfl ?_ | apply Eo | apply Ep | apply Eq1 | apply Er | apply Es) | ((with_reducible first | refine O3 rfl rfl rfl rfl ?_ | refine O4 rfl rfl rfl ?_); simp only [go_sem]))
 ((with_reducible first | refine O1 rfl (fun N hN => ?_) | refine O2 rfl rfl rfl (fun N hN => ?_)); simp only [go_sem]; refine vCall.pu _ _ (h1) ?ha17 (hN _ ?hk17); (case ha17 => (first | (simp only [go_sem]; done) | (simp only [go_sem] <;> (first | omega | ((try simp only [go_sem, List.length_append, lim, lim2]) <;> omega) | assumption | exact ints_1 _ | exact rfl | (simp [ints]; done))) | (simp [ints]; done))); clear hN N; apply Ops_eq; (simp only [go_sem]; rfl))
 repeat (first | ((with_reducible first | refine O1 rfl (fun N hN => ?_) | refine O2 rfl rfl rfl (fun N hN => ?_)); simp only [go_sem]; (repeat (refine ⟨by first | omega | ((try simp only [go_sem, List.length_append, lim, lim2]) <;> omega) | assumption | exact ints_1 _ | exact rfl | (simp [ints]; done), ?_⟩)); (first | refine hN _ ?_ | (intro _ _; refine hN _ ?_)); clear hN N) | with_reducible (first | apply Ea | apply Eb | apply Ec | apply Ed | apply Ee | apply Ef | apply Eg | apply Eh | apply Ei | apply Ej | apply Ek | apply El | apply Em | refine En rfl ?_ | apply Eo | apply Ep | apply Eq1 | apply Er | apply Es) | ((with_reducible first | refine O3 rfl rfl rfl rfl ?_ | refine O4 rfl rfl rfl ?_); simp only [go_sem]))
 ((with_reducible first | refine O1 rfl (fun N hN => ?_) | refine O2 rfl rfl rfl (fun N hN => ?_)); simp only [go_sem]; refine vCall.pu _ _ (hone) ?ha18 (hN _ ?hk18); (case ha18 => (first | (simp only [go_sem]; done) | (simp only [go_sem] <;> (first | omega | ((try simp only [go_sem, List.length_append, lim, lim2]) <;> omega) | assumption | exact ints_1 _ | exact rfl | (simp [ints]; done))) | (simp [ints]; done))); clear hN N; apply Ops_eq; (simp only [go_sem]; rfl))
 repeat (first | ((with_reducible first | refine O1 rfl (fun N hN => ?_) | refine O2 rfl rfl rfl (fun N hN => ?_)); simp only [go_sem]; (repeat (refine ⟨by first | omega | ((try simp only [go_sem, List.length_append, lim, lim2]) <;> omega) | assumption | exact ints_1 _ | exact rfl | (simp [ints]; done), ?_⟩)); (first | refine hN _ ?_ | (intro _ _; refine hN _ ?_)); clear hN N) | with_reducible (first | apply Ea | apply Eb | apply Ec | apply Ed | apply Ee | apply Ef | apply Eg | apply Eh | apply Ei | apply Ej | apply Ek | apply El | apply Em | refine En rfl ?_ | apply Eo | apply Ep | apply Eq1 | apply Er | apply Es) | ((with_reducible first | refine O3 rfl rfl rfl rfl ?_ | refine O4 rfl rfl rfl ?_); simp only [go_sem]))
 ((with_reducible first | refine O1 rfl (fun N hN => ?_) | refine O2 rfl rfl rfl (fun N hN => ?_)); simp only [go_sem]; refine vCall.pu _ _ (h2) ?ha19 (hN _ ?hk19); (case ha19 => (first | (simp only [go_sem]; done) | (simp only [go_sem] <;> (first | omega | ((try simp only [go_sem, List.length_append, lim, lim2]) <;> omega) | assumption | exact ints_1 _ | exact rfl | (simp [ints]; done))) | (simp [ints]; done))); clear hN N; apply Ops_eq; (simp only [go_sem]; rfl))
 repeat (first | ((with_reducible first | refine O1 rfl (fun N hN => ?_) | refine O2 rfl rfl rfl (fun N hN => ?_)); simp only [go_sem]; (repeat (refine ⟨by first | omega | ((try simp only [go_sem, List.length_append, lim, lim2]) <;> omega) | assumption | exact ints_1 _ | exact rfl | (simp [ints]; done), ?_⟩)); (first | refine hN _ ?_ | (intro _ _; refine hN _ ?_)); clear hN N) | with_reducible (first | apply Ea | apply Eb | apply Ec | apply Ed | apply Ee | apply Ef | apply Eg | apply Eh | apply Ei | apply Ej | apply Ek | apply El | apply Em | refine En rfl ?_ | apply Eo | apply Ep | apply Eq1 | apply Er | apply Es) | ((with_reducible first | refine O3 rfl rfl rfl rfl ?_ | refine O4 rfl rfl rfl ?_); simp only [go_sem]))
 ((with_reducible first | refine O1 rfl (fun N hN => ?_) | refine O2 rfl rfl rfl (fun N hN => ?_)); simp only [go_sem, turn0]; refine vCall.sc _ _ (turn_spec 0) ?ha20 rfl (hN _ ?hk20); (case ha20 => (first | (simp only [go_sem, turn0]; done) | (simp only [go_sem, turn0] <;> (first | omega | ((try simp only [go_sem, turn0, List.length_append, lim, lim2]) <;> omega) | assumption | exact ints_1 _ | exact rfl | (simp [ints]; done))) | (simp [ints]; done))); clear hN N; apply Ops_eq; (simp only [go_sem, turn0]; rfl))
 repeat (first | ((with_reducible first | refine O1 rfl (fun N hN => ?_) | refine O2 rfl rfl rfl (fun N hN => ?_)); simp only [go_sem, turn0]; (repeat (refine ⟨by first | omega | ((try simp only [go_sem, turn0, List.length_append, lim, lim2]) <;> omega) | assumption | exact ints_1 _ | exact rfl | (simp [ints]; done), ?_⟩)); (first | refine hN _ ?_ | (intro _ _; refine hN _ ?_)); clear hN N) | with_reducible (first | apply Ea | apply Eb | apply Ec | apply Ed | apply Ee | apply Ef | apply Eg | apply Eh | apply Ei | apply Ej | apply Ek | apply El | apply Em | refine En rfl ?_ | apply Eo | apply Ep | apply Eq1 | apply Er | apply Es) | ((with_reducible first | refine O3 rfl rfl rfl rfl ?_ | refine O4 rfl rfl rfl ?_); simp only [go_sem, turn0]))
 (refine ⟨by simp, ?_⟩; simp only [go_sem, Try.results42])
theorem rw_set {l : List (List Int)} {k i : Nat} {x : List Int} (hi : i < l.length) : rw' (l.set k x) i = if k = i then x else rw' l i := by
 rw [rw_at (by simpa using hi), List.getElem_set]; split
 ·rfl
 ·rw [rw_at hi]
def ringL (r : Rn) (k : Nat) : List Int := allR (rg r.rs k).1 (rg r.rs k).2
def wantL (r : Rn) (k n : Nat) (x : Int) : List Int := if turnB x = true then rw' r.sh n ++ ringL r k else ringL r k ++ rw' r.sh n
/-- What stays. -/
structure Stays (r Y : Rn) (k n : Nat) : Prop where
 t : Y.t = r.t
 size : Y.size = r.size
 on : Y.on = r.on
 rl : Y.rs.length = r.rs.length
 sl : Y.sh.length = r.sh.length
 rg : ∀ q, q < r.rs.length → q ≠ k → rg Y.rs q = rg r.rs q
 rw : ∀ m, m < r.sh.length → m ≠ n → rw' Y.sh m = rw' r.sh m
theorem stays_refl (r : Rn) (k n : Nat) : Stays r r k n := ⟨rfl, rfl, rfl, rfl, rfl, fun _ _ _ => rfl, fun _ _ _ => rfl⟩
theorem stays_ring (r : Rn) (k n : Nat) (y : Int × List Int) : Stays r ⟨r.t, r.size, r.rs.set k y, r.sh, r.on⟩ k n :=
 ⟨rfl, rfl, rfl, by simp, rfl, fun q hq hne => by show rg (r.rs.set k y) q = _; rw [rg_set hq, if_neg (fun e => hne e.symm)], fun _ _ _ => rfl⟩
theorem stays_row (r : Rn) (k n : Nat) (y : List Int) : Stays r ⟨r.t, r.size, r.rs, r.sh.set n y, r.on⟩ k n :=
 ⟨rfl, rfl, rfl, rfl, by simp, fun _ _ _ => rfl, fun q hq hne => by show rw' (r.sh.set n y) q = _; rw [rw_set hq, if_neg (fun e => hne e.symm)]⟩
theorem loc_stays (r : Rn) (k n : Nat) (x : Int) : Stays r (xlocF r k n x).1 k n := by
 unfold xlocF
 split
 ·exact stays_row r k n _
 ·split
  ·exact stays_ring r k n _
  ·split
   ·exact stays_ring r k n _
   ·exact stays_refl r k n
theorem ring_after {r : Rn} {k : Nat} (hk0 : k < r.rs.length) {y : Int × List Int} : ringL ⟨r.t, r.size, r.rs.set k y, r.sh, r.on⟩ k = allR y.1 y.2 := by
 unfold ringL
 show allR (rg (r.rs.set k y) k).1 (rg (r.rs.set k y) k).2 = _
 rw [rg_set hk0, if_pos rfl]
theorem row_after {r : Rn} {n : Nat} (hn : n < r.sh.length) {y : List Int} : rw' (r.sh.set n y) n = y := by rw [rw_set hn, if_pos rfl]
theorem ringL_nil (r : Rn) (k : Nat) : ringL r k = [] ↔ (rg r.rs k).1 = 0 ∧ (rg r.rs k).2 = [] := by
 unfold ringL allR; split
 ·rename_i h; simp [h]
 ·rename_i h; simp [h]
/-- Who is found is the first one wanted. -/
theorem loc_want {r : Rn} {k n : Nat} (hk0 : k < r.rs.length) (hn : n < r.sh.length) (x : Int) :
  (xlocF r k n x).2.1 = (wantL r k n x).headD 0 ∧ wantL (xlocF r k n x).1 k n x = (wantL r k n x).drop 1 := by
 have hnil := ringL_nil r k
 by_cases hc : rw' r.sh n ≠ [] ∧ (turnB x = true ∨ (rg r.rs k).1 = 0 ∧ (rg r.rs k).2 = [])
 ·have he : xlocF r k n x = (rowR r n, rowG r n, 3) := by unfold xlocF; rw [if_pos hc]
  have h1 : wantL r k n x = rw' r.sh n ++ (if turnB x = true then ringL r k else []) := by
   unfold wantL
   rcases hc.2 with h | h
   ·rw [if_pos h, if_pos h]
   ·rw [hnil.2 h]; split <;> simp
  have h2 : wantL (rowR r n) k n x = (rw' r.sh n).drop 1 ++ (if turnB x = true then ringL r k else []) := by
   have e1 : rw' (rowR r n).sh n = (rw' r.sh n).drop 1 := row_after hn
   have e2 : ringL (rowR r n) k = ringL r k := rfl
   unfold wantL
   rw [e1, e2]
   rcases hc.2 with h | h
   ·rw [if_pos h, if_pos h]
   ·rw [hnil.2 h]; split <;> simp
  rw [he]
  show rowG r n = _ ∧ wantL (rowR r n) k n x = _
  rw [h1, h2]
  unfold rowG
  cases hr : rw' r.sh n with
  | nil => exact absurd hr hc.1
  | cons a l => simp
 ·have hw : wantL r k n x = ringL r k ++ (if turnB x = true then [] else rw' r.sh n) := by
   unfold wantL
   by_cases ht : turnB x = true
   ·have hr : rw' r.sh n = [] := Classical.byContradiction fun e => hc ⟨e, .inl ht⟩
    rw [if_pos ht, if_pos ht, hr]; simp
   ·rw [if_neg ht, if_neg ht]
  have hw2 : ∀ y, wantL ⟨r.t, r.size, r.rs.set k y, r.sh, r.on⟩ k n x = allR y.1 y.2 ++ (if turnB x = true then [] else rw' r.sh n) := by
   intro y
   unfold wantL
   rw [ring_after hk0]
   show (if turnB x = true then rw' r.sh n ++ allR y.1 y.2 else allR y.1 y.2 ++ rw' r.sh n) = _
   by_cases ht : turnB x = true
   ·have hr : rw' r.sh n = [] := Classical.byContradiction fun e => hc ⟨e, .inl ht⟩
    rw [if_pos ht, if_pos ht, hr]; simp
   ·rw [if_neg ht, if_neg ht]
  by_cases h1 : (rg r.rs k).1 = 0
  ·by_cases h2 : (rg r.rs k).2 = []
   ·have he : xlocF r k n x = (r, 0, 0) := by unfold xlocF; rw [if_neg hc, if_neg (fun e => e h1), if_neg (fun e => e h2)]
    have hr : (if turnB x = true then [] else rw' r.sh n) = [] := by
     split
     ·rfl
     ·exact Classical.byContradiction fun e => hc ⟨e, .inr ⟨h1, h2⟩⟩
    rw [he]
    show (0 : Int) = _ ∧ wantL r k n x = _
    rw [hw, hnil.2 ⟨h1, h2⟩, hr]; simp
   ·have he : xlocF r k n x = (⟨r.t, r.size, r.rs.set k (0, (rg r.rs k).2.drop 1), r.sh, r.on⟩, (rg r.rs k).2.headD 0, 2) := by unfold xlocF; rw [if_neg hc, if_neg (fun e => e h1), if_pos h2]
    rw [he]
    show (rg r.rs k).2.headD 0 = _ ∧ wantL _ k n x = _
    rw [hw, hw2]
    unfold ringL allR
    rw [if_pos h1, if_pos rfl]
    cases hl : (rg r.rs k).2 with
    | nil => exact absurd hl h2
    | cons a l => simp
  ·have he : xlocF r k n x = (⟨r.t, r.size, r.rs.set k (0, (rg r.rs k).2), r.sh, r.on⟩, (rg r.rs k).1, 1) := by unfold xlocF; rw [if_neg hc, if_pos h1]
   rw [he]
   show (rg r.rs k).1 = _ ∧ wantL _ k n x = _
   rw [hw, hw2]
   unfold ringL allR
   rw [if_neg h1, if_pos rfl]
   simp
theorem want_pos {r : Rn} (hm : mayN r = true) {k n : Nat} (hk0 : k < r.rs.length) (hn : n < r.sh.length) (x : Int) : ∀ y ∈ wantL r k n x, 0 < y := by
 intro y hy
 have : y ∈ ringL r k ∨ y ∈ rw' r.sh n := by
  unfold wantL at hy; split at hy <;> rcases List.mem_append.1 hy with h | h
  ·exact .inr h
  ·exact .inl h
  ·exact .inl h
  ·exact .inr h
 rcases this with h | h
 ·exact pos_ring hm hk0 y h
 ·exact pos_row hm hn y h
theorem loc_zero {r : Rn} (hm : mayN r = true) {k n : Nat} (hk0 : k < r.rs.length) (hn : n < r.sh.length) (x : Int) : (xlocF r k n x).2.1 = 0 ↔ wantL r k n x = [] := by
 rw [(loc_want hk0 hn x).1]
 cases h : wantL r k n x with
 | nil => simp
 | cons a l =>
  have := want_pos hm hk0 hn x a (by rw [h]; simp)
  simp only [List.headD_cons, reduceCtorEq, iff_false]; omega
theorem loc_all {r : Rn} {k n : Nat} (hk0 : k < r.rs.length) (hn : n < r.sh.length) (x : Int) (hz : wantL r k n x ≠ []) : (allN r).Perm ((xlocF r k n x).2.1 :: allN (xlocF r k n x).1) := by
 rw [List.perm_iff_count]
 intro a
 have hw := loc_want hk0 hn x
 have h1 := set_count (fun x => allR x.1 x.2) a r.rs k
 have h2 := set_count id a r.sh n
 have hst := loc_stays r k n x
 have key : (wantL r k n x).count a = (wantL (xlocF r k n x).1 k n x).count a + [(xlocF r k n x).2.1].count a := by
  rw [hw.2, hw.1]
  cases h : wantL r k n x with
  | nil => exact absurd h hz
  | cons b l => simp [List.count_cons]
 have wc : ∀ Y : Rn, (wantL Y k n x).count a = (ringL Y k).count a + (rw' Y.sh n).count a := by
  intro Y; unfold wantL; split <;> simp only [List.count_append] <;> omega
 rw [wc, wc] at key
 have tot : ∀ Y : Rn, Stays r Y k n → (allN Y).count a + (ringL r k).count a + (rw' r.sh n).count a = (allN r).count a + (ringL Y k).count a + (rw' Y.sh n).count a := by
  intro Y hY
  have e1 : Y.rs = r.rs.set k (rg Y.rs k) := by
   apply List.ext_getElem (by rw [List.length_set]; exact hY.rl)
   intro i hi1 hi2
   rw [List.getElem_set]
   split
   ·rename_i e; subst e; rw [rg_at hi1]
   ·rename_i e
    have := hY.rg i (by rw [← hY.rl]; exact hi1) (fun h => e h.symm)
    rw [rg_at hi1, rg_at (by rw [← hY.rl]; exact hi1)] at this
    exact this
  have e2 : Y.sh = r.sh.set n (rw' Y.sh n) := by
   apply List.ext_getElem (by rw [List.length_set]; exact hY.sl)
   intro i hi1 hi2
   rw [List.getElem_set]
   split
   ·rename_i e; subst e; rw [rw_at hi1]
   ·rename_i e
    have := hY.rw i (by rw [← hY.sl]; exact hi1) (fun h => e h.symm)
    rw [rw_at hi1, rw_at (by rw [← hY.sl]; exact hi1)] at this
    exact this
  have c1 := h1 (rg Y.rs k) hk0
  have c2 := h2 (rw' Y.sh n) hn
  rw [← e1, ← rg_at hk0] at c1
  rw [← e2, ← rw_at hn] at c2
  simp only [List.map_id, id] at c2
  unfold allN ringL
  simp only [flatR_def, List.count_append]
  omega
 have := tot _ hst
 rw [List.count_cons]
 have h5 : [(xlocF r k n x).2.1].count a = if (xlocF r k n x).2.1 == a then 1 else 0 := by simp [List.count_cons]
 omega
theorem mayN_stays {r Y : Rn} {k n : Nat} (hm : mayN r = true) (hk0 : k < r.rs.length) (hs : Stays r Y k n) (hb : mayB (allN Y) = true) (hl : (rg Y.rs k).2.length ≤ (rg r.rs k).2.length) (ho : has r.on k = true) : mayN Y = true := by
 have hw : wholeB Y = wholeB r := by unfold wholeB; rw [hs.t, hs.size, hs.on, hs.rl, hs.sl]
 unfold mayN at hm ⊢
 simp only [Bool.and_eq_true, List.all_eq_true, List.mem_range] at hm ⊢
 refine ⟨⟨by rw [hw]; exact hm.1.1, fun i hi => ?_⟩, hb⟩
 have hi' : i < r.rs.length := by rw [← hs.rl]; exact hi
 have hr := hm.1.2 i hi'
 have hs1 := mayB_sub (ring_sub (r := Y) hi) hb
 unfold ringB at hr ⊢
 unfold mayR at hr ⊢
 rw [hs1, hs.on, hs.size]
 simp only [Bool.and_eq_true, decide_eq_true_eq, Bool.true_and, Bool.or_eq_true] at hr ⊢
 by_cases hki : i = k
 ·subst hki
  exact ⟨by have := hr.1.2; omega, Or.inl ho⟩
 ·rw [hs.rg i hi' hki]; exact ⟨hr.1.2, hr.2⟩
theorem loc_may {r : Rn} {k n : Nat} (hm : mayN r = true) (hk0 : k < r.rs.length) (hn : n < r.sh.length) (x : Int) (ho : has r.on k = true) : mayN (xlocF r k n x).1 = true := by
 by_cases hz : wantL r k n x = []
 ·have h0 := (loc_zero hm hk0 hn x).2 hz
  have : xlocF r k n x = (r, 0, 0) := by
   have h1 : rw' r.sh n = [] ∧ ringL r k = [] := by
    unfold wantL at hz; split at hz <;> simp only [List.append_eq_nil_iff] at hz
    ·exact hz
    ·exact ⟨hz.2, hz.1⟩
   have h2 := (ringL_nil r k).1 h1.2
   unfold xlocF
   rw [if_neg (fun e => e.1 h1.1), if_neg (fun e => e h2.1), if_neg (fun e => e h2.2)]
  rw [this]; exact hm
 ·have hp := loc_all hk0 hn x hz
  have hb : mayB (allN (xlocF r k n x).1) = true := mayB_sub (List.sublist_cons_self _ _) (mayB_perm hp (mayN_tree hm).2.2.2.2.2.2.2.2)
  refine mayN_stays hm hk0 (loc_stays r k n x) hb ?_ ho
  unfold xlocF
  split
  ·exact Nat.le_refl _
  ·split
   ·show (rg (r.rs.set k _) k).2.length ≤ _
    rw [rg_set hk0, if_pos rfl]; exact Nat.le_refl _
   ·split
    ·show (rg (r.rs.set k _) k).2.length ≤ _
     rw [rg_set hk0, if_pos rfl]; simp
    ·exact Nat.le_refl _

end Go.Proofs.YtmnpiofabgfcmaaT
