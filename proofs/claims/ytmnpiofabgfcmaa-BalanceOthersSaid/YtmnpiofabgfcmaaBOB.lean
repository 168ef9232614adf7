/- Walks over the program's functions, on values without memory, and what they come to. No condition. -/
import Derived.Test.YtmnpiofabgfcmaaTw22
import Derived.Test.YtmnpiofabgfcmaaBase
import Derived.Test.YtmnpiofabgfcmaaPB
import Derived.Test.YtmnpiofabgfcmaaBOA
set_option linter.unusedVariables false
set_option linter.unusedSimpArgs false
namespace Go.Proofs.YtmnpiofabgfcmaaT
open Go Go.Proofs Go.RowKit Go.Proofs.YtmnpiofabgfcmaaT.Ty
attribute [local go_sem] vOp vCut eqv put hset ev vNew enterSt AV.solid AV.cells AV.leaf AV.pure AV.pures AV.scalar AV.scalars ofVal ofLeaf vLoad takeA vStore vBin vBuiltin elems vSlice intAt fillA fillR splice dense fills frz frzL names namesL fix frzH frzHL le leL vRes oneRes
attribute [local go_sem] c1 s1 a1 b1 z1 o1 i1 c2 s2 a2 b2 z2 o2 i2 u2 c3 s3 a3 b3 z3 o3 i3 u3 c4 s4 a4 b4 z4 o4 i4 u4 c5 s5 a5 b5 z5 o5 i5 u5 c6 s6 a6 b6 z6 o6 i6 u6 c7 s7 a7 b7 z7 o7 f7_0 f7_1 f7_2 f7_3 fo7 r7 i7 c8 s8 a8 b8 z8 o8 f8_0 f8_1 f8_2 f8_3 fo8 r8 i8 c9 s9 a9 b9 z9 o9 i9 u9 c10 s10 a10 b10 z10 o10 i10 u10 c11 s11 a11 b11 z11 o11 i11 u11 c12 s12 a12 b12 z12 o12 i12 u12 c13 s13 a13 b13 z13 o13 f13_0 f13_1 fo13 r13 i13 c14 s14 a14 b14 z14 o14 f14_0 f14_1 fo14 r14 i14 c15 s15 a15 b15 z15 o15 p15 i15 c16 s16 a16 b16 z16 o16 p16 i16 c17 s17 a17 b17 z17 o17 p17 i17 c18 s18 a18 b18 z18 o18 f18_0 fo18 r18 i18 c19 s19 a19 b19 z19 o19 f19_0 fo19 r19 i19 c21 s21 a21 b21 z21 o21 i21 u21 c22 s22 a22 b22 z22 o22 e22 i22 c23 s23 a23 b23 z23 o23 i23 c24 s24 a24 b24 z24 o24 e24 i24 c25 s25 a25 b25 z25 o25 e25 i25 c26 s26 a26 b26 z26 o26 i26 u26 c27 s27 a27 b27 z27 o27 i27 u27 c28 s28 a28 b28 z28 o28 f28_0 f28_1 f28_2 f28_3 f28_4 fo28 r28 i28 c29 s29 a29 b29 z29 o29 f29_0 f29_1 f29_2 f29_3 f29_4 fo29 r29 i29 c30 s30 a30 b30 z30 o30 i30 u30 c32 s32 a32 b32 z32 o32 i32 c33 s33 a33 b33 z33 o33 e33 i33 c34 s34 a34 b34 z34 o34 f34_0 f34_1 f34_2 f34_3 f34_4 fo34 r34 i34 c35 s35 a35 b35 z35 o35 f35_0 f35_1 f35_2 f35_3 f35_4 fo35 r35 i35 c37 s37 a37 b37 z37 o37 i37 c38 s38 a38 b38 z38 o38 i38 c39 s39 a39 b39 z39 o39 i39 c40 s40 a40 b40 z40 o40 i40 c41 s41 a41 b41 z41 o41 e41 i41 c42 s42 a42 b42 z42 o42 i42 c43 s43 a43 b43 z43 o43 i43 c44 s44 a44 b44 z44 o44 i44 c45 s45 a45 b45 z45 o45 f45_0 f45_1 fo45 r45 i45 c46 s46 a46 b46 z46 o46 f46_0 f46_1 fo46 r46 i46 c48 s48 a48 b48 z48 o48 i48 c49 s49 a49 b49 z49 o49 i49 c50 s50 a50 b50 z50 o50 i50 c51 s51 a51 b51 z51 o51 i51 c52 s52 a52 b52 z52 o52 i52 c53 s53 a53 b53 z53 o53 i53 c54 s54 a54 b54 z54 o54 i54 c55 s55 a55 b55 z55 o55 i55 c56 s56 a56 b56 z56 o56 i56 c57 s57 a57 b57 z57 o57 i57 c59 s59 a59 b59 z59 o59 i59 c61 s61 a61 b61 z61 o61 i61 c62 s62 a62 b62 z62 o62 i62 c63 s63 a63 b63 z63 o63 i63 c64 s64 a64 b64 z64 o64 i64 u64 c65 s65 a65 b65 z65 o65 i65 c67 s67 a67 b67 z67 o67 i67 c68 s68 a68 b68 z68 o68 i68 c69 s69 a69 b69 z69 o69 i69 c70 s70 a70 b70 z70 o70 i70 c71 s71 a71 b71 z71 o71 i71 c72 s72 a72 b72 z72 o72 f72_0 f72_1 q72 fo72 r72 i72 c73 s73 a73 b73 z73 o73 f73_0 f73_1 q73 fo73 r73 i73 c74 s74 a74 b74 z74 o74 i74 c75 s75 a75 b75 z75 o75 i75 c76 s76 a76 b76 z76 o76 i76 c77 s77 a77 b77 z77 o77 i77 c78 s78 a78 b78 z78 o78 i78 c79 s79 a79 b79 z79 o79 i79 c80 s80 a80 b80 z80 o80 f80_0 f80_1 fo80 r80 i80 c81 s81 a81 b81 z81 o81 i81 c82 s82 a82 b82 z82 o82 i82 c83 s83 a83 b83 z83 o83 i83 c84 s84 a84 b84 z84 o84 i84 c85 s85 a85 b85 z85 o85 i85 c87 s87 a87 b87 z87 o87 i87 c88 s88 a88 b88 z88 o88 i88 c89 s89 a89 b89 z89 o89 i89 c90 s90 a90 b90 z90 o90 i90 c91 s91 a91 b91 z91 o91 i91 c92 s92 a92 b92 z92 o92 i92 c93 s93 a93 b93 z93 o93 i93 c94 s94 a94 b94 z94 o94 i94 c95 s95 a95 b95 z95 o95 i95 c97 s97 a97 b97 z97 o97 i97 c98 s98 a98 b98 z98 o98 i98 c99 s99 a99 b99 z99 o99 i99 c100 s100 a100 b100 z100 o100 f100_0 f100_1 fo100 r100 i100 c101 s101 a101 b101 z101 o101 f101_0 f101_1 fo101 r101 i101 c102 s102 a102 b102 z102 o102 i102 c103 s103 a103 b103 z103 o103 i103 c104 s104 a104 b104 z104 o104 i104 c105 s105 a105 b105 z105 o105 i105 c106 s106 a106 b106 z106 o106 i106 c107 s107 a107 b107 z107 o107 e107 i107 c108 s108 a108 b108 z108 o108 i108 c109 s109 a109 b109 z109 o109 i109 c110 s110 a110 b110 z110 o110 i110 c111 s111 a111 b111 z111 o111 i111 c112 s112 a112 b112 z112 o112 i112 c113 s113 a113 b113 z113 o113 i113 c114 s114 a114 b114 z114 o114 i114 c115 s115 a115 b115 z115 o115 i115 c116 s116 a116 b116 z116 o116 i116 c117 s117 a117 b117 z117 o117 i117 c118 s118 a118 b118 z118 o118 p118 i118 c119 s119 a119 b119 z119 o119 f119_0 f119_1 f119_2 f119_3 fo119 r119 i119 c120 s120 a120 b120 z120 o120 f120_0 f120_1 f120_2 f120_3 fo120 r120 i120 c121 s121 a121 b121 z121 o121 i121 c122 s122 a122 b122 z122 o122 e122 i122 c124 s124 a124 b124 z124 o124 i124 c125 s125 a125 b125 z125 o125 i125 c126 s126 a126 b126 z126 o126 i126 c127 s127 a127 b127 z127 o127 f127_0 f127_1 f127_2 f127_3 fo127 r127 i127 c128 s128 a128 b128 z128 o128 f128_0 f128_1 f128_2 f128_3 fo128 r128 i128 c132 s132 a132 b132 z132 o132 i132 u132 c133 s133 a133 b133 z133 o133 i133 u133 c134 s134 a134 b134 z134 o134 i134 u134 c135 s135 a135 b135 z135 o135 i135 c136 s136 a136 b136 z136 o136 p136 i136 c137 s137 a137 b137 z137 o137 i137 u137 c138 s138 a138 b138 z138 o138 i138 u138 c139 s139 a139 b139 z139 o139 f139_0 f139_1 f139_2 f139_3 f139_4 f139_5 f139_6 f139_7 f139_8 f139_9 f139_10 fo139 r139 i139 c140 s140 a140 b140 z140 o140 f140_0 f140_1 f140_2 f140_3 f140_4 f140_5 f140_6 f140_7 f140_8 f140_9 f140_10 fo140 r140 i140
attribute [local go_sem] List.replicate List.length_cons List.length_nil Nat.reduceAdd Nat.reduceSub List.cons_append List.nil_append List.append_nil List.set_cons_succ List.set_cons_zero List.getD_cons_succ List.getD_cons_zero Nat.zero_add List.getElem?_cons_succ List.getElem?_cons_zero List.foldl_cons List.foldl_nil Option.map_some Option.map_none List.drop_succ_cons List.drop_zero List.take_succ_cons List.take_zero List.map_cons List.map_nil List.all_cons List.all_nil  Bool.and_true Bool.true_and imp_self Nat.add_zero beq_self_eq_true Option.isSome_some true_and and_true if_true if_false ints_len
set_option linter.unusedSimpArgs false
set_option maxRecDepth 100000
set_option maxHeartbeats 4000000
attribute [local go_sem] ints_nil ints_take ints_drop ints_cat ints_snoc ints_cons List.length_take List.length_drop List.drop_zero decide_true decide_false List.getElem?_toArray Option.bind_some Bool.false_eq_true Bool.true_eq_false Bool.not_true Bool.not_false Int.toNat_natCast Int.cast_ofNat_Int forget swap grow growIn opt_or opt_orn opt_and beq_true beq_false rdAll rdOp rdTmp agree Option.getD_some Option.getD_none List.flatten_cons List.flatten_nil ownCut mp mpL mpO vl vlL matchH freshH setAll nodupB enterH List.contains_cons List.contains_nil Nat.reduceMul Nat.reduceLT Nat.reduceLeDiff Nat.reduceEqDiff
def vts (l : List (Int × Int)) : List (List AV) := l.map fun m => [.int .i64 m.1, .int .i64 m.2]
theorem vts_len (l : List (Int × Int)) : (vts l).length = l.length := by simp [vts]
theorem vts_2 (l : List (Int × Int)) : ∀ y ∈ vts l, y.length = 2 := by
 intro y hy
 simp only [vts, List.mem_map] at hy
 obtain ⟨m, _, rfl⟩ := hy
 rfl
theorem vts_get (l : List (Int × Int)) (n : Nat) (h : n < l.length) : (vts l).getD n [] = [.int .i64 (l.getD n (0, 0)).1, .int .i64 (l.getD n (0, 0)).2] := by
 simp [vts, List.getD_eq_getElem?_getD, List.getElem?_eq_getElem h]
theorem vts_take (l : List (Int × Int)) (k : Nat) : (vts l).take k = vts (l.take k) := by simp [vts]
theorem vts_drop (l : List (Int × Int)) (k : Nat) : (vts l).drop k = vts (l.drop k) := by simp [vts]
theorem vts_cat (l m : List (Int × Int)) : vts l ++ vts m = vts (l ++ m) := by simp [vts]
theorem vts_snoc (l : List (Int × Int)) (g n : Int) : vts l ++ [[.int .i64 g, .int .i64 n]] = vts (l ++ [(g, n)]) := by simp [vts]
attribute [local go_sem] vts_len vts_take vts_drop vts_cat vts_snoc
/-- The indexes at which p holds. -/
def idxs (n : Nat) (p : Nat → Bool) : List Int := ((List.range n).filter p).map fun (i : Nat) => (i : Int)
theorem idxs_succ (n : Nat) (p : Nat → Bool) : idxs (n + 1) p = idxs n p ++ (if p n = true then [(n : Int)] else []) := by
 unfold idxs
 rw [List.range_succ, List.filter_append, List.map_append]
 by_cases h : p n = true <;> simp [h]
theorem idxs_len (n : Nat) (p : Nat → Bool) : (idxs n p).length ≤ n := by
 unfold idxs; rw [List.length_map]; exact Nat.le_trans (List.length_filter_le _ _) (by simp)
theorem idxs_mem (n : Nat) (p : Nat → Bool) (x : Int) : x ∈ idxs n p ↔ ∃ i : Nat, x = i ∧ i < n ∧ p i = true := by
 unfold idxs
 simp only [List.mem_map, List.mem_filter, List.mem_range]
 constructor
 ·rintro ⟨i, ⟨h1, h2⟩, rfl⟩; exact ⟨i, rfl, h1, h2⟩
 ·rintro ⟨i, rfl, h1, h2⟩; exact ⟨i, ⟨h1, h2⟩, rfl⟩
def par (t : List (Int × Int)) (i : Nat) : Int := (t.getD i (0, 0)).1
def lev (t : List (Int × Int)) (i : Nat) : Int := (t.getD i (0, 0)).2
def kidsL (t : List (Int × Int)) (v : Int) : List Int := idxs t.length fun i => decide (par t i = v)
def levL (t : List (Int × Int)) (v : Int) : List Int := idxs t.length fun i => decide (lev t i = v)
theorem kids_spec (f : Bool) (t : List (Int × Int)) (v : Int) (hl : t.length ≤ 1000000) : Ret Try.prog 106 [.sl f (vts t), .int .i64 v] (.sl false (ints (kidsL t v))) := by
 have h2 := vts_2 t
 refine Ret_of_body Try.func106 (by kernel_rfl) rfl ?_; rw [Try.ntmps106]
 repeat (first | ((with_reducible first | refine O1 rfl (fun N hN => ?_) | refine O2 rfl rfl rfl (fun N hN => ?_)); simp only [go_sem]; (try refine Or.inl ?_); (repeat (refine ⟨by first | omega | ((try simp only [go_sem, List.length_append, lim, lim2]) <;> omega) | assumption | exact ints_1 _ | exact rfl | (simp [ints]; done), ?_⟩)); (first | refine hN _ ?_ | (intro _ _; refine hN _ ?_)); clear hN N) | with_reducible (first | apply Ea | apply Eb | apply Ec | apply Ed | apply Ee | apply Ef | apply Eg | apply Eh | apply Ei | apply Ej | apply Ek | apply El | apply Em | refine En rfl ?_ | apply Eo | apply Ep | apply Eq1 | apply Er | apply Es) | ((with_reducible first | refine O3 rfl rfl rfl rfl ?_ | refine O4 rfl rfl rfl ?_); simp only [go_sem]))
 refine TW_sub (Sub_grow (t := 5) (id := 5) 3 1 rfl rfl (Nat.zero_le _)) ?_
 simp only [go_sem]
 have hz : [] = idxs 0 fun i => decide (par t i = v) := rfl
 refine TW_sub (Sub_blank [false, false, true, true, false, false, true, true, false, false, true, true, true, true, true, true, true, true, true, true, true, true, true, true]) ?_
 refine TW_loop (fun fuel st => ∃ (i : Nat) (u : List Int), (i ≤ t.length) ∧ (u = idxs i fun i => decide (par t i = v)) ∧  fuel = t.length - i ∧ st = ⟨[.sl f (vts t), .int .i64 v, .junk, .junk, .nils, .bsl 5, .junk, .junk, .int .i64 (↑t.length : Int), .int .i64 i, .junk, .junk, .junk, .junk, .junk, .junk, .junk, .junk, .junk, .junk, .junk, .junk, .junk, .junk, .junk], [.un, .un, .un, .un, .un, .arr 3 1 (ints u), .un, .un, .un, .un, .un, .un, .un, .un, .un, .un, .un, .un, .un, .un, .un, .un, .un, .un, .un], 0⟩) (n := _) ⟨0, [], by first | omega | (simp; done) | (simp; omega) | assumption, by first | omega | (simp; done) | (simp; omega) | assumption, rfl, rfl⟩ ?_
 rintro fuel st ⟨i, u, hi, hu, rfl, rfl⟩
 repeat (first | ((with_reducible first | refine O1 rfl (fun N hN => ?_) | refine O2 rfl rfl rfl (fun N hN => ?_)); simp only [go_sem]; (try refine Or.inl ?_); (repeat (refine ⟨by first | omega | ((try simp only [go_sem, List.length_append, lim, lim2]) <;> omega) | assumption | exact ints_1 _ | exact rfl | (simp [ints]; done), ?_⟩)); (first | refine hN _ ?_ | (intro _ _; refine hN _ ?_)); clear hN N) | with_reducible (first | apply Ea | apply Eb | apply Ec | apply Ed | apply Ee | apply Ef | apply Eg | apply Eh | apply Ei | apply Ej | apply Ek | apply El | apply Em | refine En rfl ?_ | apply Eo | apply Ep | apply Eq1 | apply Er | apply Es) | ((with_reducible first | refine O3 rfl rfl rfl rfl ?_ | refine O4 rfl rfl rfl ?_); simp only [go_sem]))
 refine TW_cond rfl (fun hc => ?_) (fun hc => ?_)
 ·have hlt : i < t.length := by simpa using hc
  have hg := vts_get t i hlt
  have hw := wrap_i64 (n := (i : Int) + 1) (by omega) (by omega)
  have hul := idxs_len i fun i => decide (par t i = v)
  rw [← hu] at hul
  have hs := idxs_succ i fun i => decide (par t i = v)
  rw [← hu] at hs
  repeat (first | ((with_reducible first | refine O1 rfl (fun N hN => ?_) | refine O2 rfl rfl rfl (fun N hN => ?_)); simp only [go_sem, hg]; (try refine Or.inl ?_); (repeat (refine ⟨by first | omega | ((try simp only [go_sem, hg, List.length_append, lim, lim2]) <;> omega) | assumption | exact ints_1 _ | exact rfl | (simp [ints]; done), ?_⟩)); (first | refine hN _ ?_ | (intro _ _; refine hN _ ?_)); clear hN N) | with_reducible (first | apply Ea | apply Eb | apply Ec | apply Ed | apply Ee | apply Ef | apply Eg | apply Eh | apply Ei | apply Ej | apply Ek | apply El | apply Em | refine En rfl ?_ | apply Eo | apply Ep | apply Eq1 | apply Er | apply Es) | ((with_reducible first | refine O3 rfl rfl rfl rfl ?_ | refine O4 rfl rfl rfl ?_); simp only [go_sem, hg]))
  refine TW_cond rfl (fun hc => ?_) (fun hc => ?_)
  ·repeat (first | ((with_reducible first | refine O1 rfl (fun N hN => ?_) | refine O2 rfl rfl rfl (fun N hN => ?_)); simp only [go_sem, hw]; (try refine Or.inl ?_); (repeat (refine ⟨by first | omega | ((try simp only [go_sem, hw, List.length_append, lim, lim2]) <;> omega) | assumption | exact ints_1 _ | exact rfl | (simp [ints]; done), ?_⟩)); (first | refine hN _ ?_ | (intro _ _; refine hN _ ?_)); clear hN N) | with_reducible (first | apply Ea | apply Eb | apply Ec | apply Ed | apply Ee | apply Ef | apply Eg | apply Eh | apply Ei | apply Ej | apply Ek | apply El | apply Em | refine En rfl ?_ | apply Eo | apply Ep | apply Eq1 | apply Er | apply Es) | ((with_reducible first | refine O3 rfl rfl rfl rfl ?_ | refine O4 rfl rfl rfl ?_); simp only [go_sem, hw]))
   (refine ⟨(fun (i : Nat) (u : List Int) => t.length - i) (i + 1) ( u ++ [(i : Int)]), _, ?hm, ?hI, (Sub.trans (Sub_swap 5 22 (by first | (simp; done) | (simp [swap]; done)) (by first | (simp; done) | (simp [swap]; done)) (Nat.le_of_ble_eq_true rfl) (Nat.le_of_ble_eq_true rfl)) (Sub.trans (Sub_forget [21, 22] rfl) (Sub_blank [false, false, true, true, false, false, true, true, false, false, true, true, true, true, true, true, true, true, true, true, true, true, true, true])))⟩; (case hm => (first | omega | (simp only; omega) | (simp only [List.length_cons]; omega))); (case hI => (simp only [go_sem, forget, swap, scrL, scr, scrH, scrO, renL, ren, renO, sw, blankL, List.contains_cons, List.contains_nil, Nat.reduceBEq, Bool.or_false, Bool.false_or, Bool.or_true, Bool.true_or, Bool.false_eq_true, if_true, if_false] <;> exact ⟨i + 1, u ++ [(i : Int)], by omega, by rw [hs, if_pos (show decide (par t i = v) = true from hc)], rfl, rfl⟩)))
  ·repeat (first | ((with_reducible first | refine O1 rfl (fun N hN => ?_) | refine O2 rfl rfl rfl (fun N hN => ?_)); simp only [go_sem, hw]; (try refine Or.inl ?_); (repeat (refine ⟨by first | omega | ((try simp only [go_sem, hw, List.length_append, lim, lim2]) <;> omega) | assumption | exact ints_1 _ | exact rfl | (simp [ints]; done), ?_⟩)); (first | refine hN _ ?_ | (intro _ _; refine hN _ ?_)); clear hN N) | with_reducible (first | apply Ea | apply Eb | apply Ec | apply Ed | apply Ee | apply Ef | apply Eg | apply Eh | apply Ei | apply Ej | apply Ek | apply El | apply Em | refine En rfl ?_ | apply Eo | apply Ep | apply Eq1 | apply Er | apply Es) | ((with_reducible first | refine O3 rfl rfl rfl rfl ?_ | refine O4 rfl rfl rfl ?_); simp only [go_sem, hw]))
   exact ⟨_, _, by omega, ⟨i + 1, u, by omega, by rw [hs, if_neg (by rw [show decide (par t i = v) = false from hc]; exact Bool.false_ne_true), List.append_nil], rfl, rfl⟩, Sub_blank [false, false, true, true, false, false, true, true, false, false, true, true, true, true, true, true, true, true, true, true, true, true, true, true]⟩
 ·have hi2 : i = t.length := by have : ¬ (i < t.length) := by simpa using hc
                                omega
  repeat (first | ((with_reducible first | refine O1 rfl (fun N hN => ?_) | refine O2 rfl rfl rfl (fun N hN => ?_)); simp only [go_sem]; (try refine Or.inl ?_); (repeat (refine ⟨by first | omega | ((try simp only [go_sem, List.length_append, lim, lim2]) <;> omega) | assumption | exact ints_1 _ | exact rfl | (simp [ints]; done), ?_⟩)); (first | refine hN _ ?_ | (intro _ _; refine hN _ ?_)); clear hN N) | with_reducible (first | apply Ea | apply Eb | apply Ec | apply Ed | apply Ee | apply Ef | apply Eg | apply Eh | apply Ei | apply Ej | apply Ek | apply El | apply Em | refine En rfl ?_ | apply Eo | apply Ep | apply Eq1 | apply Er | apply Es) | ((with_reducible first | refine O3 rfl rfl rfl rfl ?_ | refine O4 rfl rfl rfl ?_); simp only [go_sem]))
  (refine ⟨by simp, ?_⟩; simp only [go_sem, Try.results106])
  rw [hu, hi2]; rfl
theorem level_spec (f : Bool) (t : List (Int × Int)) (v : Int) (hl : t.length ≤ 1000000) : Ret Try.prog 108 [.sl f (vts t), .int .i64 v] (.sl false (ints (levL t v))) := by
 have h2 := vts_2 t
 refine Ret_of_body Try.func108 (by kernel_rfl) rfl ?_; rw [Try.ntmps108]
 repeat (first | ((with_reducible first | refine O1 rfl (fun N hN => ?_) | refine O2 rfl rfl rfl (fun N hN => ?_)); simp only [go_sem]; (try refine Or.inl ?_); (repeat (refine ⟨by first | omega | ((try simp only [go_sem, List.length_append, lim, lim2]) <;> omega) | assumption | exact ints_1 _ | exact rfl | (simp [ints]; done), ?_⟩)); (first | refine hN _ ?_ | (intro _ _; refine hN _ ?_)); clear hN N) | with_reducible (first | apply Ea | apply Eb | apply Ec | apply Ed | apply Ee | apply Ef | apply Eg | apply Eh | apply Ei | apply Ej | apply Ek | apply El | apply Em | refine En rfl ?_ | apply Eo | apply Ep | apply Eq1 | apply Er | apply Es) | ((with_reducible first | refine O3 rfl rfl rfl rfl ?_ | refine O4 rfl rfl rfl ?_); simp only [go_sem]))
 refine TW_sub (Sub_grow (t := 5) (id := 5) 3 1 rfl rfl (Nat.zero_le _)) ?_
 simp only [go_sem]
 have hz : [] = idxs 0 fun i => decide (lev t i = v) := rfl
 refine TW_sub (Sub_blank [false, false, true, true, false, false, true, true, false, false, true, true, true, true, true, true, true, true, true, true, true, true, true, true]) ?_
 refine TW_loop (fun fuel st => ∃ (i : Nat) (u : List Int), (i ≤ t.length) ∧ (u = idxs i fun i => decide (lev t i = v)) ∧  fuel = t.length - i ∧ st = ⟨[.sl f (vts t), .int .i64 v, .junk, .junk, .nils, .bsl 5, .junk, .junk, .int .i64 (↑t.length : Int), .int .i64 i, .junk, .junk, .junk, .junk, .junk, .junk, .junk, .junk, .junk, .junk, .junk, .junk, .junk, .junk, .junk], [.un, .un, .un, .un, .un, .arr 3 1 (ints u), .un, .un, .un, .un, .un, .un, .un, .un, .un, .un, .un, .un, .un, .un, .un, .un, .un, .un, .un], 0⟩) (n := _) ⟨0, [], by first | omega | (simp; done) | (simp; omega) | assumption, by first | omega | (simp; done) | (simp; omega) | assumption, rfl, rfl⟩ ?_
 rintro fuel st ⟨i, u, hi, hu, rfl, rfl⟩
 repeat (first | ((with_reducible first | refine O1 rfl (fun N hN => ?_) | refine O2 rfl rfl rfl (fun N hN => ?_)); simp only [go_sem]; (try refine Or.inl ?_); (repeat (refine ⟨by first | omega | ((try simp only [go_sem, List.length_append, lim, lim2]) <;> omega) | assumption | exact ints_1 _ | exact rfl | (simp [ints]; done), ?_⟩)); (first | refine hN _ ?_ | (intro _ _; refine hN _ ?_)); clear hN N) | with_reducible (first | apply Ea | apply Eb | apply Ec | apply Ed | apply Ee | apply Ef | apply Eg | apply Eh | apply Ei | apply Ej | apply Ek | apply El | apply Em | refine En rfl ?_ | apply Eo | apply Ep | apply Eq1 | apply Er | apply Es) | ((with_reducible first | refine O3 rfl rfl rfl rfl ?_ | refine O4 rfl rfl rfl ?_); simp only [go_sem]))
 refine TW_cond rfl (fun hc => ?_) (fun hc => ?_)
 ·have hlt : i < t.length := by simpa using hc
  have hg := vts_get t i hlt
  have hw := wrap_i64 (n := (i : Int) + 1) (by omega) (by omega)
  have hul := idxs_len i fun i => decide (lev t i = v)
  rw [← hu] at hul
  have hs := idxs_succ i fun i => decide (lev t i = v)
  rw [← hu] at hs
  repeat (first | ((with_reducible first | refine O1 rfl (fun N hN => ?_) | refine O2 rfl rfl rfl (fun N hN => ?_)); simp only [go_sem, hg]; (try refine Or.inl ?_); (repeat (refine ⟨by first | omega | ((try simp only [go_sem, hg, List.length_append, lim, lim2]) <;> omega) | assumption | exact ints_1 _ | exact rfl | (simp [ints]; done), ?_⟩)); (first | refine hN _ ?_ | (intro _ _; refine hN _ ?_)); clear hN N) | with_reducible (first | apply Ea | apply Eb | apply Ec | apply Ed | apply Ee | apply Ef | apply Eg | apply Eh | apply Ei | apply Ej | apply Ek | apply El | apply Em | refine En rfl ?_ | apply Eo | apply Ep | apply Eq1 | apply Er | apply Es) | ((with_reducible first | refine O3 rfl rfl rfl rfl ?_ | refine O4 rfl rfl rfl ?_); simp only [go_sem, hg]))
  refine TW_cond rfl (fun hc => ?_) (fun hc => ?_)
  ·repeat (first | ((with_reducible first | refine O1 rfl (fun N hN => ?_) | refine O2 rfl rfl rfl (fun N hN => ?_)); simp only [go_sem, hw]; (try refine Or.inl ?_); (repeat (refine ⟨by first | omega | ((try simp only [go_sem, hw, List.length_append, lim, lim2]) <;> omega) | assumption | exact ints_1 _ | exact rfl | (simp [ints]; done), ?_⟩)); (first | refine hN _ ?_ | (intro _ _; refine hN _ ?_)); clear hN N) | with_reducible (first | apply Ea | apply Eb | apply Ec | apply Ed | apply Ee | apply Ef | apply Eg | apply Eh | apply Ei | apply Ej | apply Ek | apply El | apply Em | refine En rfl ?_ | apply Eo | apply Ep | apply Eq1 | apply Er | apply Es) | ((with_reducible first | refine O3 rfl rfl rfl rfl ?_ | refine O4 rfl rfl rfl ?_); simp only [go_sem, hw]))
   (refine ⟨(fun (i : Nat) (u : List Int) => t.length - i) (i + 1) ( u ++ [(i : Int)]), _, ?hm, ?hI, (Sub.trans (Sub_swap 5 22 (by first | (simp; done) | (simp [swap]; done)) (by first | (simp; done) | (simp [swap]; done)) (Nat.le_of_ble_eq_true rfl) (Nat.le_of_ble_eq_true rfl)) (Sub.trans (Sub_forget [21, 22] rfl) (Sub_blank [false, false, true, true, false, false, true, true, false, false, true, true, true, true, true, true, true, true, true, true, true, true, true, true])))⟩; (case hm => (first | omega | (simp only; omega) | (simp only [List.length_cons]; omega))); (case hI => (simp only [go_sem, forget, swap, scrL, scr, scrH, scrO, renL, ren, renO, sw, blankL, List.contains_cons, List.contains_nil, Nat.reduceBEq, Bool.or_false, Bool.false_or, Bool.or_true, Bool.true_or, Bool.false_eq_true, if_true, if_false] <;> exact ⟨i + 1, u ++ [(i : Int)], by omega, by rw [hs, if_pos (show decide (lev t i = v) = true from hc)], rfl, rfl⟩)))
  ·repeat (first | ((with_reducible first | refine O1 rfl (fun N hN => ?_) | refine O2 rfl rfl rfl (fun N hN => ?_)); simp only [go_sem, hw]; (try refine Or.inl ?_); (repeat (refine ⟨by first | omega | ((try simp only [go_sem, hw, List.length_append, lim, lim2]) <;> omega) | assumption | exact ints_1 _ | exact rfl | (simp [ints]; done), ?_⟩)); (first | refine hN _ ?_ | (intro _ _; refine hN _ ?_)); clear hN N) | with_reducible (first | apply Ea | apply Eb | apply Ec | apply Ed | apply Ee | apply Ef | apply Eg | apply Eh | apply Ei | apply Ej | apply Ek | apply El | apply Em | refine En rfl ?_ | apply Eo | apply Ep | apply Eq1 | apply Er | apply Es) | ((with_reducible first | refine O3 rfl rfl rfl rfl ?_ | refine O4 rfl rfl rfl ?_); simp only [go_sem, hw]))
   exact ⟨_, _, by omega, ⟨i + 1, u, by omega, by rw [hs, if_neg (by rw [show decide (lev t i = v) = false from hc]; exact Bool.false_ne_true), List.append_nil], rfl, rfl⟩, Sub_blank [false, false, true, true, false, false, true, true, false, false, true, true, true, true, true, true, true, true, true, true, true, true, true, true]⟩
 ·have hi2 : i = t.length := by have : ¬ (i < t.length) := by simpa using hc
                                omega
  repeat (first | ((with_reducible first | refine O1 rfl (fun N hN => ?_) | refine O2 rfl rfl rfl (fun N hN => ?_)); simp only [go_sem]; (try refine Or.inl ?_); (repeat (refine ⟨by first | omega | ((try simp only [go_sem, List.length_append, lim, lim2]) <;> omega) | assumption | exact ints_1 _ | exact rfl | (simp [ints]; done), ?_⟩)); (first | refine hN _ ?_ | (intro _ _; refine hN _ ?_)); clear hN N) | with_reducible (first | apply Ea | apply Eb | apply Ec | apply Ed | apply Ee | apply Ef | apply Eg | apply Eh | apply Ei | apply Ej | apply Ek | apply El | apply Em | refine En rfl ?_ | apply Eo | apply Ep | apply Eq1 | apply Er | apply Es) | ((with_reducible first | refine O3 rfl rfl rfl rfl ?_ | refine O4 rfl rfl rfl ?_); simp only [go_sem]))
  (refine ⟨by simp, ?_⟩; simp only [go_sem, Try.results108])
  rw [hu, hi2]; rfl
theorem procs_spec (f : Bool) (t : List (Int × Int)) (hl : t.length ≤ 1000000) : Ret Try.prog 60 [.sl f (vts t)] (.sl false (ints (levL t 3))) := by
 refine Ret_of_body Try.func60 (by kernel_rfl) rfl ?_; rw [Try.ntmps60]
 repeat (first | ((with_reducible first | refine O1 rfl (fun N hN => ?_) | refine O2 rfl rfl rfl (fun N hN => ?_)); simp only [go_sem]; (try refine Or.inl ?_); (repeat (refine ⟨by first | omega | ((try simp only [go_sem, List.length_append, lim, lim2]) <;> omega) | assumption | exact ints_1 _ | exact rfl | (simp [ints]; done), ?_⟩)); (first | refine hN _ ?_ | (intro _ _; refine hN _ ?_)); clear hN N) | with_reducible (first | apply Ea | apply Eb | apply Ec | apply Ed | apply Ee | apply Ef | apply Eg | apply Eh | apply Ei | apply Ej | apply Ek | apply El | apply Em | refine En rfl ?_ | apply Eo | apply Ep | apply Eq1 | apply Er | apply Es) | ((with_reducible first | refine O3 rfl rfl rfl rfl ?_ | refine O4 rfl rfl rfl ?_); simp only [go_sem]))
 ((with_reducible first | refine O1 rfl (fun N hN => ?_) | refine O2 rfl rfl rfl (fun N hN => ?_)); simp only [go_sem]; refine vCall.pu _ _ (level_spec f t 3 hl) ?ha9 (hN _ ?hk9); (case ha9 => (first | (simp only [go_sem]; done) | (simp only [go_sem] <;> (first | omega | ((try simp only [go_sem, List.length_append, lim, lim2]) <;> omega) | assumption | exact ints_1 _ | exact rfl | (simp [ints]; done))) | (simp [ints]; done))); clear hN N; apply Ops_eq; (simp only [go_sem]; rfl))
 repeat (first | ((with_reducible first | refine O1 rfl (fun N hN => ?_) | refine O2 rfl rfl rfl (fun N hN => ?_)); simp only [go_sem]; (try refine Or.inl ?_); (repeat (refine ⟨by first | omega | ((try simp only [go_sem, List.length_append, lim, lim2]) <;> omega) | assumption | exact ints_1 _ | exact rfl | (simp [ints]; done), ?_⟩)); (first | refine hN _ ?_ | (intro _ _; refine hN _ ?_)); clear hN N) | with_reducible (first | apply Ea | apply Eb | apply Ec | apply Ed | apply Ee | apply Ef | apply Eg | apply Eh | apply Ei | apply Ej | apply Ek | apply El | apply Em | refine En rfl ?_ | apply Eo | apply Ep | apply Eq1 | apply Er | apply Es) | ((with_reducible first | refine O3 rfl rfl rfl rfl ?_ | refine O4 rfl rfl rfl ?_); simp only [go_sem]))
 (refine ⟨by simp, ?_⟩; simp only [go_sem, Try.results60])
theorem nodes_spec (f : Bool) (t : List (Int × Int)) (hl : t.length ≤ 1000000) : Ret Try.prog 59 [.sl f (vts t)] (.sl false (ints (levL t 1))) := by
 refine Ret_of_body Try.func59 (by kernel_rfl) rfl ?_; rw [Try.ntmps59]
 repeat (first | ((with_reducible first | refine O1 rfl (fun N hN => ?_) | refine O2 rfl rfl rfl (fun N hN => ?_)); simp only [go_sem]; (try refine Or.inl ?_); (repeat (refine ⟨by first | omega | ((try simp only [go_sem, List.length_append, lim, lim2]) <;> omega) | assumption | exact ints_1 _ | exact rfl | (simp [ints]; done), ?_⟩)); (first | refine hN _ ?_ | (intro _ _; refine hN _ ?_)); clear hN N) | with_reducible (first | apply Ea | apply Eb | apply Ec | apply Ed | apply Ee | apply Ef | apply Eg | apply Eh | apply Ei | apply Ej | apply Ek | apply El | apply Em | refine En rfl ?_ | apply Eo | apply Ep | apply Eq1 | apply Er | apply Es) | ((with_reducible first | refine O3 rfl rfl rfl rfl ?_ | refine O4 rfl rfl rfl ?_); simp only [go_sem]))
 ((with_reducible first | refine O1 rfl (fun N hN => ?_) | refine O2 rfl rfl rfl (fun N hN => ?_)); simp only [go_sem]; refine vCall.pu _ _ (level_spec f t 1 hl) ?ha10 (hN _ ?hk10); (case ha10 => (first | (simp only [go_sem]; done) | (simp only [go_sem] <;> (first | omega | ((try simp only [go_sem, List.length_append, lim, lim2]) <;> omega) | assumption | exact ints_1 _ | exact rfl | (simp [ints]; done))) | (simp [ints]; done))); clear hN N; apply Ops_eq; (simp only [go_sem]; rfl))
 repeat (first | ((with_reducible first | refine O1 rfl (fun N hN => ?_) | refine O2 rfl rfl rfl (fun N hN => ?_)); simp only [go_sem]; (try refine Or.inl ?_); (repeat (refine ⟨by first | omega | ((try simp only [go_sem, List.length_append, lim, lim2]) <;> omega) | assumption | exact ints_1 _ | exact rfl | (simp [ints]; done), ?_⟩)); (first | refine hN _ ?_ | (intro _ _; refine hN _ ?_)); clear hN N) | with_reducible (first | apply Ea | apply Eb | apply Ec | apply Ed | apply Ee | apply Ef | apply Eg | apply Eh | apply Ei | apply Ej | apply Ek | apply El | apply Em | refine En rfl ?_ | apply Eo | apply Ep | apply Eq1 | apply Er | apply Es) | ((with_reducible first | refine O3 rfl rfl rfl rfl ?_ | refine O4 rfl rfl rfl ?_); simp only [go_sem]))
 (refine ⟨by simp, ?_⟩; simp only [go_sem, Try.results59])
def belB (t : List (Int × Int)) (i : Nat) : Bool := if i = 0 then decide (par t i = -1) && decide (lev t i = 0) else
 decide (0 ≤ par t i) && decide (par t i < i) && decide (lev t i = IntKind.i64.wrap (lev t (par t i).toNat + 1)) && decide (lev t i ≤ 3)
theorem below_spec (f : Bool) (t : List (Int × Int)) (i : Nat) (hi : i < t.length) (hl : t.length ≤ 1000000) : Ret Try.prog 107 [.sl f (vts t), .int .i64 i] (.bool (belB t i)) := by
 have h2 := vts_2 t
 have hg := vts_get t i hi
 refine Ret_of_body Try.func107 (by kernel_rfl) rfl ?_; rw [Try.ntmps107]
 repeat (first | ((with_reducible first | refine O1 rfl (fun N hN => ?_) | refine O2 rfl rfl rfl (fun N hN => ?_)); simp only [go_sem, hg]; (try refine Or.inl ?_); (repeat (refine ⟨by first | omega | ((try simp only [go_sem, hg, List.length_append, lim, lim2]) <;> omega) | assumption | exact ints_1 _ | exact rfl | (simp [ints]; done), ?_⟩)); (first | refine hN _ ?_ | (intro _ _; refine hN _ ?_)); clear hN N) | with_reducible (first | apply Ea | apply Eb | apply Ec | apply Ed | apply Ee | apply Ef | apply Eg | apply Eh | apply Ei | apply Ej | apply Ek | apply El | apply Em | refine En rfl ?_ | apply Eo | apply Ep | apply Eq1 | apply Er | apply Es) | ((with_reducible first | refine O3 rfl rfl rfl rfl ?_ | refine O4 rfl rfl rfl ?_); simp only [go_sem, hg]))
 refine TW_cond rfl (fun hc => ?_) (fun hc => ?_)
 ·have h0 : i = 0 := by simpa using hc
  repeat (first | ((with_reducible first | refine O1 rfl (fun N hN => ?_) | refine O2 rfl rfl rfl (fun N hN => ?_)); simp only [go_sem]; (try refine Or.inl ?_); (repeat (refine ⟨by first | omega | ((try simp only [go_sem, List.length_append, lim, lim2]) <;> omega) | assumption | exact ints_1 _ | exact rfl | (simp [ints]; done), ?_⟩)); (first | refine hN _ ?_ | (intro _ _; refine hN _ ?_)); clear hN N) | with_reducible (first | apply Ea | apply Eb | apply Ec | apply Ed | apply Ee | apply Ef | apply Eg | apply Eh | apply Ei | apply Ej | apply Ek | apply El | apply Em | refine En rfl ?_ | apply Eo | apply Ep | apply Eq1 | apply Er | apply Es) | ((with_reducible first | refine O3 rfl rfl rfl rfl ?_ | refine O4 rfl rfl rfl ?_); simp only [go_sem]) | ((first | ((with_reducible apply D1); exact rfl) | ((with_reducible apply D2); iterate 4 exact rfl)); (intro tq N hH hR hN; (first | (simp only [go_sem] at hR; simp only [hR, hH, go_sem] at hN ⊢) | simp only [hH, go_sem] at hN ⊢); (try refine Or.inl ?_); (repeat (refine ⟨by first | omega | ((try simp only [go_sem, List.length_append, lim, lim2]) <;> omega) | assumption | exact ints_1 _ | exact rfl | (simp [ints]; done), ?_⟩)); exact hN _ rfl); (try simp only [go_sem, Bool.not_not])) | ((first | ((with_reducible apply D5); exact rfl; iterate 4 exact rfl) | ((with_reducible apply D6); exact rfl; iterate 4 exact rfl) | ((with_reducible apply D7); iterate 4 exact rfl)); (try simp only [go_sem, Bool.not_not])) | ((first | ((with_reducible apply D3); iterate 4 exact rfl) | ((with_reducible apply D4); iterate 4 exact rfl)); (intro tq N hcq hH hR hN; (try simp only [beq_true, beq_false, Bool.not_eq_true', Bool.not_eq_false', Bool.and_eq_true, Bool.true_and, Bool.and_true, Bool.not_true, Bool.not_false, if_true] at hcq); have hd := hcq; (try simp only [decide_eq_true_eq, decide_eq_false_iff_not, Bool.or_eq_false_iff, Bool.and_eq_true] at hd); (first | (simp only [hcq, AV.opt_true, Bool.and_eq_true, Bool.true_and, Bool.and_true, Bool.not_true, Bool.not_false, if_true, go_sem] at hR; simp only [hR, hH, hcq, AV.opt_true, Bool.and_eq_true, Bool.true_and, Bool.and_true, Bool.not_true, Bool.not_false, if_true, go_sem] at hN ⊢) | simp only [hH, hcq, AV.opt_true, Bool.and_eq_true, Bool.true_and, Bool.and_true, Bool.not_true, Bool.not_false, if_true, go_sem] at hN ⊢); (try refine Or.inl ?_); (repeat (refine ⟨by first | omega | ((try simp only [go_sem, List.length_append, lim, lim2]) <;> omega) | assumption | exact ints_1 _ | exact rfl | (simp [ints]; done), ?_⟩)); exact hN _ rfl); (try simp only [go_sem, Bool.not_not])) | (with_reducible first | apply D8 | apply D9 | refine Tq mixed (by kernel_rfl) (by kernel_rfl) ?_))
  (refine ⟨by simp, ?_⟩; simp only [go_sem, Try.results107])
  unfold belB par lev; rw [if_pos h0]
 ·have h0 : ¬ i = 0 := by simpa using hc
  have fin : ∀ (b : Bool), (decide (0 ≤ par t i) && decide (par t i < i) && decide (lev t i = IntKind.i64.wrap (lev t (par t i).toNat + 1)) && decide (lev t i ≤ 3)) = b → b = belB t i := by
   intro b hb; rw [← hb]; unfold belB; rw [if_neg h0]
  by_cases h3 : 0 ≤ par t i
  ·have d3 : decide (par t i ≥ 0) = true := decide_eq_true h3
   by_cases h4 : par t i < i
   ·have d4 : decide (par t i < (i : Int)) = true := decide_eq_true h4
    have hg2 := vts_get t (par t i).toNat (by omega)
    unfold par at d3 d4 hg2 h3 h4
    repeat (first | ((with_reducible first | refine O1 rfl (fun N hN => ?_) | refine O2 rfl rfl rfl (fun N hN => ?_)); simp only [go_sem, d3, d4, hg2]; (try refine Or.inl ?_); (repeat (refine ⟨by first | omega | ((try simp only [go_sem, d3, d4, hg2, List.length_append, lim, lim2]) <;> omega) | assumption | exact ints_1 _ | exact rfl | (simp [ints]; done), ?_⟩)); (first | refine hN _ ?_ | (intro _ _; refine hN _ ?_)); clear hN N) | with_reducible (first | apply Ea | apply Eb | apply Ec | apply Ed | apply Ee | apply Ef | apply Eg | apply Eh | apply Ei | apply Ej | apply Ek | apply El | apply Em | refine En rfl ?_ | apply Eo | apply Ep | apply Eq1 | apply Er | apply Es) | ((with_reducible first | refine O3 rfl rfl rfl rfl ?_ | refine O4 rfl rfl rfl ?_); simp only [go_sem, d3, d4, hg2]) | ((first | ((with_reducible apply D1); exact rfl) | ((with_reducible apply D2); iterate 4 exact rfl)); (intro tq N hH hR hN; (first | (simp only [go_sem, d3, d4, hg2] at hR; simp only [hR, hH, go_sem, d3, d4, hg2] at hN ⊢) | simp only [hH, go_sem, d3, d4, hg2] at hN ⊢); (try refine Or.inl ?_); (repeat (refine ⟨by first | omega | ((try simp only [go_sem, d3, d4, hg2, List.length_append, lim, lim2]) <;> omega) | assumption | exact ints_1 _ | exact rfl | (simp [ints]; done), ?_⟩)); exact hN _ rfl); (try simp only [go_sem, d3, d4, hg2, Bool.not_not])) | ((first | ((with_reducible apply D5); exact rfl; iterate 4 exact rfl) | ((with_reducible apply D6); exact rfl; iterate 4 exact rfl) | ((with_reducible apply D7); iterate 4 exact rfl)); (try simp only [go_sem, d3, d4, hg2, Bool.not_not])) | ((first | ((with_reducible apply D3); iterate 4 exact rfl) | ((with_reducible apply D4); iterate 4 exact rfl)); (intro tq N hcq hH hR hN; (try simp only [beq_true, beq_false, Bool.not_eq_true', Bool.not_eq_false', Bool.and_eq_true, Bool.true_and, Bool.and_true, Bool.not_true, Bool.not_false, if_true] at hcq); have hd := hcq; (try simp only [decide_eq_true_eq, decide_eq_false_iff_not, Bool.or_eq_false_iff, Bool.and_eq_true] at hd); (first | (simp only [hcq, AV.opt_true, Bool.and_eq_true, Bool.true_and, Bool.and_true, Bool.not_true, Bool.not_false, if_true, go_sem, d3, d4, hg2] at hR; simp only [hR, hH, hcq, AV.opt_true, Bool.and_eq_true, Bool.true_and, Bool.and_true, Bool.not_true, Bool.not_false, if_true, go_sem, d3, d4, hg2] at hN ⊢) | simp only [hH, hcq, AV.opt_true, Bool.and_eq_true, Bool.true_and, Bool.and_true, Bool.not_true, Bool.not_false, if_true, go_sem, d3, d4, hg2] at hN ⊢); (try refine Or.inl ?_); (repeat (refine ⟨by first | omega | ((try simp only [go_sem, d3, d4, hg2, List.length_append, lim, lim2]) <;> omega) | assumption | exact ints_1 _ | exact rfl | (simp [ints]; done), ?_⟩)); exact hN _ rfl); (try simp only [go_sem, d3, d4, hg2, Bool.not_not])) | (with_reducible first | apply D8 | apply D9 | refine Tq mixed (by kernel_rfl) (by kernel_rfl) ?_))
    (refine ⟨by simp, ?_⟩; simp only [go_sem, Try.results107])
    refine fin _ ?_
    unfold par lev
    rw [decide_eq_true h3, decide_eq_true h4]; rfl
   ·have d4 : decide (par t i < (i : Int)) = false := decide_eq_false h4
    unfold par at d3 d4 h3 h4
    repeat (first | ((with_reducible first | refine O1 rfl (fun N hN => ?_) | refine O2 rfl rfl rfl (fun N hN => ?_)); simp only [go_sem, d3, d4]; (try refine Or.inl ?_); (repeat (refine ⟨by first | omega | ((try simp only [go_sem, d3, d4, List.length_append, lim, lim2]) <;> omega) | assumption | exact ints_1 _ | exact rfl | (simp [ints]; done), ?_⟩)); (first | refine hN _ ?_ | (intro _ _; refine hN _ ?_)); clear hN N) | with_reducible (first | apply Ea | apply Eb | apply Ec | apply Ed | apply Ee | apply Ef | apply Eg | apply Eh | apply Ei | apply Ej | apply Ek | apply El | apply Em | refine En rfl ?_ | apply Eo | apply Ep | apply Eq1 | apply Er | apply Es) | ((with_reducible first | refine O3 rfl rfl rfl rfl ?_ | refine O4 rfl rfl rfl ?_); simp only [go_sem, d3, d4]) | ((first | ((with_reducible apply D1); exact rfl) | ((with_reducible apply D2); iterate 4 exact rfl)); (intro tq N hH hR hN; (first | (simp only [go_sem, d3, d4] at hR; simp only [hR, hH, go_sem, d3, d4] at hN ⊢) | simp only [hH, go_sem, d3, d4] at hN ⊢); (try refine Or.inl ?_); (repeat (refine ⟨by first | omega | ((try simp only [go_sem, d3, d4, List.length_append, lim, lim2]) <;> omega) | assumption | exact ints_1 _ | exact rfl | (simp [ints]; done), ?_⟩)); exact hN _ rfl); (try simp only [go_sem, d3, d4, Bool.not_not])) | ((first | ((with_reducible apply D5); exact rfl; iterate 4 exact rfl) | ((with_reducible apply D6); exact rfl; iterate 4 exact rfl) | ((with_reducible apply D7); iterate 4 exact rfl)); (try simp only [go_sem, d3, d4, Bool.not_not])) | ((first | ((with_reducible apply D3); iterate 4 exact rfl) | ((with_reducible apply D4); iterate 4 exact rfl)); (intro tq N hcq hH hR hN; (try simp only [beq_true, beq_false, Bool.not_eq_true', Bool.not_eq_false', Bool.and_eq_true, Bool.true_and, Bool.and_true, Bool.not_true, Bool.not_false, if_true] at hcq); have hd := hcq; (try simp only [decide_eq_true_eq, decide_eq_false_iff_not, Bool.or_eq_false_iff, Bool.and_eq_true] at hd); (first | (simp only [hcq, AV.opt_true, Bool.and_eq_true, Bool.true_and, Bool.and_true, Bool.not_true, Bool.not_false, if_true, go_sem, d3, d4] at hR; simp only [hR, hH, hcq, AV.opt_true, Bool.and_eq_true, Bool.true_and, Bool.and_true, Bool.not_true, Bool.not_false, if_true, go_sem, d3, d4] at hN ⊢) | simp only [hH, hcq, AV.opt_true, Bool.and_eq_true, Bool.true_and, Bool.and_true, Bool.not_true, Bool.not_false, if_true, go_sem, d3, d4] at hN ⊢); (try refine Or.inl ?_); (repeat (refine ⟨by first | omega | ((try simp only [go_sem, d3, d4, List.length_append, lim, lim2]) <;> omega) | assumption | exact ints_1 _ | exact rfl | (simp [ints]; done), ?_⟩)); exact hN _ rfl); (try simp only [go_sem, d3, d4, Bool.not_not])) | (with_reducible first | apply D8 | apply D9 | refine Tq mixed (by kernel_rfl) (by kernel_rfl) ?_))
    (refine ⟨by simp, ?_⟩; simp only [go_sem, Try.results107])
    refine fin _ ?_
    unfold par lev
    rw [decide_eq_true h3, decide_eq_false h4]; rfl
  ·have d3 : decide (par t i ≥ 0) = false := decide_eq_false h3
   unfold par at d3 h3
   repeat (first | ((with_reducible first | refine O1 rfl (fun N hN => ?_) | refine O2 rfl rfl rfl (fun N hN => ?_)); simp only [go_sem, d3]; (try refine Or.inl ?_); (repeat (refine ⟨by first | omega | ((try simp only [go_sem, d3, List.length_append, lim, lim2]) <;> omega) | assumption | exact ints_1 _ | exact rfl | (simp [ints]; done), ?_⟩)); (first | refine hN _ ?_ | (intro _ _; refine hN _ ?_)); clear hN N) | with_reducible (first | apply Ea | apply Eb | apply Ec | apply Ed | apply Ee | apply Ef | apply Eg | apply Eh | apply Ei | apply Ej | apply Ek | apply El | apply Em | refine En rfl ?_ | apply Eo | apply Ep | apply Eq1 | apply Er | apply Es) | ((with_reducible first | refine O3 rfl rfl rfl rfl ?_ | refine O4 rfl rfl rfl ?_); simp only [go_sem, d3]) | ((first | ((with_reducible apply D1); exact rfl) | ((with_reducible apply D2); iterate 4 exact rfl)); (intro tq N hH hR hN; (first | (simp only [go_sem, d3] at hR; simp only [hR, hH, go_sem, d3] at hN ⊢) | simp only [hH, go_sem, d3] at hN ⊢); (try refine Or.inl ?_); (repeat (refine ⟨by first | omega | ((try simp only [go_sem, d3, List.length_append, lim, lim2]) <;> omega) | assumption | exact ints_1 _ | exact rfl | (simp [ints]; done), ?_⟩)); exact hN _ rfl); (try simp only [go_sem, d3, Bool.not_not])) | ((first | ((with_reducible apply D5); exact rfl; iterate 4 exact rfl) | ((with_reducible apply D6); exact rfl; iterate 4 exact rfl) | ((with_reducible apply D7); iterate 4 exact rfl)); (try simp only [go_sem, d3, Bool.not_not])) | ((first | ((with_reducible apply D3); iterate 4 exact rfl) | ((with_reducible apply D4); iterate 4 exact rfl)); (intro tq N hcq hH hR hN; (try simp only [beq_true, beq_false, Bool.not_eq_true', Bool.not_eq_false', Bool.and_eq_true, Bool.true_and, Bool.and_true, Bool.not_true, Bool.not_false, if_true] at hcq); have hd := hcq; (try simp only [decide_eq_true_eq, decide_eq_false_iff_not, Bool.or_eq_false_iff, Bool.and_eq_true] at hd); (first | (simp only [hcq, AV.opt_true, Bool.and_eq_true, Bool.true_and, Bool.and_true, Bool.not_true, Bool.not_false, if_true, go_sem, d3] at hR; simp only [hR, hH, hcq, AV.opt_true, Bool.and_eq_true, Bool.true_and, Bool.and_true, Bool.not_true, Bool.not_false, if_true, go_sem, d3] at hN ⊢) | simp only [hH, hcq, AV.opt_true, Bool.and_eq_true, Bool.true_and, Bool.and_true, Bool.not_true, Bool.not_false, if_true, go_sem, d3] at hN ⊢); (try refine Or.inl ?_); (repeat (refine ⟨by first | omega | ((try simp only [go_sem, d3, List.length_append, lim, lim2]) <;> omega) | assumption | exact ints_1 _ | exact rfl | (simp [ints]; done), ?_⟩)); exact hN _ rfl); (try simp only [go_sem, d3, Bool.not_not])) | (with_reducible first | apply D8 | apply D9 | refine Tq mixed (by kernel_rfl) (by kernel_rfl) ?_))
   (refine ⟨by simp, ?_⟩; simp only [go_sem, Try.results107])
   refine fin _ ?_
   unfold par lev
   rw [decide_eq_false h3]; rfl
def okV (t : List (Int × Int)) (i : Nat) : Bool := belB t i && (decide (lev t i = 3) == decide ((kidsL t i).length = 0)) && decide ((kidsL t i).length ≤ 8)
def smallT (t : List (Int × Int)) : Bool := decide (1 ≤ t.length) && decide (t.length ≤ 64) && decide ((levL t 3).length ≤ 32)
def treeB (t : List (Int × Int)) : Bool := smallT t && (List.range t.length).all (okV t)
def chk (t : List (Int × Int)) : Int := if treeB t = true then 0 else 2
theorem chk_small {t : List (Int × Int)} (h : smallT t = false) : chk t = 2 := by unfold chk treeB; rw [h]; rfl
theorem chk_bad {t : List (Int × Int)} {i : Nat} (h : i < t.length) (hb : okV t i = false) : chk t = 2 := by
 have : (List.range t.length).all (okV t) = false := by
  rw [Bool.eq_false_iff]; intro e
  have := List.all_eq_true.mp e i (List.mem_range.mpr h)
  rw [hb] at this; cases this
 unfold chk treeB; rw [this, Bool.and_false]; rfl
theorem chk_good {t : List (Int × Int)} (h : smallT t = true) (hg : ∀ i < t.length, okV t i = true) : chk t = 0 := by
 have : (List.range t.length).all (okV t) = true := List.all_eq_true.mpr fun j hj => hg j (List.mem_range.mp hj)
 unfold chk treeB; rw [h, this]; rfl
theorem check_spec (f : Bool) (t : List (Int × Int)) (hl : t.length ≤ 9223372036854775807) : Ret Try.prog 57 [.sl f (vts t)] (.int .i64 (chk t)) := by
 have h2 := vts_2 t
 refine Ret_of_body Try.func57 (by kernel_rfl) rfl ?_; rw [Try.ntmps57]
 repeat (first | ((with_reducible first | refine O1 rfl (fun N hN => ?_) | refine O2 rfl rfl rfl (fun N hN => ?_)); simp only [go_sem]; (try refine Or.inl ?_); (repeat (refine ⟨by first | omega | ((try simp only [go_sem, List.length_append, lim, lim2]) <;> omega) | assumption | exact ints_1 _ | exact rfl | (simp [ints]; done), ?_⟩)); (first | refine hN _ ?_ | (intro _ _; refine hN _ ?_)); clear hN N) | with_reducible (first | apply Ea | apply Eb | apply Ec | apply Ed | apply Ee | apply Ef | apply Eg | apply Eh | apply Ei | apply Ej | apply Ek | apply El | apply Em | refine En rfl ?_ | apply Eo | apply Ep | apply Eq1 | apply Er | apply Es) | ((with_reducible first | refine O3 rfl rfl rfl rfl ?_ | refine O4 rfl rfl rfl ?_); simp only [go_sem]) | ((first | ((with_reducible apply D1); exact rfl) | ((with_reducible apply D2); iterate 4 exact rfl)); (intro tq N hH hR hN; (first | (simp only [go_sem] at hR; simp only [hR, hH, go_sem] at hN ⊢) | simp only [hH, go_sem] at hN ⊢); (try refine Or.inl ?_); (repeat (refine ⟨by first | omega | ((try simp only [go_sem, List.length_append, lim, lim2]) <;> omega) | assumption | exact ints_1 _ | exact rfl | (simp [ints]; done), ?_⟩)); exact hN _ rfl); (try simp only [go_sem, Bool.not_not])) | ((first | ((with_reducible apply D5); exact rfl; iterate 4 exact rfl) | ((with_reducible apply D6); exact rfl; iterate 4 exact rfl) | ((with_reducible apply D7); iterate 4 exact rfl)); (try simp only [go_sem, Bool.not_not])) | ((first | ((with_reducible apply D3); iterate 4 exact rfl) | ((with_reducible apply D4); iterate 4 exact rfl)); (intro tq N hcq hH hR hN; (try simp only [beq_true, beq_false, Bool.not_eq_true', Bool.not_eq_false', Bool.and_eq_true, Bool.true_and, Bool.and_true, Bool.not_true, Bool.not_false, if_true] at hcq); have hd := hcq; (try simp only [decide_eq_true_eq, decide_eq_false_iff_not, Bool.or_eq_false_iff, Bool.and_eq_true] at hd); (first | (simp only [hcq, AV.opt_true, Bool.and_eq_true, Bool.true_and, Bool.and_true, Bool.not_true, Bool.not_false, if_true, go_sem] at hR; simp only [hR, hH, hcq, AV.opt_true, Bool.and_eq_true, Bool.true_and, Bool.and_true, Bool.not_true, Bool.not_false, if_true, go_sem] at hN ⊢) | simp only [hH, hcq, AV.opt_true, Bool.and_eq_true, Bool.true_and, Bool.and_true, Bool.not_true, Bool.not_false, if_true, go_sem] at hN ⊢); (try refine Or.inl ?_); (repeat (refine ⟨by first | omega | ((try simp only [go_sem, List.length_append, lim, lim2]) <;> omega) | assumption | exact ints_1 _ | exact rfl | (simp [ints]; done), ?_⟩)); exact hN _ rfl); (try simp only [go_sem, Bool.not_not])) | (with_reducible first | apply D8 | apply D9 | refine Tq mixed (by kernel_rfl) (by kernel_rfl) ?_))
 (try with_reducible apply Ops_dq); (first | ((first | ((with_reducible apply D1); exact rfl) | ((with_reducible apply D2); iterate 4 exact rfl)); (intro tq N hH hR hN; (first | (simp only [go_sem] at hR; simp only [hR, hH, go_sem] at hN ⊢) | simp only [hH, go_sem] at hN ⊢); refine vCall.pu _ _ (procs_spec f t (by omega)) ?ha11 (hN _ ?hk11); (case ha11 => (first | (simp only [go_sem]; done) | (simp only [go_sem, hH]; done) | (simp only [go_sem] <;> (first | omega | ((try simp only [go_sem, List.length_append, lim, lim2]) <;> omega) | assumption | exact ints_1 _ | exact rfl | (simp [ints]; done))) | (simp [ints]; done))); (case hk11 => (first | rfl | (simp only [go_sem, hH]; rfl)))); (try simp only [go_sem, Bool.not_not])) | ((first | ((with_reducible apply D3); iterate 4 exact rfl) | ((with_reducible apply D4); iterate 4 exact rfl)); (intro tq N hcq hH hR hN; (try simp only [beq_true, beq_false, Bool.not_eq_true', Bool.not_eq_false', Bool.and_eq_true, Bool.true_and, Bool.and_true, Bool.not_true, Bool.not_false, if_true] at hcq); have hd := hcq; (try simp only [decide_eq_true_eq, decide_eq_false_iff_not, Bool.or_eq_false_iff, Bool.and_eq_true] at hd); (first | (simp only [hcq, AV.opt_true, Bool.and_eq_true, Bool.true_and, Bool.and_true, Bool.not_true, Bool.not_false, if_true, go_sem] at hR; simp only [hR, hH, hcq, AV.opt_true, Bool.and_eq_true, Bool.true_and, Bool.and_true, Bool.not_true, Bool.not_false, if_true, go_sem] at hN ⊢) | simp only [hH, hcq, AV.opt_true, Bool.and_eq_true, Bool.true_and, Bool.and_true, Bool.not_true, Bool.not_false, if_true, go_sem] at hN ⊢); refine vCall.pu _ _ (procs_spec f t (by omega)) ?ha11 (hN _ ?hk11); (case ha11 => (first | (simp only [go_sem]; done) | (simp only [go_sem, hH]; done) | (simp only [go_sem] <;> (first | omega | ((try simp only [go_sem, List.length_append, lim, lim2]) <;> omega) | assumption | exact ints_1 _ | exact rfl | (simp [ints]; done))) | (simp [ints]; done))); (case hk11 => (first | rfl | (simp only [go_sem, hH]; rfl)))); (try simp only [go_sem, Bool.not_not])))
 repeat (first | ((with_reducible first | refine O1 rfl (fun N hN => ?_) | refine O2 rfl rfl rfl (fun N hN => ?_)); simp only [go_sem]; (try refine Or.inl ?_); (repeat (refine ⟨by first | omega | ((try simp only [go_sem, List.length_append, lim, lim2]) <;> omega) | assumption | exact ints_1 _ | exact rfl | (simp [ints]; done), ?_⟩)); (first | refine hN _ ?_ | (intro _ _; refine hN _ ?_)); clear hN N) | with_reducible (first | apply Ea | apply Eb | apply Ec | apply Ed | apply Ee | apply Ef | apply Eg | apply Eh | apply Ei | apply Ej | apply Ek | apply El | apply Em | refine En rfl ?_ | apply Eo | apply Ep | apply Eq1 | apply Er | apply Es) | ((with_reducible first | refine O3 rfl rfl rfl rfl ?_ | refine O4 rfl rfl rfl ?_); simp only [go_sem]) | ((first | ((with_reducible apply D1); exact rfl) | ((with_reducible apply D2); iterate 4 exact rfl)); (intro tq N hH hR hN; (first | (simp only [go_sem] at hR; simp only [hR, hH, go_sem] at hN ⊢) | simp only [hH, go_sem] at hN ⊢); (try refine Or.inl ?_); (repeat (refine ⟨by first | omega | ((try simp only [go_sem, List.length_append, lim, lim2]) <;> omega) | assumption | exact ints_1 _ | exact rfl | (simp [ints]; done), ?_⟩)); exact hN _ rfl); (try simp only [go_sem, Bool.not_not])) | ((first | ((with_reducible apply D5); exact rfl; iterate 4 exact rfl) | ((with_reducible apply D6); exact rfl; iterate 4 exact rfl) | ((with_reducible apply D7); iterate 4 exact rfl)); (try simp only [go_sem, Bool.not_not])) | ((first | ((with_reducible apply D3); iterate 4 exact rfl) | ((with_reducible apply D4); iterate 4 exact rfl)); (intro tq N hcq hH hR hN; (try simp only [beq_true, beq_false, Bool.not_eq_true', Bool.not_eq_false', Bool.and_eq_true, Bool.true_and, Bool.and_true, Bool.not_true, Bool.not_false, if_true] at hcq); have hd := hcq; (try simp only [decide_eq_true_eq, decide_eq_false_iff_not, Bool.or_eq_false_iff, Bool.and_eq_true] at hd); (first | (simp only [hcq, AV.opt_true, Bool.and_eq_true, Bool.true_and, Bool.and_true, Bool.not_true, Bool.not_false, if_true, go_sem] at hR; simp only [hR, hH, hcq, AV.opt_true, Bool.and_eq_true, Bool.true_and, Bool.and_true, Bool.not_true, Bool.not_false, if_true, go_sem] at hN ⊢) | simp only [hH, hcq, AV.opt_true, Bool.and_eq_true, Bool.true_and, Bool.and_true, Bool.not_true, Bool.not_false, if_true, go_sem] at hN ⊢); (try refine Or.inl ?_); (repeat (refine ⟨by first | omega | ((try simp only [go_sem, List.length_append, lim, lim2]) <;> omega) | assumption | exact ints_1 _ | exact rfl | (simp [ints]; done), ?_⟩)); exact hN _ rfl); (try simp only [go_sem, Bool.not_not])) | (with_reducible first | apply D8 | apply D9 | refine Tq mixed (by kernel_rfl) (by kernel_rfl) ?_))
 refine TW_cond rfl (fun hc => ?_) (fun hc => ?_)
 ·repeat (first | ((with_reducible first | refine O1 rfl (fun N hN => ?_) | refine O2 rfl rfl rfl (fun N hN => ?_)); simp only [go_sem]; (try refine Or.inl ?_); (repeat (refine ⟨by first | omega | ((try simp only [go_sem, List.length_append, lim, lim2]) <;> omega) | assumption | exact ints_1 _ | exact rfl | (simp [ints]; done), ?_⟩)); (first | refine hN _ ?_ | (intro _ _; refine hN _ ?_)); clear hN N) | with_reducible (first | apply Ea | apply Eb | apply Ec | apply Ed | apply Ee | apply Ef | apply Eg | apply Eh | apply Ei | apply Ej | apply Ek | apply El | apply Em | refine En rfl ?_ | apply Eo | apply Ep | apply Eq1 | apply Er | apply Es) | ((with_reducible first | refine O3 rfl rfl rfl rfl ?_ | refine O4 rfl rfl rfl ?_); simp only [go_sem]))
  (refine ⟨by simp, ?_⟩; simp only [go_sem, Try.results57])
  have : smallT t = false := by
   rw [Bool.eq_false_iff]; intro e
   simp only [smallT, Bool.and_eq_true, Bool.or_eq_true, decide_eq_true_eq] at e hc
   omega
  rw [chk_small this]
 ·have hs : smallT t = true := by
   simp only [Bool.or_eq_false_iff, decide_eq_false_iff_not] at hc
   simp only [smallT, Bool.and_eq_true, decide_eq_true_eq]
   omega
  have ht64 : t.length ≤ 64 := by
   simp only [Bool.or_eq_false_iff, decide_eq_false_iff_not] at hc; omega
  repeat (first | ((with_reducible first | refine O1 rfl (fun N hN => ?_) | refine O2 rfl rfl rfl (fun N hN => ?_)); simp only [go_sem]; (try refine Or.inl ?_); (repeat (refine ⟨by first | omega | ((try simp only [go_sem, List.length_append, lim, lim2]) <;> omega) | assumption | exact ints_1 _ | exact rfl | (simp [ints]; done), ?_⟩)); (first | refine hN _ ?_ | (intro _ _; refine hN _ ?_)); clear hN N) | with_reducible (first | apply Ea | apply Eb | apply Ec | apply Ed | apply Ee | apply Ef | apply Eg | apply Eh | apply Ei | apply Ej | apply Ek | apply El | apply Em | refine En rfl ?_ | apply Eo | apply Ep | apply Eq1 | apply Er | apply Es) | ((with_reducible first | refine O3 rfl rfl rfl rfl ?_ | refine O4 rfl rfl rfl ?_); simp only [go_sem]))
  refine TW_sub (Sub_blank [false, true, true, true, true, true, true, true, true, true, true, true, true, true, true, true, true, true, true, true, true, false, false, true, true, true, true, true, true, true, true, true, true, true, true, true, true, true, true, true, true, true, true, true, true, true, true, true, true, true]) ?_
  refine TW_loop (fun fuel st => ∃ (i : Nat), (i ≤ t.length) ∧ (∀ j < i, okV t j = true) ∧  fuel = t.length - i ∧ st = ⟨[.sl f (vts t), .junk, .junk, .junk, .junk, .junk, .junk, .junk, .junk, .junk, .junk, .junk, .junk, .junk, .junk, .junk, .junk, .junk, .junk, .junk, .junk, .int .i64 (↑t.length : Int), .int .i64 i, .junk, .junk, .junk, .junk, .junk, .junk, .junk, .junk, .junk, .junk, .junk, .junk, .junk, .junk, .junk, .junk, .junk, .junk, .junk, .junk, .junk, .junk, .junk, .junk, .junk, .junk, .junk], [.un, .un, .un, .un, .un, .un, .un, .un, .un, .un, .un, .un, .un, .un, .un, .un, .un, .un, .un, .un, .un, .un, .un, .un, .un, .un, .un, .un, .un, .un, .un, .un, .un, .un, .un, .un, .un, .un, .un, .un, .un, .un, .un, .un, .un, .un, .un, .un, .un, .un], 0⟩) (n := _) ⟨0, by first | omega | (simp; done) | (simp; omega) | assumption, by first | omega | (simp; done) | (simp; omega) | assumption, rfl, rfl⟩ ?_
  rintro fuel st ⟨i, hi, hx, rfl, rfl⟩
  repeat (first | ((with_reducible first | refine O1 rfl (fun N hN => ?_) | refine O2 rfl rfl rfl (fun N hN => ?_)); simp only [go_sem]; (try refine Or.inl ?_); (repeat (refine ⟨by first | omega | ((try simp only [go_sem, List.length_append, lim, lim2]) <;> omega) | assumption | exact ints_1 _ | exact rfl | (simp [ints]; done), ?_⟩)); (first | refine hN _ ?_ | (intro _ _; refine hN _ ?_)); clear hN N) | with_reducible (first | apply Ea | apply Eb | apply Ec | apply Ed | apply Ee | apply Ef | apply Eg | apply Eh | apply Ei | apply Ej | apply Ek | apply El | apply Em | refine En rfl ?_ | apply Eo | apply Ep | apply Eq1 | apply Er | apply Es) | ((with_reducible first | refine O3 rfl rfl rfl rfl ?_ | refine O4 rfl rfl rfl ?_); simp only [go_sem]))
  refine TW_cond rfl (fun hc => ?_) (fun hc => ?_)
  ·have hlt : i < t.length := by simpa using hc
   have hg := vts_get t i hlt
   have hw := wrap_i64 (n := (i : Int) + 1) (by omega) (by omega)
   have hk := idxs_len t.length fun j => decide (par t j = i)
   repeat (first | ((with_reducible first | refine O1 rfl (fun N hN => ?_) | refine O2 rfl rfl rfl (fun N hN => ?_)); simp only [go_sem]; (try refine Or.inl ?_); (repeat (refine ⟨by first | omega | ((try simp only [go_sem, List.length_append, lim, lim2]) <;> omega) | assumption | exact ints_1 _ | exact rfl | (simp [ints]; done), ?_⟩)); (first | refine hN _ ?_ | (intro _ _; refine hN _ ?_)); clear hN N) | with_reducible (first | apply Ea | apply Eb | apply Ec | apply Ed | apply Ee | apply Ef | apply Eg | apply Eh | apply Ei | apply Ej | apply Ek | apply El | apply Em | refine En rfl ?_ | apply Eo | apply Ep | apply Eq1 | apply Er | apply Es) | ((with_reducible first | refine O3 rfl rfl rfl rfl ?_ | refine O4 rfl rfl rfl ?_); simp only [go_sem]))
   ((with_reducible first | refine O1 rfl (fun N hN => ?_) | refine O2 rfl rfl rfl (fun N hN => ?_)); simp only [go_sem]; refine vCall.pu _ _ (kids_spec f t i (by omega)) ?ha12 (hN _ ?hk12); (case ha12 => (first | (simp only [go_sem]; done) | (simp only [go_sem] <;> (first | omega | ((try simp only [go_sem, List.length_append, lim, lim2]) <;> omega) | assumption | exact ints_1 _ | exact rfl | (simp [ints]; done))) | (simp [ints]; done))); clear hN N; apply Ops_eq; (simp only [go_sem]; rfl))
   repeat (first | ((with_reducible first | refine O1 rfl (fun N hN => ?_) | refine O2 rfl rfl rfl (fun N hN => ?_)); simp only [go_sem, hg]; (try refine Or.inl ?_); (repeat (refine ⟨by first | omega | ((try simp only [go_sem, hg, List.length_append, lim, lim2]) <;> omega) | assumption | exact ints_1 _ | exact rfl | (simp [ints]; done), ?_⟩)); (first | refine hN _ ?_ | (intro _ _; refine hN _ ?_)); clear hN N) | with_reducible (first | apply Ea | apply Eb | apply Ec | apply Ed | apply Ee | apply Ef | apply Eg | apply Eh | apply Ei | apply Ej | apply Ek | apply El | apply Em | refine En rfl ?_ | apply Eo | apply Ep | apply Eq1 | apply Er | apply Es) | ((with_reducible first | refine O3 rfl rfl rfl rfl ?_ | refine O4 rfl rfl rfl ?_); simp only [go_sem, hg]))
   ((with_reducible first | refine O1 rfl (fun N hN => ?_) | refine O2 rfl rfl rfl (fun N hN => ?_)); simp only [go_sem]; refine vCall.sc _ _ (below_spec f t i hlt (by omega)) ?ha13 rfl (hN _ ?hk13); (case ha13 => (first | (simp only [go_sem]; done) | (simp only [go_sem] <;> (first | omega | ((try simp only [go_sem, List.length_append, lim, lim2]) <;> omega) | assumption | exact ints_1 _ | exact rfl | (simp [ints]; done))) | (simp [ints]; done))); clear hN N; apply Ops_eq; (simp only [go_sem]; rfl))
   repeat (first | ((with_reducible first | refine O1 rfl (fun N hN => ?_) | refine O2 rfl rfl rfl (fun N hN => ?_)); simp only [go_sem]; (try refine Or.inl ?_); (repeat (refine ⟨by first | omega | ((try simp only [go_sem, List.length_append, lim, lim2]) <;> omega) | assumption | exact ints_1 _ | exact rfl | (simp [ints]; done), ?_⟩)); (first | refine hN _ ?_ | (intro _ _; refine hN _ ?_)); clear hN N) | with_reducible (first | apply Ea | apply Eb | apply Ec | apply Ed | apply Ee | apply Ef | apply Eg | apply Eh | apply Ei | apply Ej | apply Ek | apply El | apply Em | refine En rfl ?_ | apply Eo | apply Ep | apply Eq1 | apply Er | apply Es) | ((with_reducible first | refine O3 rfl rfl rfl rfl ?_ | refine O4 rfl rfl rfl ?_); simp only [go_sem]) | ((first | ((with_reducible apply D1); exact rfl) | ((with_reducible apply D2); iterate 4 exact rfl)); (intro tq N hH hR hN; (first | (simp only [go_sem] at hR; simp only [hR, hH, go_sem] at hN ⊢) | simp only [hH, go_sem] at hN ⊢); (try refine Or.inl ?_); (repeat (refine ⟨by first | omega | ((try simp only [go_sem, List.length_append, lim, lim2]) <;> omega) | assumption | exact ints_1 _ | exact rfl | (simp [ints]; done), ?_⟩)); exact hN _ rfl); (try simp only [go_sem, Bool.not_not])) | ((first | ((with_reducible apply D5); exact rfl; iterate 4 exact rfl) | ((with_reducible apply D6); exact rfl; iterate 4 exact rfl) | ((with_reducible apply D7); iterate 4 exact rfl)); (try simp only [go_sem, Bool.not_not])) | ((first | ((with_reducible apply D3); iterate 4 exact rfl) | ((with_reducible apply D4); iterate 4 exact rfl)); (intro tq N hcq hH hR hN; (try simp only [beq_true, beq_false, Bool.not_eq_true', Bool.not_eq_false', Bool.and_eq_true, Bool.true_and, Bool.and_true, Bool.not_true, Bool.not_false, if_true] at hcq); have hd := hcq; (try simp only [decide_eq_true_eq, decide_eq_false_iff_not, Bool.or_eq_false_iff, Bool.and_eq_true] at hd); (first | (simp only [hcq, AV.opt_true, Bool.and_eq_true, Bool.true_and, Bool.and_true, Bool.not_true, Bool.not_false, if_true, go_sem] at hR; simp only [hR, hH, hcq, AV.opt_true, Bool.and_eq_true, Bool.true_and, Bool.and_true, Bool.not_true, Bool.not_false, if_true, go_sem] at hN ⊢) | simp only [hH, hcq, AV.opt_true, Bool.and_eq_true, Bool.true_and, Bool.and_true, Bool.not_true, Bool.not_false, if_true, go_sem] at hN ⊢); (try refine Or.inl ?_); (repeat (refine ⟨by first | omega | ((try simp only [go_sem, List.length_append, lim, lim2]) <;> omega) | assumption | exact ints_1 _ | exact rfl | (simp [ints]; done), ?_⟩)); exact hN _ rfl); (try simp only [go_sem, Bool.not_not])) | (with_reducible first | apply D8 | apply D9 | refine Tq mixed (by kernel_rfl) (by kernel_rfl) ?_))
   refine TW_cond rfl (fun hc => ?_) (fun hc => ?_)
   ·repeat (first | ((with_reducible first | refine O1 rfl (fun N hN => ?_) | refine O2 rfl rfl rfl (fun N hN => ?_)); simp only [go_sem]; (try refine Or.inl ?_); (repeat (refine ⟨by first | omega | ((try simp only [go_sem, List.length_append, lim, lim2]) <;> omega) | assumption | exact ints_1 _ | exact rfl | (simp [ints]; done), ?_⟩)); (first | refine hN _ ?_ | (intro _ _; refine hN _ ?_)); clear hN N) | with_reducible (first | apply Ea | apply Eb | apply Ec | apply Ed | apply Ee | apply Ef | apply Eg | apply Eh | apply Ei | apply Ej | apply Ek | apply El | apply Em | refine En rfl ?_ | apply Eo | apply Ep | apply Eq1 | apply Er | apply Es) | ((with_reducible first | refine O3 rfl rfl rfl rfl ?_ | refine O4 rfl rfl rfl ?_); simp only [go_sem]))
    (refine ⟨by simp, ?_⟩; simp only [go_sem, Try.results57])
    have : okV t i = false := by
     rw [Bool.eq_false_iff]; intro e
     simp only [okV, Bool.and_eq_true, Bool.or_eq_true, decide_eq_true_eq, Bool.not_eq_true', bne_iff_ne, beq_iff_eq] at e hc
     obtain ⟨⟨e1, e2⟩, e3⟩ := e
     rcases hc with (h | h) | h
     ·rw [e1] at h; cases h
     ·refine h ?_
      unfold lev at e2
      rw [e2, Bool.eq_iff_iff]; simp only [decide_eq_true_eq]; omega
     ·omega
    rw [chk_bad hlt this]
   ·have hok : okV t i = true := by
     simp only [Bool.or_eq_false_iff, decide_eq_false_iff_not, Bool.not_eq_false', bne_eq_false_iff_eq] at hc
     simp only [okV, Bool.and_eq_true, decide_eq_true_eq, beq_iff_eq]
     refine ⟨⟨hc.1.1, ?_⟩, by omega⟩
     unfold lev
     rw [hc.1.2, Bool.eq_iff_iff]; simp only [decide_eq_true_eq]; omega
    have hx' : ∀ j < i + 1, okV t j = true := fun j hj => by
     by_cases hh : j < i
     ·exact hx j hh
     ·have : j = i := by omega
      subst this; exact hok
    repeat (first | ((with_reducible first | refine O1 rfl (fun N hN => ?_) | refine O2 rfl rfl rfl (fun N hN => ?_)); simp only [go_sem, hw]; (try refine Or.inl ?_); (repeat (refine ⟨by first | omega | ((try simp only [go_sem, hw, List.length_append, lim, lim2]) <;> omega) | assumption | exact ints_1 _ | exact rfl | (simp [ints]; done), ?_⟩)); (first | refine hN _ ?_ | (intro _ _; refine hN _ ?_)); clear hN N) | with_reducible (first | apply Ea | apply Eb | apply Ec | apply Ed | apply Ee | apply Ef | apply Eg | apply Eh | apply Ei | apply Ej | apply Ek | apply El | apply Em | refine En rfl ?_ | apply Eo | apply Ep | apply Eq1 | apply Er | apply Es) | ((with_reducible first | refine O3 rfl rfl rfl rfl ?_ | refine O4 rfl rfl rfl ?_); simp only [go_sem, hw]))
    exact ⟨_, _, by omega, ⟨i + 1, by omega, hx', rfl, rfl⟩, Sub_blank [false, true, true, true, true, true, true, true, true, true, true, true, true, true, true, true, true, true, true, true, true, false, false, true, true, true, true, true, true, true, true, true, true, true, true, true, true, true, true, true, true, true, true, true, true, true, true, true, true, true]⟩
  ·have hgood := chk_good hs (fun j hj => hx j (by simp at hc; omega))
   repeat (first | ((with_reducible first | refine O1 rfl (fun N hN => ?_) | refine O2 rfl rfl rfl (fun N hN => ?_)); simp only [go_sem]; (try refine Or.inl ?_); (repeat (refine ⟨by first | omega | ((try simp only [go_sem, List.length_append, lim, lim2]) <;> omega) | assumption | exact ints_1 _ | exact rfl | (simp [ints]; done), ?_⟩)); (first | refine hN _ ?_ | (intro _ _; refine hN _ ?_)); clear hN N) | with_reducible (first | apply Ea | apply Eb | apply Ec | apply Ed | apply Ee | apply Ef | apply Eg | apply Eh | apply Ei | apply Ej | apply Ek | apply El | apply Em | refine En rfl ?_ | apply Eo | apply Ep | apply Eq1 | apply Er | apply Es) | ((with_reducible first | refine O3 rfl rfl rfl rfl ?_ | refine O4 rfl rfl rfl ?_); simp only [go_sem]))
   (refine ⟨by simp, ?_⟩; simp only [go_sem, Try.results57])
   rw [hgood]
def upN (t : List (Int × Int)) (l : Int) : Nat → Int → Int
 | 0, _ => -1
 | f + 1, v => if 0 ≤ v ∧ v < t.length then (if lev t v.toNat = l then v else if par t v.toNat ≥ v then -1 else upN t l f (par t v.toNat)) else -1
def upI (t : List (Int × Int)) (l v : Int) : Int := upN t l t.length v
theorem upN_out {t : List (Int × Int)} {l v : Int} (h : ¬ (0 ≤ v ∧ v < t.length)) : ∀ f, upN t l f v = -1
 | 0 => rfl
 | f + 1 => by unfold upN; rw [if_neg h]
structure Tree (t : List (Int × Int)) : Prop where
 pos : 0 < t.length
 le : t.length ≤ 64
 few : (levL t 3).length ≤ 32
 root : par t 0 = -1 ∧ lev t 0 = 0
 up : ∀ i, 0 < i → i < t.length → 0 ≤ par t i ∧ par t i < i ∧ lev t i = lev t (par t i).toNat + 1
 lv : ∀ i < t.length, 0 ≤ lev t i ∧ lev t i ≤ 3
 leaf : ∀ i < t.length, (lev t i = 3 ↔ (kidsL t i).length = 0)
 kids : ∀ i < t.length, (kidsL t i).length ≤ 8
theorem Tree.of {t : List (Int × Int)} (h : treeB t = true) : Tree t := by
 unfold treeB at h
 rw [Bool.and_eq_true] at h
 obtain ⟨h1, h2⟩ := h
 simp only [smallT, Bool.and_eq_true, decide_eq_true_eq] at h1
 have hok : ∀ i < t.length, okV t i = true := fun i hi => List.all_eq_true.mp h2 i (List.mem_range.mpr hi)
 have hbel : ∀ i < t.length, belB t i = true := fun i hi => by
  have := hok i hi
  simp only [okV, Bool.and_eq_true] at this
  exact this.1.1
 have hroot : par t 0 = -1 ∧ lev t 0 = 0 := by
  have := hbel 0 (by omega)
  unfold belB at this
  rw [if_pos rfl] at this
  simpa using this
 have hstep : ∀ i, 0 < i → i < t.length → 0 ≤ par t i ∧ par t i < i ∧ lev t i = IntKind.i64.wrap (lev t (par t i).toNat + 1) ∧ lev t i ≤ 3 := fun i hi hl => by
  have := hbel i hl
  unfold belB at this
  rw [if_neg (by omega)] at this
  simp only [Bool.and_eq_true, decide_eq_true_eq] at this
  exact ⟨this.1.1.1, this.1.1.2, this.1.2, this.2⟩
 have hlv : ∀ n i, i ≤ n → i < t.length → 0 ≤ lev t i ∧ lev t i ≤ 3 := by
  intro n
  induction n with
  | zero => intro i hi _; have : i = 0 := by omega
            subst this; rw [hroot.2]; omega
  | succ n ih =>
   intro i hi hl
   by_cases h0 : i = 0
   ·subst h0; rw [hroot.2]; omega
   ·obtain ⟨a1, a2, a3, a4⟩ := hstep i (by omega) hl
    have := ih (par t i).toNat (by omega) (by omega)
    rw [wrap_i64 (by omega) (by omega)] at a3
    omega
 refine ⟨by omega, by omega, h1.2, hroot, fun i hi hl => ?_, fun i hl => hlv i i (Nat.le_refl _) hl, fun i hl => ?_, fun i hl => ?_⟩
 ·obtain ⟨a1, a2, a3, a4⟩ := hstep i hi hl
  have := hlv (par t i).toNat (par t i).toNat (Nat.le_refl _) (by omega)
  rw [wrap_i64 (by omega) (by omega)] at a3
  exact ⟨a1, a2, a3⟩
 ·have := hok i hl
  simp only [okV, Bool.and_eq_true, beq_iff_eq] at this
  have h3 := this.1.2
  constructor
  ·intro e; rw [decide_eq_true e] at h3; simpa using h3.symm
  ·intro e; rw [decide_eq_true e] at h3; simpa using h3
 ·have := hok i hl
  simp only [okV, Bool.and_eq_true, decide_eq_true_eq] at this
  exact this.2
theorem Tree.to {t : List (Int × Int)} (h : Tree t) : treeB t = true := by
 unfold treeB
 rw [Bool.and_eq_true]
 have := h.pos; have := h.le; have := h.few
 refine ⟨by simp only [smallT, Bool.and_eq_true, decide_eq_true_eq]; omega, List.all_eq_true.mpr fun i hi => ?_⟩
 have hi := List.mem_range.mp hi
 have h1 := h.leaf i hi
 have h2 := h.kids i hi
 simp only [okV, Bool.and_eq_true, decide_eq_true_eq, beq_iff_eq]
 refine ⟨⟨?_, by rw [Bool.eq_iff_iff, decide_eq_true_eq, decide_eq_true_eq]; exact h1⟩, h2⟩
 unfold belB
 by_cases h0 : i = 0
 ·subst h0; rw [if_pos rfl]; simp [h.root.1, h.root.2]
 ·rw [if_neg h0]
  obtain ⟨a1, a2, a3⟩ := h.up i (by omega) hi
  have b1 := h.lv i hi
  have b2 := h.lv (par t i).toNat (by omega)
  simp only [Bool.and_eq_true, decide_eq_true_eq]
  rw [wrap_i64 (by omega) (by omega)]
  exact ⟨⟨⟨a1, by omega⟩, a3⟩, by omega⟩
theorem chk_iff (t : List (Int × Int)) : chk t = 0 ↔ Tree t := by
 unfold chk
 constructor
 ·intro h
  by_cases e : treeB t = true
  ·exact Tree.of e
  ·rw [if_neg e] at h; cases h
 ·intro h; rw [if_pos h.to]
theorem chk_no {t : List (Int × Int)} (h : ¬ Tree t) : chk t = 2 := by
 unfold chk
 by_cases e : treeB t = true
 ·exact absurd (Tree.of e) h
 ·rw [if_neg e]
theorem kid_mem {t : List (Int × Int)} {v x : Int} : x ∈ kidsL t v ↔ ∃ i : Nat, x = i ∧ i < t.length ∧ par t i = v := by
 unfold kidsL; rw [idxs_mem]; simp
theorem lev_mem {t : List (Int × Int)} {v x : Int} : x ∈ levL t v ↔ ∃ i : Nat, x = i ∧ i < t.length ∧ lev t i = v := by
 unfold levL; rw [idxs_mem]; simp
open BC
/-- Runs: the tree, the size, the rings, the rows, who is plugged. -/
structure Rn where
 t : List (Int × Int)
 size : Int
 rs : List (Int × List Int)
 sh : List (List Int)
 on : Nat
def rgs (l : List (Int × List Int)) : List (List AV) := l.map fun x => [.int .i64 x.1, .sl false (ints x.2)]
def rws (l : List (List Int)) : List (List AV) := l.map fun x => [.sl false (ints x)]
theorem rgs_len (l : List (Int × List Int)) : (rgs l).length = l.length := by simp [rgs]
theorem rws_len (l : List (List Int)) : (rws l).length = l.length := by simp [rws]
theorem rgs_2 (l : List (Int × List Int)) : ∀ y ∈ rgs l, y.length = 2 := by
 intro y hy
 simp only [rgs, List.mem_map] at hy
 obtain ⟨m, _, rfl⟩ := hy
 rfl
theorem rws_1 (l : List (List Int)) : ∀ y ∈ rws l, y.length = 1 := by
 intro y hy
 simp only [rws, List.mem_map] at hy
 obtain ⟨m, _, rfl⟩ := hy
 rfl
def rg (l : List (Int × List Int)) (i : Nat) : Int × List Int := l.getD i (0, [])
def rw' (l : List (List Int)) (i : Nat) : List Int := l.getD i []
theorem rgs_get (l : List (Int × List Int)) (n : Nat) (h : n < l.length) : (rgs l).getD n [] = [.int .i64 (rg l n).1, .sl false (ints (rg l n).2)] := by
 simp [rgs, rg, List.getD_eq_getElem?_getD, List.getElem?_eq_getElem h]
theorem rws_get (l : List (List Int)) (n : Nat) (h : n < l.length) : (rws l).getD n [] = [.sl false (ints (rw' l n))] := by
 simp [rws, rw', List.getD_eq_getElem?_getD, List.getElem?_eq_getElem h]
theorem rg_at {l : List (Int × List Int)} {i : Nat} (h : i < l.length) : rg l i = l[i] := by rw [rg, List.getD_eq_getElem?_getD, List.getElem?_eq_getElem h]; rfl
theorem rw_at {l : List (List Int)} {i : Nat} (h : i < l.length) : rw' l i = l[i] := by rw [rw', List.getD_eq_getElem?_getD, List.getElem?_eq_getElem h]; rfl
theorem rgs_snoc (l : List (Int × List Int)) (n : Int) (k : List Int) : rgs l ++ [[.int .i64 n, .sl false (ints k)]] = rgs (l ++ [(n, k)]) := by simp [rgs]
theorem rws_snoc (l : List (List Int)) (k : List Int) : rws l ++ [[.sl false (ints k)]] = rws (l ++ [k]) := by simp [rws]
theorem rgs_set (l : List (Int × List Int)) (i : Nat) (n : Int) (k : List Int) : (rgs l).set i [.int .i64 n, .sl false (ints k)] = rgs (l.set i (n, k)) := by unfold rgs; rw [List.map_set]
theorem rws_set (l : List (List Int)) (i : Nat) (k : List Int) : (rws l).set i [.sl false (ints k)] = rws (l.set i k) := by unfold rws; rw [List.map_set]
theorem rgs_cat (l m : List (Int × List Int)) : rgs l ++ rgs m = rgs (l ++ m) := by simp [rgs]
theorem rws_cat (l m : List (List Int)) : rws l ++ rws m = rws (l ++ m) := by simp [rws]
theorem rgs_take (l : List (Int × List Int)) (k : Nat) : (rgs l).take k = rgs (l.take k) := by simp [rgs]
theorem rws_take (l : List (List Int)) (k : Nat) : (rws l).take k = rws (l.take k) := by simp [rws]
theorem rgs_drop (l : List (Int × List Int)) (k : Nat) : (rgs l).drop k = rgs (l.drop k) := by simp [rgs]
theorem rws_drop (l : List (List Int)) (k : Nat) : (rws l).drop k = rws (l.drop k) := by simp [rws]
theorem rgs_nil (l : List (Int × List Int)) : (rgs l = []) = (l = []) := by simp [rgs]
theorem rws_nil (l : List (List Int)) : (rws l = []) = (l = []) := by simp [rws]
def runC (r : Rn) : List AV := [.sl false (vts r.t), .int .i64 r.size, .sl false (rgs r.rs), .sl false (rws r.sh), .int .u64 r.on]
attribute [local go_sem] vts_len vts_take vts_drop vts_cat vts_snoc rgs_len rws_len rgs_snoc rws_snoc rgs_cat rws_cat rgs_set rws_set rgs_take rws_take rgs_drop rws_drop rgs_nil rws_nil runC
structure Small (r : Rn) : Prop where
 t : r.t.length ≤ 200
 rs : r.rs.length ≤ 100
 sh : r.sh.length ≤ 100
 rl : ∀ x ∈ r.rs, x.2.length ≤ 4000
 sl : ∀ x ∈ r.sh, x.length ≤ 4000
 on : r.on < 18446744073709551616
def fewB (r : Rn) : Bool := decide (r.t.length ≤ 64) && decide (r.rs.length ≤ 40) && decide (r.sh.length ≤ 40) && r.rs.all (fun x => decide (x.2.length ≤ 40)) && r.sh.all (fun x => decide (x.length ≤ 40))
theorem fewB_iff (r : Rn) : fewB r = true ↔ r.t.length ≤ 64 ∧ r.rs.length ≤ 40 ∧ r.sh.length ≤ 40 ∧ (∀ x ∈ r.rs, x.2.length ≤ 40) ∧ ∀ x ∈ r.sh, x.length ≤ 40 := by
 simp only [fewB, Bool.and_eq_true, decide_eq_true_eq, List.all_eq_true]
 exact ⟨fun ⟨⟨⟨⟨a, b⟩, c⟩, d⟩, e⟩ => ⟨a, b, c, d, e⟩, fun ⟨a, b, c, d, e⟩ => ⟨⟨⟨⟨a, b⟩, c⟩, d⟩, e⟩⟩
theorem fewB_no {r : Rn} (h : ¬ (r.t.length ≤ 64 ∧ r.rs.length ≤ 40 ∧ r.sh.length ≤ 40 ∧ (∀ x ∈ r.rs, x.2.length ≤ 40) ∧ ∀ x ∈ r.sh, x.length ≤ 40)) : fewB r = false := by
 rw [Bool.eq_false_iff]; intro e; exact h ((fewB_iff r).1 e)
theorem few_spec (r : Rn) (h1 : r.t.length ≤ 9223372036854775807) (h2 : r.rs.length ≤ 9223372036854775807) (h3 : r.sh.length ≤ 9223372036854775807) : Ret Try.prog 29 [.agg (runC r)] (.bool (fewB r)) := by
 have hr2 := rgs_2 r.rs
 have hw1 := rws_1 r.sh
 refine Ret_of_body Try.func29 (by kernel_rfl) rfl ?_; rw [Try.ntmps29]
 repeat (first | ((with_reducible first | refine O1 rfl (fun N hN => ?_) | refine O2 rfl rfl rfl (fun N hN => ?_)); simp only [go_sem]; (try refine Or.inl ?_); (repeat (refine ⟨by first | omega | ((try simp only [go_sem, List.length_append, lim, lim2]) <;> omega) | assumption | exact ints_1 _ | exact rfl | (simp [ints]; done), ?_⟩)); (first | refine hN _ ?_ | (intro _ _; refine hN _ ?_)); clear hN N) | with_reducible (first | apply Ea | apply Eb | apply Ec | apply Ed | apply Ee | apply Ef | apply Eg | apply Eh | apply Ei | apply Ej | apply Ek | apply El | apply Em | refine En rfl ?_ | apply Eo | apply Ep | apply Eq1 | apply Er | apply Es) | ((with_reducible first | refine O3 rfl rfl rfl rfl ?_ | refine O4 rfl rfl rfl ?_); simp only [go_sem]) | ((first | ((with_reducible apply D1); exact rfl) | ((with_reducible apply D2); iterate 4 exact rfl)); (intro tq N hH hR hN; (first | (simp only [go_sem] at hR; simp only [hR, hH, go_sem] at hN ⊢) | simp only [hH, go_sem] at hN ⊢); (try refine Or.inl ?_); (repeat (refine ⟨by first | omega | ((try simp only [go_sem, List.length_append, lim, lim2]) <;> omega) | assumption | exact ints_1 _ | exact rfl | (simp [ints]; done), ?_⟩)); exact hN _ rfl); (try simp only [go_sem, Bool.not_not])) | ((first | ((with_reducible apply D5); exact rfl; iterate 4 exact rfl) | ((with_reducible apply D6); exact rfl; iterate 4 exact rfl) | ((with_reducible apply D7); iterate 4 exact rfl)); (try simp only [go_sem, Bool.not_not])) | ((first | ((with_reducible apply D3); iterate 4 exact rfl) | ((with_reducible apply D4); iterate 4 exact rfl)); (intro tq N hcq hH hR hN; (try simp only [beq_true, beq_false, Bool.not_eq_true', Bool.not_eq_false', Bool.and_eq_true, Bool.true_and, Bool.and_true, Bool.not_true, Bool.not_false, if_true] at hcq); have hd := hcq; (try simp only [decide_eq_true_eq, decide_eq_false_iff_not, Bool.or_eq_false_iff, Bool.and_eq_true] at hd); (first | (simp only [hcq, AV.opt_true, Bool.and_eq_true, Bool.true_and, Bool.and_true, Bool.not_true, Bool.not_false, if_true, go_sem] at hR; simp only [hR, hH, hcq, AV.opt_true, Bool.and_eq_true, Bool.true_and, Bool.and_true, Bool.not_true, Bool.not_false, if_true, go_sem] at hN ⊢) | simp only [hH, hcq, AV.opt_true, Bool.and_eq_true, Bool.true_and, Bool.and_true, Bool.not_true, Bool.not_false, if_true, go_sem] at hN ⊢); (try refine Or.inl ?_); (repeat (refine ⟨by first | omega | ((try simp only [go_sem, List.length_append, lim, lim2]) <;> omega) | assumption | exact ints_1 _ | exact rfl | (simp [ints]; done), ?_⟩)); exact hN _ rfl); (try simp only [go_sem, Bool.not_not])) | (with_reducible first | apply D8 | apply D9 | refine Tq mixed (by kernel_rfl) (by kernel_rfl) ?_))
 refine TW_cond rfl (fun hc => ?_) (fun hc => ?_)
 ·repeat (first | ((with_reducible first | refine O1 rfl (fun N hN => ?_) | refine O2 rfl rfl rfl (fun N hN => ?_)); simp only [go_sem]; (try refine Or.inl ?_); (repeat (refine ⟨by first | omega | ((try simp only [go_sem, List.length_append, lim, lim2]) <;> omega) | assumption | exact ints_1 _ | exact rfl | (simp [ints]; done), ?_⟩)); (first | refine hN _ ?_ | (intro _ _; refine hN _ ?_)); clear hN N) | with_reducible (first | apply Ea | apply Eb | apply Ec | apply Ed | apply Ee | apply Ef | apply Eg | apply Eh | apply Ei | apply Ej | apply Ek | apply El | apply Em | refine En rfl ?_ | apply Eo | apply Ep | apply Eq1 | apply Er | apply Es) | ((with_reducible first | refine O3 rfl rfl rfl rfl ?_ | refine O4 rfl rfl rfl ?_); simp only [go_sem]))
  (refine ⟨by simp, ?_⟩; simp only [go_sem, Try.results29])
  simp only [Bool.or_eq_true, decide_eq_true_eq] at hc
  rw [fewB_no (fun e => by omega)]
 ·simp only [Bool.or_eq_false_iff, decide_eq_false_iff_not] at hc
  repeat (first | ((with_reducible first | refine O1 rfl (fun N hN => ?_) | refine O2 rfl rfl rfl (fun N hN => ?_)); simp only [go_sem]; (try refine Or.inl ?_); (repeat (refine ⟨by first | omega | ((try simp only [go_sem, List.length_append, lim, lim2]) <;> omega) | assumption | exact ints_1 _ | exact rfl | (simp [ints]; done), ?_⟩)); (first | refine hN _ ?_ | (intro _ _; refine hN _ ?_)); clear hN N) | with_reducible (first | apply Ea | apply Eb | apply Ec | apply Ed | apply Ee | apply Ef | apply Eg | apply Eh | apply Ei | apply Ej | apply Ek | apply El | apply Em | refine En rfl ?_ | apply Eo | apply Ep | apply Eq1 | apply Er | apply Es) | ((with_reducible first | refine O3 rfl rfl rfl rfl ?_ | refine O4 rfl rfl rfl ?_); simp only [go_sem]))
  refine TW_sub (Sub_blank [true, false, true, false, false, true, true, true, true, true, true, true, true, true, true, true, true, true, true, true, true, true, true, true, true, true, true, true, true, true, true, true, true, true, true, true]) ?_
  refine TW_loop (fun fuel st => ∃ (i : Nat), (i ≤ r.rs.length) ∧ (∀ j < i, (rg r.rs j).2.length ≤ 40) ∧  fuel = r.rs.length - i ∧ st = ⟨[.junk, .ptr 1 0, .junk, .int .i64 i, .junk, .junk, .junk, .junk, .junk, .junk, .junk, .junk, .junk, .junk, .junk, .junk, .junk, .junk, .junk, .junk, .junk, .junk, .junk, .junk, .junk, .junk, .junk, .junk, .junk, .junk, .junk, .junk, .junk, .junk, .junk, .junk, .junk, .junk, .junk, .junk, .junk, .junk, .junk, .junk, .junk, .junk, .junk, .junk, .junk, .junk], [.un, .box [.sl false (vts r.t), .int .i64 r.size, .sl false (rgs r.rs), .sl false (rws r.sh), .int .u64 (↑r.on : Int)], .un, .un, .un, .un, .un, .un, .un, .un, .un, .un, .un, .un, .un, .un, .un, .un, .un, .un, .un, .un, .un, .un, .un, .un, .un, .un, .un, .un, .un, .un, .un, .un, .un, .un, .un, .un, .un, .un, .un, .un, .un, .un, .un, .un, .un, .un, .un, .un], 0⟩) (n := _) ⟨0, by first | omega | (simp; done) | (simp; omega) | assumption, by first | omega | (simp; done) | (simp; omega) | assumption, rfl, rfl⟩ ?_
  rintro fuel st ⟨i, hi, hx, rfl, rfl⟩
  repeat (first | ((with_reducible first | refine O1 rfl (fun N hN => ?_) | refine O2 rfl rfl rfl (fun N hN => ?_)); simp only [go_sem]; (try refine Or.inl ?_); (repeat (refine ⟨by first | omega | ((try simp only [go_sem, List.length_append, lim, lim2]) <;> omega) | assumption | exact ints_1 _ | exact rfl | (simp [ints]; done), ?_⟩)); (first | refine hN _ ?_ | (intro _ _; refine hN _ ?_)); clear hN N) | with_reducible (first | apply Ea | apply Eb | apply Ec | apply Ed | apply Ee | apply Ef | apply Eg | apply Eh | apply Ei | apply Ej | apply Ek | apply El | apply Em | refine En rfl ?_ | apply Eo | apply Ep | apply Eq1 | apply Er | apply Es) | ((with_reducible first | refine O3 rfl rfl rfl rfl ?_ | refine O4 rfl rfl rfl ?_); simp only [go_sem]))
  refine TW_cond rfl (fun hc => ?_) (fun hc => ?_)
  ·have hlt : i < r.rs.length := by simpa using hc
   have hg := rgs_get r.rs i hlt
   have hw := wrap_i64 (n := (i : Int) + 1) (by omega) (by omega)
   repeat (first | ((with_reducible first | refine O1 rfl (fun N hN => ?_) | refine O2 rfl rfl rfl (fun N hN => ?_)); simp only [go_sem, hg]; (try refine Or.inl ?_); (repeat (refine ⟨by first | omega | ((try simp only [go_sem, hg, List.length_append, lim, lim2]) <;> omega) | assumption | exact ints_1 _ | exact rfl | (simp [ints]; done), ?_⟩)); (first | refine hN _ ?_ | (intro _ _; refine hN _ ?_)); clear hN N) | with_reducible (first | apply Ea | apply Eb | apply Ec | apply Ed | apply Ee | apply Ef | apply Eg | apply Eh | apply Ei | apply Ej | apply Ek | apply El | apply Em | refine En rfl ?_ | apply Eo | apply Ep | apply Eq1 | apply Er | apply Es) | ((with_reducible first | refine O3 rfl rfl rfl rfl ?_ | refine O4 rfl rfl rfl ?_); simp only [go_sem, hg]))
   refine TW_cond rfl (fun hc => ?_) (fun hc => ?_)
   ·repeat (first | ((with_reducible first | refine O1 rfl (fun N hN => ?_) | refine O2 rfl rfl rfl (fun N hN => ?_)); simp only [go_sem]; (try refine Or.inl ?_); (repeat (refine ⟨by first | omega | ((try simp only [go_sem, List.length_append, lim, lim2]) <;> omega) | assumption | exact ints_1 _ | exact rfl | (simp [ints]; done), ?_⟩)); (first | refine hN _ ?_ | (intro _ _; refine hN _ ?_)); clear hN N) | with_reducible (first | apply Ea | apply Eb | apply Ec | apply Ed | apply Ee | apply Ef | apply Eg | apply Eh | apply Ei | apply Ej | apply Ek | apply El | apply Em | refine En rfl ?_ | apply Eo | apply Ep | apply Eq1 | apply Er | apply Es) | ((with_reducible first | refine O3 rfl rfl rfl rfl ?_ | refine O4 rfl rfl rfl ?_); simp only [go_sem]))
    (refine ⟨by simp, ?_⟩; simp only [go_sem, Try.results29])
    have : ¬ (rg r.rs i).2.length ≤ 40 := by have : ((rg r.rs i).2.length : Int) > 40 := by simpa using hc
                                             omega
    rw [fewB_no (fun e => this (e.2.2.2.1 _ (by rw [rg_at hlt]; exact List.getElem_mem hlt)))]
   ·have hle : (rg r.rs i).2.length ≤ 40 := by have : ¬ ((rg r.rs i).2.length : Int) > 40 := by simpa using hc
                                               omega
    have hx' : ∀ j < i + 1, (rg r.rs j).2.length ≤ 40 := fun j hj => by
     by_cases hh : j < i
     ·exact hx j hh
     ·have : j = i := by omega
      subst this; exact hle
    repeat (first | ((with_reducible first | refine O1 rfl (fun N hN => ?_) | refine O2 rfl rfl rfl (fun N hN => ?_)); simp only [go_sem, hw]; (try refine Or.inl ?_); (repeat (refine ⟨by first | omega | ((try simp only [go_sem, hw, List.length_append, lim, lim2]) <;> omega) | assumption | exact ints_1 _ | exact rfl | (simp [ints]; done), ?_⟩)); (first | refine hN _ ?_ | (intro _ _; refine hN _ ?_)); clear hN N) | with_reducible (first | apply Ea | apply Eb | apply Ec | apply Ed | apply Ee | apply Ef | apply Eg | apply Eh | apply Ei | apply Ej | apply Ek | apply El | apply Em | refine En rfl ?_ | apply Eo | apply Ep | apply Eq1 | apply Er | apply Es) | ((with_reducible first | refine O3 rfl rfl rfl rfl ?_ | refine O4 rfl rfl rfl ?_); simp only [go_sem, hw]))
    exact ⟨_, _, by omega, ⟨i + 1, by omega, hx', rfl, rfl⟩, Sub_blank [true, false, true, false, false, true, true, true, true, true, true, true, true, true, true, true, true, true, true, true, true, true, true, true, true, true, true, true, true, true, true, true, true, true, true, true]⟩
  ·have hall : ∀ x ∈ r.rs, x.2.length ≤ 40 := fun x hxm => by
    obtain ⟨j, hj, rfl⟩ := List.getElem_of_mem hxm
    have := hx j (by simp at hc; omega)
    rw [rg_at hj] at this; exact this
   repeat (first | ((with_reducible first | refine O1 rfl (fun N hN => ?_) | refine O2 rfl rfl rfl (fun N hN => ?_)); simp only [go_sem]; (try refine Or.inl ?_); (repeat (refine ⟨by first | omega | ((try simp only [go_sem, List.length_append, lim, lim2]) <;> omega) | assumption | exact ints_1 _ | exact rfl | (simp [ints]; done), ?_⟩)); (first | refine hN _ ?_ | (intro _ _; refine hN _ ?_)); clear hN N) | with_reducible (first | apply Ea | apply Eb | apply Ec | apply Ed | apply Ee | apply Ef | apply Eg | apply Eh | apply Ei | apply Ej | apply Ek | apply El | apply Em | refine En rfl ?_ | apply Eo | apply Ep | apply Eq1 | apply Er | apply Es) | ((with_reducible first | refine O3 rfl rfl rfl rfl ?_ | refine O4 rfl rfl rfl ?_); simp only [go_sem]))
   refine TW_sub (Sub_blank [true, false, true, true, false, true, true, true, true, true, true, true, true, true, true, true, true, true, true, true, true, true, true, true, true, true, true, true, true, true, true, true, true, true, true, true, true, true, true, true, true, true, true, true, true, true, true, true, true, true]) ?_
   refine TW_loop (fun fuel st => ∃ (i : Nat), (i ≤ r.sh.length) ∧ (∀ j < i, (rw' r.sh j).length ≤ 40) ∧  fuel = r.sh.length - i ∧ st = ⟨[.junk, .ptr 1 0, .junk, .junk, .int .i64 i, .junk, .junk, .junk, .junk, .junk, .junk, .junk, .junk, .junk, .junk, .junk, .junk, .junk, .junk, .junk, .junk, .junk, .junk, .junk, .junk, .junk, .junk, .junk, .junk, .junk, .junk, .junk, .junk, .junk, .junk, .junk, .junk, .junk, .junk, .junk, .junk, .junk, .junk, .junk, .junk, .junk, .junk, .junk, .junk, .junk], [.un, .box [.sl false (vts r.t), .int .i64 r.size, .sl false (rgs r.rs), .sl false (rws r.sh), .int .u64 (↑r.on : Int)], .un, .un, .un, .un, .un, .un, .un, .un, .un, .un, .un, .un, .un, .un, .un, .un, .un, .un, .un, .un, .un, .un, .un, .un, .un, .un, .un, .un, .un, .un, .un, .un, .un, .un, .un, .un, .un, .un, .un, .un, .un, .un, .un, .un, .un, .un, .un, .un], 0⟩) (n := _) ⟨0, by first | omega | (simp; done) | (simp; omega) | assumption, by first | omega | (simp; done) | (simp; omega) | assumption, rfl, rfl⟩ ?_
   rintro fuel st ⟨i, hi, hy, rfl, rfl⟩
   repeat (first | ((with_reducible first | refine O1 rfl (fun N hN => ?_) | refine O2 rfl rfl rfl (fun N hN => ?_)); simp only [go_sem]; (try refine Or.inl ?_); (repeat (refine ⟨by first | omega | ((try simp only [go_sem, List.length_append, lim, lim2]) <;> omega) | assumption | exact ints_1 _ | exact rfl | (simp [ints]; done), ?_⟩)); (first | refine hN _ ?_ | (intro _ _; refine hN _ ?_)); clear hN N) | with_reducible (first | apply Ea | apply Eb | apply Ec | apply Ed | apply Ee | apply Ef | apply Eg | apply Eh | apply Ei | apply Ej | apply Ek | apply El | apply Em | refine En rfl ?_ | apply Eo | apply Ep | apply Eq1 | apply Er | apply Es) | ((with_reducible first | refine O3 rfl rfl rfl rfl ?_ | refine O4 rfl rfl rfl ?_); simp only [go_sem]))
   refine TW_cond rfl (fun hc => ?_) (fun hc => ?_)
   ·have hlt : i < r.sh.length := by simpa using hc
    have hg := rws_get r.sh i hlt
    have hw := wrap_i64 (n := (i : Int) + 1) (by omega) (by omega)
    repeat (first | ((with_reducible first | refine O1 rfl (fun N hN => ?_) | refine O2 rfl rfl rfl (fun N hN => ?_)); simp only [go_sem, hg]; (try refine Or.inl ?_); (repeat (refine ⟨by first | omega | ((try simp only [go_sem, hg, List.length_append, lim, lim2]) <;> omega) | assumption | exact ints_1 _ | exact rfl | (simp [ints]; done), ?_⟩)); (first | refine hN _ ?_ | (intro _ _; refine hN _ ?_)); clear hN N) | with_reducible (first | apply Ea | apply Eb | apply Ec | apply Ed | apply Ee | apply Ef | apply Eg | apply Eh | apply Ei | apply Ej | apply Ek | apply El | apply Em | refine En rfl ?_ | apply Eo | apply Ep | apply Eq1 | apply Er | apply Es) | ((with_reducible first | refine O3 rfl rfl rfl rfl ?_ | refine O4 rfl rfl rfl ?_); simp only [go_sem, hg]))
    refine TW_cond rfl (fun hc => ?_) (fun hc => ?_)
    ·repeat (first | ((with_reducible first | refine O1 rfl (fun N hN => ?_) | refine O2 rfl rfl rfl (fun N hN => ?_)); simp only [go_sem]; (try refine Or.inl ?_); (repeat (refine ⟨by first | omega | ((try simp only [go_sem, List.length_append, lim, lim2]) <;> omega) | assumption | exact ints_1 _ | exact rfl | (simp [ints]; done), ?_⟩)); (first | refine hN _ ?_ | (intro _ _; refine hN _ ?_)); clear hN N) | with_reducible (first | apply Ea | apply Eb | apply Ec | apply Ed | apply Ee | apply Ef | apply Eg | apply Eh | apply Ei | apply Ej | apply Ek | apply El | apply Em | refine En rfl ?_ | apply Eo | apply Ep | apply Eq1 | apply Er | apply Es) | ((with_reducible first | refine O3 rfl rfl rfl rfl ?_ | refine O4 rfl rfl rfl ?_); simp only [go_sem]))
     (refine ⟨by simp, ?_⟩; simp only [go_sem, Try.results29])
     have : ¬ (rw' r.sh i).length ≤ 40 := by have : ((rw' r.sh i).length : Int) > 40 := by simpa using hc
                                             omega
     rw [fewB_no (fun e => this (e.2.2.2.2 _ (by rw [rw_at hlt]; exact List.getElem_mem hlt)))]
    ·have hle : (rw' r.sh i).length ≤ 40 := by have : ¬ ((rw' r.sh i).length : Int) > 40 := by simpa using hc
                                               omega
     have hy' : ∀ j < i + 1, (rw' r.sh j).length ≤ 40 := fun j hj => by
      by_cases hh : j < i
      ·exact hy j hh
      ·have : j = i := by omega
       subst this; exact hle
     repeat (first | ((with_reducible first | refine O1 rfl (fun N hN => ?_) | refine O2 rfl rfl rfl (fun N hN => ?_)); simp only [go_sem, hw]; (try refine Or.inl ?_); (repeat (refine ⟨by first | omega | ((try simp only [go_sem, hw, List.length_append, lim, lim2]) <;> omega) | assumption | exact ints_1 _ | exact rfl | (simp [ints]; done), ?_⟩)); (first | refine hN _ ?_ | (intro _ _; refine hN _ ?_)); clear hN N) | with_reducible (first | apply Ea | apply Eb | apply Ec | apply Ed | apply Ee | apply Ef | apply Eg | apply Eh | apply Ei | apply Ej | apply Ek | apply El | apply Em | refine En rfl ?_ | apply Eo | apply Ep | apply Eq1 | apply Er | apply Es) | ((with_reducible first | refine O3 rfl rfl rfl rfl ?_ | refine O4 rfl rfl rfl ?_); simp only [go_sem, hw]))
     exact ⟨_, _, by omega, ⟨i + 1, by omega, hy', rfl, rfl⟩, Sub_blank [true, false, true, true, false, true, true, true, true, true, true, true, true, true, true, true, true, true, true, true, true, true, true, true, true, true, true, true, true, true, true, true, true, true, true, true, true, true, true, true, true, true, true, true, true, true, true, true, true, true]⟩
   ·have hall2 : ∀ x ∈ r.sh, x.length ≤ 40 := fun x hxm => by
     obtain ⟨j, hj, rfl⟩ := List.getElem_of_mem hxm
     have := hy j (by simp at hc; omega)
     rw [rw_at hj] at this; exact this
    have hcc := (fewB_iff r).2 ⟨by omega, by omega, by omega, hall, hall2⟩
    repeat (first | ((with_reducible first | refine O1 rfl (fun N hN => ?_) | refine O2 rfl rfl rfl (fun N hN => ?_)); simp only [go_sem]; (try refine Or.inl ?_); (repeat (refine ⟨by first | omega | ((try simp only [go_sem, List.length_append, lim, lim2]) <;> omega) | assumption | exact ints_1 _ | exact rfl | (simp [ints]; done), ?_⟩)); (first | refine hN _ ?_ | (intro _ _; refine hN _ ?_)); clear hN N) | with_reducible (first | apply Ea | apply Eb | apply Ec | apply Ed | apply Ee | apply Ef | apply Eg | apply Eh | apply Ei | apply Ej | apply Ek | apply El | apply Em | refine En rfl ?_ | apply Eo | apply Ep | apply Eq1 | apply Er | apply Es) | ((with_reducible first | refine O3 rfl rfl rfl rfl ?_ | refine O4 rfl rfl rfl ?_); simp only [go_sem]))
    (refine ⟨by simp, ?_⟩; simp only [go_sem, Try.results29])
    rw [hcc]
theorem vts_nil (l : List (Int × Int)) : (vts l = []) = (l = []) := by simp [vts]
attribute [local go_sem] vts_len vts_take vts_drop vts_cat vts_snoc rgs_len rws_len rgs_snoc rws_snoc rgs_cat rws_cat rgs_set rws_set rgs_take rws_take rgs_drop rws_drop rgs_nil rws_nil runC vts_nil
theorem cloneW_spec (f : Bool) (l : List (List Int)) (hl : l.length ≤ 1000000) : RetH Try.prog 89 [.sl f (rws l)] [] (.bsl 0) [.arr 41 1 (rws l)] := by
 have hrr := rws_1 l
 refine RetA_of_body Try.func89 (by kernel_rfl) rfl ?_; rw [Try.ntmps89]
 by_cases h : l = []
 ·subst h
  repeat (first | ((with_reducible first | refine O1 rfl (fun N hN => ?_) | refine O2 rfl rfl rfl (fun N hN => ?_)); simp only [go_sem]; (try refine Or.inl ?_); (repeat (refine ⟨by first | omega | ((try simp only [go_sem, List.length_append, lim, lim2]) <;> omega) | assumption | exact ints_1 _ | exact rfl | (simp [ints]; done), ?_⟩)); (first | refine hN _ ?_ | (intro _ _; refine hN _ ?_)); clear hN N) | with_reducible (first | apply Ea | apply Eb | apply Ec | apply Ed | apply Ee | apply Ef | apply Eg | apply Eh | apply Ei | apply Ej | apply Ek | apply El | apply Em | refine En rfl ?_ | apply Eo | apply Ep | apply Eq1 | apply Er | apply Es) | ((with_reducible first | refine O3 rfl rfl rfl rfl ?_ | refine O4 rfl rfl rfl ?_); simp only [go_sem]))
  refine TW_cond rfl (fun hc => ?_) (fun hc => ?_)
  ·repeat (first | ((with_reducible first | refine O1 rfl (fun N hN => ?_) | refine O2 rfl rfl rfl (fun N hN => ?_)); simp only [go_sem]; (try refine Or.inl ?_); (repeat (refine ⟨by first | omega | ((try simp only [go_sem, List.length_append, lim, lim2]) <;> omega) | assumption | exact ints_1 _ | exact rfl | (simp [ints]; done), ?_⟩)); (first | refine hN _ ?_ | (intro _ _; refine hN _ ?_)); clear hN N) | with_reducible (first | apply Ea | apply Eb | apply Ec | apply Ed | apply Ee | apply Ef | apply Eg | apply Eh | apply Ei | apply Ej | apply Ek | apply El | apply Em | refine En rfl ?_ | apply Eo | apply Ep | apply Eq1 | apply Er | apply Es) | ((with_reducible first | refine O3 rfl rfl rfl rfl ?_ | refine O4 rfl rfl rfl ?_); simp only [go_sem]))
   (refine ⟨by simp, ?_⟩; simp only [go_sem, Try.results89])
   exact .inr trivial
  ·repeat (first | ((with_reducible first | refine O1 rfl (fun N hN => ?_) | refine O2 rfl rfl rfl (fun N hN => ?_)); simp only [go_sem]; (try refine Or.inl ?_); (repeat (refine ⟨by first | omega | ((try simp only [go_sem, List.length_append, lim, lim2]) <;> omega) | assumption | exact ints_1 _ | exact rfl | (simp [ints]; done), ?_⟩)); (first | refine hN _ ?_ | (intro _ _; refine hN _ ?_)); clear hN N) | with_reducible (first | apply Ea | apply Eb | apply Ec | apply Ed | apply Ee | apply Ef | apply Eg | apply Eh | apply Ei | apply Ej | apply Ek | apply El | apply Em | refine En rfl ?_ | apply Eo | apply Ep | apply Eq1 | apply Er | apply Es) | ((with_reducible first | refine O3 rfl rfl rfl rfl ?_ | refine O4 rfl rfl rfl ?_); simp only [go_sem]))
   (refine ⟨by simp, ?_⟩; simp only [go_sem, Try.results89])
   exact .inl ⟨7, rfl, rfl⟩
 ·repeat (first | ((with_reducible first | refine O1 rfl (fun N hN => ?_) | refine O2 rfl rfl rfl (fun N hN => ?_)); simp only [go_sem, h]; (try refine Or.inl ?_); (repeat (refine ⟨by first | omega | ((try simp only [go_sem, h, List.length_append, lim, lim2]) <;> omega) | assumption | exact ints_1 _ | exact rfl | (simp [ints]; done), ?_⟩)); (first | refine hN _ ?_ | (intro _ _; refine hN _ ?_)); clear hN N) | with_reducible (first | apply Ea | apply Eb | apply Ec | apply Ed | apply Ee | apply Ef | apply Eg | apply Eh | apply Ei | apply Ej | apply Ek | apply El | apply Em | refine En rfl ?_ | apply Eo | apply Ep | apply Eq1 | apply Er | apply Es) | ((with_reducible first | refine O3 rfl rfl rfl rfl ?_ | refine O4 rfl rfl rfl ?_); simp only [go_sem, h]))
  refine TW_cond rfl (fun hc => absurd hc (by simp)) (fun hc => ?_)
  repeat (first | ((with_reducible first | refine O1 rfl (fun N hN => ?_) | refine O2 rfl rfl rfl (fun N hN => ?_)); simp only [go_sem]; (try refine Or.inl ?_); (repeat (refine ⟨by first | omega | ((try simp only [go_sem, List.length_append, lim, lim2]) <;> omega) | assumption | exact ints_1 _ | exact rfl | (simp [ints]; done), ?_⟩)); (first | refine hN _ ?_ | (intro _ _; refine hN _ ?_)); clear hN N) | with_reducible (first | apply Ea | apply Eb | apply Ec | apply Ed | apply Ee | apply Ef | apply Eg | apply Eh | apply Ei | apply Ej | apply Ek | apply El | apply Em | refine En rfl ?_ | apply Eo | apply Ep | apply Eq1 | apply Er | apply Es) | ((with_reducible first | refine O3 rfl rfl rfl rfl ?_ | refine O4 rfl rfl rfl ?_); simp only [go_sem]))
  (refine ⟨by simp, ?_⟩; simp only [go_sem, Try.results89])
  exact .inl ⟨7, rfl, rfl⟩
theorem cloneV_spec (f : Bool) (l : List (Int × Int)) (hl : l.length ≤ 1000000) : RetH Try.prog 58 [.sl f (vts l)] [] (.bsl 0) [.arr 73 2 (vts l)] := by
 have hrr := vts_2 l
 refine RetA_of_body Try.func58 (by kernel_rfl) rfl ?_; rw [Try.ntmps58]
 by_cases h : l = []
 ·subst h
  repeat (first | ((with_reducible first | refine O1 rfl (fun N hN => ?_) | refine O2 rfl rfl rfl (fun N hN => ?_)); simp only [go_sem]; (try refine Or.inl ?_); (repeat (refine ⟨by first | omega | ((try simp only [go_sem, List.length_append, lim, lim2]) <;> omega) | assumption | exact ints_1 _ | exact rfl | (simp [ints]; done), ?_⟩)); (first | refine hN _ ?_ | (intro _ _; refine hN _ ?_)); clear hN N) | with_reducible (first | apply Ea | apply Eb | apply Ec | apply Ed | apply Ee | apply Ef | apply Eg | apply Eh | apply Ei | apply Ej | apply Ek | apply El | apply Em | refine En rfl ?_ | apply Eo | apply Ep | apply Eq1 | apply Er | apply Es) | ((with_reducible first | refine O3 rfl rfl rfl rfl ?_ | refine O4 rfl rfl rfl ?_); simp only [go_sem]))
  refine TW_cond rfl (fun hc => ?_) (fun hc => ?_)
  ·repeat (first | ((with_reducible first | refine O1 rfl (fun N hN => ?_) | refine O2 rfl rfl rfl (fun N hN => ?_)); simp only [go_sem]; (try refine Or.inl ?_); (repeat (refine ⟨by first | omega | ((try simp only [go_sem, List.length_append, lim, lim2]) <;> omega) | assumption | exact ints_1 _ | exact rfl | (simp [ints]; done), ?_⟩)); (first | refine hN _ ?_ | (intro _ _; refine hN _ ?_)); clear hN N) | with_reducible (first | apply Ea | apply Eb | apply Ec | apply Ed | apply Ee | apply Ef | apply Eg | apply Eh | apply Ei | apply Ej | apply Ek | apply El | apply Em | refine En rfl ?_ | apply Eo | apply Ep | apply Eq1 | apply Er | apply Es) | ((with_reducible first | refine O3 rfl rfl rfl rfl ?_ | refine O4 rfl rfl rfl ?_); simp only [go_sem]))
   (refine ⟨by simp, ?_⟩; simp only [go_sem, Try.results58])
   exact .inr trivial
  ·repeat (first | ((with_reducible first | refine O1 rfl (fun N hN => ?_) | refine O2 rfl rfl rfl (fun N hN => ?_)); simp only [go_sem]; (try refine Or.inl ?_); (repeat (refine ⟨by first | omega | ((try simp only [go_sem, List.length_append, lim, lim2]) <;> omega) | assumption | exact ints_1 _ | exact rfl | (simp [ints]; done), ?_⟩)); (first | refine hN _ ?_ | (intro _ _; refine hN _ ?_)); clear hN N) | with_reducible (first | apply Ea | apply Eb | apply Ec | apply Ed | apply Ee | apply Ef | apply Eg | apply Eh | apply Ei | apply Ej | apply Ek | apply El | apply Em | refine En rfl ?_ | apply Eo | apply Ep | apply Eq1 | apply Er | apply Es) | ((with_reducible first | refine O3 rfl rfl rfl rfl ?_ | refine O4 rfl rfl rfl ?_); simp only [go_sem]))
   (refine ⟨by simp, ?_⟩; simp only [go_sem, Try.results58])
   exact .inl ⟨7, rfl, rfl⟩
 ·repeat (first | ((with_reducible first | refine O1 rfl (fun N hN => ?_) | refine O2 rfl rfl rfl (fun N hN => ?_)); simp only [go_sem, h]; (try refine Or.inl ?_); (repeat (refine ⟨by first | omega | ((try simp only [go_sem, h, List.length_append, lim, lim2]) <;> omega) | assumption | exact ints_1 _ | exact rfl | (simp [ints]; done), ?_⟩)); (first | refine hN _ ?_ | (intro _ _; refine hN _ ?_)); clear hN N) | with_reducible (first | apply Ea | apply Eb | apply Ec | apply Ed | apply Ee | apply Ef | apply Eg | apply Eh | apply Ei | apply Ej | apply Ek | apply El | apply Em | refine En rfl ?_ | apply Eo | apply Ep | apply Eq1 | apply Er | apply Es) | ((with_reducible first | refine O3 rfl rfl rfl rfl ?_ | refine O4 rfl rfl rfl ?_); simp only [go_sem, h]))
  refine TW_cond rfl (fun hc => absurd hc (by simp)) (fun hc => ?_)
  repeat (first | ((with_reducible first | refine O1 rfl (fun N hN => ?_) | refine O2 rfl rfl rfl (fun N hN => ?_)); simp only [go_sem]; (try refine Or.inl ?_); (repeat (refine ⟨by first | omega | ((try simp only [go_sem, List.length_append, lim, lim2]) <;> omega) | assumption | exact ints_1 _ | exact rfl | (simp [ints]; done), ?_⟩)); (first | refine hN _ ?_ | (intro _ _; refine hN _ ?_)); clear hN N) | with_reducible (first | apply Ea | apply Eb | apply Ec | apply Ed | apply Ee | apply Ef | apply Eg | apply Eh | apply Ei | apply Ej | apply Ek | apply El | apply Em | refine En rfl ?_ | apply Eo | apply Ep | apply Eq1 | apply Er | apply Es) | ((with_reducible first | refine O3 rfl rfl rfl rfl ?_ | refine O4 rfl rfl rfl ?_); simp only [go_sem]))
  (refine ⟨by simp, ?_⟩; simp only [go_sem, Try.results58])
  exact .inl ⟨7, rfl, rfl⟩
def flatR (l : List (Int × List Int)) : List Int := (l.map fun x => allR x.1 x.2).flatten
theorem flatR_succ (l : List (Int × List Int)) (i : Nat) (h : i < l.length) : flatR (l.take (i + 1)) = flatR (l.take i) ++ allR (rg l i).1 (rg l i).2 := by
 rw [List.take_succ_eq_append_getElem h, rg_at h]; unfold flatR; rw [List.map_append, List.flatten_append]; simp only [List.map_cons, List.map_nil, List.flatten_cons, List.flatten_nil, List.append_nil]
theorem flatS_succ (l : List (List Int)) (i : Nat) (h : i < l.length) : (l.take (i + 1)).flatten = (l.take i).flatten ++ rw' l i := by
 rw [List.take_succ_eq_append_getElem h, rw_at h, List.flatten_append]; simp only [List.flatten_cons, List.flatten_nil, List.append_nil]
theorem flatR_len (B : Nat) : ∀ (l : List (Int × List Int)), (∀ x ∈ l, x.2.length ≤ B) → (flatR l).length ≤ l.length * (B + 1)
 | [], _ => by simp [flatR]
 | x :: l, h => by
  have h1 := flatR_len B l fun y hy => h y (List.mem_cons_of_mem _ hy)
  have h2 := h x (by simp)
  have h3 := allR_len x.1 x.2
  have : flatR (x :: l) = allR x.1 x.2 ++ flatR l := by simp [flatR]
  rw [this, List.length_append, List.length_cons, Nat.succ_mul]; omega
theorem flatS_len (B : Nat) : ∀ (l : List (List Int)), (∀ x ∈ l, x.length ≤ B) → l.flatten.length ≤ l.length * B
 | [], _ => by simp
 | x :: l, h => by
  have h1 := flatS_len B l fun y hy => h y (List.mem_cons_of_mem _ hy)
  have h2 := h x (by simp)
  rw [List.flatten_cons, List.length_append, List.length_cons, Nat.succ_mul]; omega
def allN (r : Rn) : List Int := flatR r.rs ++ r.sh.flatten
theorem flatR_take {r : Rn} (h : Small r) (i : Nat) : (flatR (r.rs.take i)).length ≤ 400100 := by
 have h1 := flatR_len 4000 (r.rs.take i) fun x hx => h.rl x (List.mem_of_mem_take hx)
 have h2 := h.rs
 rw [List.length_take] at h1
 have : min i r.rs.length * (4000 + 1) ≤ 100 * 4001 := Nat.mul_le_mul_right _ (by omega)
 omega
theorem flatS_take {r : Rn} (h : Small r) (i : Nat) : ((r.sh.take i).flatten).length ≤ 400000 := by
 have h1 := flatS_len 4000 (r.sh.take i) fun x hx => h.sl x (List.mem_of_mem_take hx)
 have h2 := h.sh
 rw [List.length_take] at h1
 have : min i r.sh.length * 4000 ≤ 100 * 4000 := Nat.mul_le_mul_right _ (by omega)
 omega
theorem allN_len {r : Rn} (h : Small r) : (allN r).length ≤ 800100 := by
 have h1 := flatR_take h r.rs.length
 have h2 := flatS_take h r.sh.length
 rw [List.take_length] at h1 h2
 unfold allN; rw [List.length_append]; omega
theorem all26_spec (r : Rn) (h : Small r) : Ret Try.prog 26 [.agg (runC r)] (.sl false (ints (allN r))) := by
 have hr2 := rgs_2 r.rs
 have hw1 := rws_1 r.sh
 have := h.rs; have := h.sh; have := h.t
 refine Ret_of_body Try.func26 (by kernel_rfl) rfl ?_; rw [Try.ntmps26]
 repeat (first | ((with_reducible first | refine O1 rfl (fun N hN => ?_) | refine O2 rfl rfl rfl (fun N hN => ?_)); simp only [go_sem]; (try refine Or.inl ?_); (repeat (refine ⟨by first | omega | ((try simp only [go_sem, List.length_append, lim, lim2]) <;> omega) | assumption | exact ints_1 _ | exact rfl | (simp [ints]; done), ?_⟩)); (first | refine hN _ ?_ | (intro _ _; refine hN _ ?_)); clear hN N) | with_reducible (first | apply Ea | apply Eb | apply Ec | apply Ed | apply Ee | apply Ef | apply Eg | apply Eh | apply Ei | apply Ej | apply Ek | apply El | apply Em | refine En rfl ?_ | apply Eo | apply Ep | apply Eq1 | apply Er | apply Es) | ((with_reducible first | refine O3 rfl rfl rfl rfl ?_ | refine O4 rfl rfl rfl ?_); simp only [go_sem]))
 refine TW_sub (Sub_grow (t := 3) (id := 3) 3 1 rfl rfl (Nat.zero_le _)) ?_
 simp only [go_sem]
 have hz : [] = flatR (r.rs.take 0) := rfl
 refine TW_sub (Sub_blank [true, false, false, false, true, true, true, false, true, false, false, false, true, true, true, true, true, true, true, true]) ?_
 refine TW_loop (fun fuel st => ∃ (i : Nat) (u : List Int), (i ≤ r.rs.length) ∧ (u = flatR (r.rs.take i)) ∧  fuel = r.rs.length - i ∧ st = ⟨[.junk, .ptr 1 0, .nils, .bsl 3, .junk, .junk, .junk, .junk, .junk, .sl false (rgs r.rs), .int .i64 (↑r.rs.length : Int), .int .i64 i, .junk, .junk, .junk, .junk, .junk, .junk, .junk, .junk, .junk, .junk, .junk, .junk, .junk, .junk, .junk, .junk, .junk, .junk, .junk, .junk], [.un, .box [.sl false (vts r.t), .int .i64 r.size, .sl false (rgs r.rs), .sl false (rws r.sh), .int .u64 (↑r.on : Int)], .un, .arr 3 1 (ints u), .un, .un, .un, .un, .un, .un, .un, .un, .un, .un, .un, .un, .un, .un, .un, .un, .un, .un, .un, .un, .un, .un, .un, .un, .un, .un, .un, .un], 0⟩) (n := _) ⟨0, [], by first | omega | (simp; done) | (simp; omega) | assumption, by first | omega | (simp; done) | (simp; omega) | assumption, rfl, rfl⟩ ?_
 rintro fuel st ⟨i, u, hi, hu, rfl, rfl⟩
 have hul := flatR_take h i
 rw [← hu] at hul
 repeat (first | ((with_reducible first | refine O1 rfl (fun N hN => ?_) | refine O2 rfl rfl rfl (fun N hN => ?_)); simp only [go_sem]; (try refine Or.inl ?_); (repeat (refine ⟨by first | omega | ((try simp only [go_sem, List.length_append, lim, lim2]) <;> omega) | assumption | exact ints_1 _ | exact rfl | (simp [ints]; done), ?_⟩)); (first | refine hN _ ?_ | (intro _ _; refine hN _ ?_)); clear hN N) | with_reducible (first | apply Ea | apply Eb | apply Ec | apply Ed | apply Ee | apply Ef | apply Eg | apply Eh | apply Ei | apply Ej | apply Ek | apply El | apply Em | refine En rfl ?_ | apply Eo | apply Ep | apply Eq1 | apply Er | apply Es) | ((with_reducible first | refine O3 rfl rfl rfl rfl ?_ | refine O4 rfl rfl rfl ?_); simp only [go_sem]))
 refine TW_cond rfl (fun hc => ?_) (fun hc => ?_)
 ·have hlt : i < r.rs.length := by simpa using hc
  have hg := rgs_get r.rs i hlt
  have hw := wrap_i64 (n := (i : Int) + 1) (by omega) (by omega)
  have hel : (rg r.rs i).2.length ≤ 4000 := h.rl _ (by rw [rg_at hlt]; exact List.getElem_mem hlt)
  have hal := allR_len (rg r.rs i).1 (rg r.rs i).2
  have hs := flatR_succ r.rs i hlt
  rw [← hu] at hs
  repeat (first | ((with_reducible first | refine O1 rfl (fun N hN => ?_) | refine O2 rfl rfl rfl (fun N hN => ?_)); simp only [go_sem, hg]; (try refine Or.inl ?_); (repeat (refine ⟨by first | omega | ((try simp only [go_sem, hg, List.length_append, lim, lim2]) <;> omega) | assumption | exact ints_1 _ | exact rfl | (simp [ints]; done), ?_⟩)); (first | refine hN _ ?_ | (intro _ _; refine hN _ ?_)); clear hN N) | with_reducible (first | apply Ea | apply Eb | apply Ec | apply Ed | apply Ee | apply Ef | apply Eg | apply Eh | apply Ei | apply Ej | apply Ek | apply El | apply Em | refine En rfl ?_ | apply Eo | apply Ep | apply Eq1 | apply Er | apply Es) | ((with_reducible first | refine O3 rfl rfl rfl rfl ?_ | refine O4 rfl rfl rfl ?_); simp only [go_sem, hg]))
  ((with_reducible first | refine O1 rfl (fun N hN => ?_) | refine O2 rfl rfl rfl (fun N hN => ?_)); simp only [go_sem, hg]; refine vCall.pu _ _ (rall_spec false (rg r.rs i).1 (rg r.rs i).2 (by omega)) ?ha23 (hN _ ?hk23); (case ha23 => (first | (simp only [go_sem, hg]; done) | (simp only [go_sem, hg] <;> (first | omega | ((try simp only [go_sem, hg, List.length_append, lim, lim2]) <;> omega) | assumption | exact ints_1 _ | exact rfl | (simp [ints]; done))) | (simp [ints]; done))); clear hN N; apply Ops_eq; (simp only [go_sem, hg]; rfl))
  repeat (first | ((with_reducible first | refine O1 rfl (fun N hN => ?_) | refine O2 rfl rfl rfl (fun N hN => ?_)); simp only [go_sem, hw]; (try refine Or.inl ?_); (repeat (refine ⟨by first | omega | ((try simp only [go_sem, hw, List.length_append, lim, lim2]) <;> omega) | assumption | exact ints_1 _ | exact rfl | (simp [ints]; done), ?_⟩)); (first | refine hN _ ?_ | (intro _ _; refine hN _ ?_)); clear hN N) | with_reducible (first | apply Ea | apply Eb | apply Ec | apply Ed | apply Ee | apply Ef | apply Eg | apply Eh | apply Ei | apply Ej | apply Ek | apply El | apply Em | refine En rfl ?_ | apply Eo | apply Ep | apply Eq1 | apply Er | apply Es) | ((with_reducible first | refine O3 rfl rfl rfl rfl ?_ | refine O4 rfl rfl rfl ?_); simp only [go_sem, hw]))
  (refine ⟨(fun (i : Nat) (u : List Int) => r.rs.length - i) (i + 1) ( u ++ allR (rg r.rs i).1 (rg r.rs i).2), _, ?hm, ?hI, (Sub.trans (Sub_swap 3 18 (by first | (simp; done) | (simp [swap]; done)) (by first | (simp; done) | (simp [swap]; done)) (Nat.le_of_ble_eq_true rfl) (Nat.le_of_ble_eq_true rfl)) (Sub.trans (Sub_forget [18, 5] rfl) (Sub_blank [true, false, false, false, true, true, true, false, true, false, false, false, true, true, true, true, true, true, true, true])))⟩; (case hm => (first | omega | (simp only; omega) | (simp only [List.length_cons]; omega))); (case hI => (simp only [go_sem, forget, swap, scrL, scr, scrH, scrO, renL, ren, renO, sw, blankL, List.contains_cons, List.contains_nil, Nat.reduceBEq, Bool.or_false, Bool.false_or, Bool.or_true, Bool.true_or, Bool.false_eq_true, if_true, if_false] <;> exact ⟨i + 1, u ++ allR (rg r.rs i).1 (rg r.rs i).2, by omega, hs.symm, rfl, rfl⟩)))
 ·have hi2 : u = flatR r.rs := by
   have : ¬ (i < r.rs.length) := by simpa using hc
   rw [hu, List.take_of_length_le (by omega)]
  repeat (first | ((with_reducible first | refine O1 rfl (fun N hN => ?_) | refine O2 rfl rfl rfl (fun N hN => ?_)); simp only [go_sem]; (try refine Or.inl ?_); (repeat (refine ⟨by first | omega | ((try simp only [go_sem, List.length_append, lim, lim2]) <;> omega) | assumption | exact ints_1 _ | exact rfl | (simp [ints]; done), ?_⟩)); (first | refine hN _ ?_ | (intro _ _; refine hN _ ?_)); clear hN N) | with_reducible (first | apply Ea | apply Eb | apply Ec | apply Ed | apply Ee | apply Ef | apply Eg | apply Eh | apply Ei | apply Ej | apply Ek | apply El | apply Em | refine En rfl ?_ | apply Eo | apply Ep | apply Eq1 | apply Er | apply Es) | ((with_reducible first | refine O3 rfl rfl rfl rfl ?_ | refine O4 rfl rfl rfl ?_); simp only [go_sem]))
  have hz2 : u = u ++ (r.sh.take 0).flatten := by simp
  refine TW_sub (Sub_blank [true, true, false, false, true, true, true, true, true, true, true, true, true, true, true, true, true, true, true, true, true, false, false, false, true, true, true, true, true, true, true]) ?_
  refine TW_loop (fun fuel st => ∃ (j : Nat) (v : List Int), (j ≤ r.sh.length) ∧ (v = u ++ (r.sh.take j).flatten) ∧  fuel = r.sh.length - j ∧ st = ⟨[.junk, .junk, .nils, .bsl 3, .junk, .junk, .junk, .junk, .junk, .junk, .junk, .junk, .junk, .junk, .junk, .junk, .junk, .junk, .junk, .junk, .junk, .sl false (rws r.sh), .int .i64 (↑r.sh.length : Int), .int .i64 j, .junk, .junk, .junk, .junk, .junk, .junk, .junk, .junk], [.un, .box [.sl false (vts r.t), .int .i64 r.size, .sl false (rgs r.rs), .sl false (rws r.sh), .int .u64 (↑r.on : Int)], .un, .arr 3 1 (ints v), .un, .un, .un, .un, .un, .un, .un, .un, .un, .un, .un, .un, .un, .un, .un, .un, .un, .un, .un, .un, .un, .un, .un, .un, .un, .un, .un, .un], 0⟩) (n := _) ⟨0, u, by first | omega | (simp; done) | (simp; omega) | assumption, by first | omega | (simp; done) | (simp; omega) | assumption, rfl, rfl⟩ ?_
  rintro fuel st ⟨j, v, hj, hv, rfl, rfl⟩
  have hvl := flatS_take h j
  have hvl2 : v.length ≤ 800100 := by rw [hv, List.length_append]; omega
  repeat (first | ((with_reducible first | refine O1 rfl (fun N hN => ?_) | refine O2 rfl rfl rfl (fun N hN => ?_)); simp only [go_sem]; (try refine Or.inl ?_); (repeat (refine ⟨by first | omega | ((try simp only [go_sem, List.length_append, lim, lim2]) <;> omega) | assumption | exact ints_1 _ | exact rfl | (simp [ints]; done), ?_⟩)); (first | refine hN _ ?_ | (intro _ _; refine hN _ ?_)); clear hN N) | with_reducible (first | apply Ea | apply Eb | apply Ec | apply Ed | apply Ee | apply Ef | apply Eg | apply Eh | apply Ei | apply Ej | apply Ek | apply El | apply Em | refine En rfl ?_ | apply Eo | apply Ep | apply Eq1 | apply Er | apply Es) | ((with_reducible first | refine O3 rfl rfl rfl rfl ?_ | refine O4 rfl rfl rfl ?_); simp only [go_sem]))
  refine TW_cond rfl (fun hc => ?_) (fun hc => ?_)
  ·have hlt : j < r.sh.length := by simpa using hc
   have hg := rws_get r.sh j hlt
   have hw := wrap_i64 (n := (j : Int) + 1) (by omega) (by omega)
   have hel : (rw' r.sh j).length ≤ 4000 := h.sl _ (by rw [rw_at hlt]; exact List.getElem_mem hlt)
   have hs := flatS_succ r.sh j hlt
   repeat (first | ((with_reducible first | refine O1 rfl (fun N hN => ?_) | refine O2 rfl rfl rfl (fun N hN => ?_)); simp only [go_sem, hg, hw]; (try refine Or.inl ?_); (repeat (refine ⟨by first | omega | ((try simp only [go_sem, hg, hw, List.length_append, lim, lim2]) <;> omega) | assumption | exact ints_1 _ | exact rfl | (simp [ints]; done), ?_⟩)); (first | refine hN _ ?_ | (intro _ _; refine hN _ ?_)); clear hN N) | with_reducible (first | apply Ea | apply Eb | apply Ec | apply Ed | apply Ee | apply Ef | apply Eg | apply Eh | apply Ei | apply Ej | apply Ek | apply El | apply Em | refine En rfl ?_ | apply Eo | apply Ep | apply Eq1 | apply Er | apply Es) | ((with_reducible first | refine O3 rfl rfl rfl rfl ?_ | refine O4 rfl rfl rfl ?_); simp only [go_sem, hg, hw]))
   (refine ⟨(fun (j : Nat) (v : List Int) => r.sh.length - j) (j + 1) ( v ++ rw' r.sh j), _, ?hm, ?hI, (Sub.trans (Sub_swap 3 29 (by first | (simp; done) | (simp [swap]; done)) (by first | (simp; done) | (simp [swap]; done)) (Nat.le_of_ble_eq_true rfl) (Nat.le_of_ble_eq_true rfl)) (Sub.trans (Sub_forget [29] rfl) (Sub_blank [true, true, false, false, true, true, true, true, true, true, true, true, true, true, true, true, true, true, true, true, true, false, false, false, true, true, true, true, true, true, true])))⟩; (case hm => (first | omega | (simp only; omega) | (simp only [List.length_cons]; omega))); (case hI => (simp only [go_sem, forget, swap, scrL, scr, scrH, scrO, renL, ren, renO, sw, blankL, List.contains_cons, List.contains_nil, Nat.reduceBEq, Bool.or_false, Bool.false_or, Bool.or_true, Bool.true_or, Bool.false_eq_true, if_true, if_false] <;> exact ⟨j + 1, v ++ rw' r.sh j, by omega, by rw [hs, hv, List.append_assoc], rfl, rfl⟩)))
  ·have hj2 : (r.sh.take j) = r.sh := by
    have : ¬ (j < r.sh.length) := by simpa using hc
    rw [List.take_of_length_le (by omega)]
   repeat (first | ((with_reducible first | refine O1 rfl (fun N hN => ?_) | refine O2 rfl rfl rfl (fun N hN => ?_)); simp only [go_sem]; (try refine Or.inl ?_); (repeat (refine ⟨by first | omega | ((try simp only [go_sem, List.length_append, lim, lim2]) <;> omega) | assumption | exact ints_1 _ | exact rfl | (simp [ints]; done), ?_⟩)); (first | refine hN _ ?_ | (intro _ _; refine hN _ ?_)); clear hN N) | with_reducible (first | apply Ea | apply Eb | apply Ec | apply Ed | apply Ee | apply Ef | apply Eg | apply Eh | apply Ei | apply Ej | apply Ek | apply El | apply Em | refine En rfl ?_ | apply Eo | apply Ep | apply Eq1 | apply Er | apply Es) | ((with_reducible first | refine O3 rfl rfl rfl rfl ?_ | refine O4 rfl rfl rfl ?_); simp only [go_sem]))
   (refine ⟨by simp, ?_⟩; simp only [go_sem, Try.results26])
   rw [hv, hj2, hi2]; rfl
theorem all56_spec (r : Rn) (h : Small r) : Ret Try.prog 56 [.agg (runC r)] (.sl false (ints (allN r))) := by
 have hr2 := rgs_2 r.rs
 have hw1 := rws_1 r.sh
 have := h.rs; have := h.sh; have := h.t
 refine Ret_of_body Try.func56 (by kernel_rfl) rfl ?_; rw [Try.ntmps56]
 repeat (first | ((with_reducible first | refine O1 rfl (fun N hN => ?_) | refine O2 rfl rfl rfl (fun N hN => ?_)); simp only [go_sem]; (try refine Or.inl ?_); (repeat (refine ⟨by first | omega | ((try simp only [go_sem, List.length_append, lim, lim2]) <;> omega) | assumption | exact ints_1 _ | exact rfl | (simp [ints]; done), ?_⟩)); (first | refine hN _ ?_ | (intro _ _; refine hN _ ?_)); clear hN N) | with_reducible (first | apply Ea | apply Eb | apply Ec | apply Ed | apply Ee | apply Ef | apply Eg | apply Eh | apply Ei | apply Ej | apply Ek | apply El | apply Em | refine En rfl ?_ | apply Eo | apply Ep | apply Eq1 | apply Er | apply Es) | ((with_reducible first | refine O3 rfl rfl rfl rfl ?_ | refine O4 rfl rfl rfl ?_); simp only [go_sem]))
 refine TW_sub (Sub_grow (t := 3) (id := 3) 3 1 rfl rfl (Nat.zero_le _)) ?_
 simp only [go_sem]
 have hz : [] = flatR (r.rs.take 0) := rfl
 refine TW_sub (Sub_blank [true, false, false, false, false, false, true, true, true, true, true, true, true, true, true, true, true, true, true, true, true]) ?_
 refine TW_loop (fun fuel st => ∃ (i : Nat) (u : List Int), (i ≤ r.rs.length) ∧ (u = flatR (r.rs.take i)) ∧  fuel = r.rs.length - i ∧ st = ⟨[.junk, .ptr 1 0, .nils, .bsl 3, .int .i64 i, .junk, .junk, .junk, .junk, .junk, .junk, .junk, .junk, .junk, .junk, .junk, .junk, .junk, .junk, .junk, .junk, .junk, .junk, .junk, .junk, .junk, .junk, .junk, .junk, .junk, .junk, .junk, .junk, .junk, .junk, .junk], [.un, .box [.sl false (vts r.t), .int .i64 r.size, .sl false (rgs r.rs), .sl false (rws r.sh), .int .u64 (↑r.on : Int)], .un, .arr 3 1 (ints u), .un, .un, .un, .un, .un, .un, .un, .un, .un, .un, .un, .un, .un, .un, .un, .un, .un, .un, .un, .un, .un, .un, .un, .un, .un, .un, .un, .un, .un, .un, .un, .un], 0⟩) (n := _) ⟨0, [], by first | omega | (simp; done) | (simp; omega) | assumption, by first | omega | (simp; done) | (simp; omega) | assumption, rfl, rfl⟩ ?_
 rintro fuel st ⟨i, u, hi, hu, rfl, rfl⟩
 have hul := flatR_take h i
 rw [← hu] at hul
 repeat (first | ((with_reducible first | refine O1 rfl (fun N hN => ?_) | refine O2 rfl rfl rfl (fun N hN => ?_)); simp only [go_sem]; (try refine Or.inl ?_); (repeat (refine ⟨by first | omega | ((try simp only [go_sem, List.length_append, lim, lim2]) <;> omega) | assumption | exact ints_1 _ | exact rfl | (simp [ints]; done), ?_⟩)); (first | refine hN _ ?_ | (intro _ _; refine hN _ ?_)); clear hN N) | with_reducible (first | apply Ea | apply Eb | apply Ec | apply Ed | apply Ee | apply Ef | apply Eg | apply Eh | apply Ei | apply Ej | apply Ek | apply El | apply Em | refine En rfl ?_ | apply Eo | apply Ep | apply Eq1 | apply Er | apply Es) | ((with_reducible first | refine O3 rfl rfl rfl rfl ?_ | refine O4 rfl rfl rfl ?_); simp only [go_sem]))
 refine TW_cond rfl (fun hc => ?_) (fun hc => ?_)
 ·have hlt : i < r.rs.length := by simpa using hc
  have hg := rgs_get r.rs i hlt
  have hw := wrap_i64 (n := (i : Int) + 1) (by omega) (by omega)
  have hel : (rg r.rs i).2.length ≤ 4000 := h.rl _ (by rw [rg_at hlt]; exact List.getElem_mem hlt)
  have hal := allR_len (rg r.rs i).1 (rg r.rs i).2
  have hs := flatR_succ r.rs i hlt
  rw [← hu] at hs
  repeat (first | ((with_reducible first | refine O1 rfl (fun N hN => ?_) | refine O2 rfl rfl rfl (fun N hN => ?_)); simp only [go_sem, hg]; (try refine Or.inl ?_); (repeat (refine ⟨by first | omega | ((try simp only [go_sem, hg, List.length_append, lim, lim2]) <;> omega) | assumption | exact ints_1 _ | exact rfl | (simp [ints]; done), ?_⟩)); (first | refine hN _ ?_ | (intro _ _; refine hN _ ?_)); clear hN N) | with_reducible (first | apply Ea | apply Eb | apply Ec | apply Ed | apply Ee | apply Ef | apply Eg | apply Eh | apply Ei | apply Ej | apply Ek | apply El | apply Em | refine En rfl ?_ | apply Eo | apply Ep | apply Eq1 | apply Er | apply Es) | ((with_reducible first | refine O3 rfl rfl rfl rfl ?_ | refine O4 rfl rfl rfl ?_); simp only [go_sem, hg]))
  ((with_reducible first | refine O1 rfl (fun N hN => ?_) | refine O2 rfl rfl rfl (fun N hN => ?_)); simp only [go_sem, hg]; refine vCall.pu _ _ (rallx_spec false (rg r.rs i).1 (rg r.rs i).2 (by omega)) ?ha24 (hN _ ?hk24); (case ha24 => (first | (simp only [go_sem, hg]; done) | (simp only [go_sem, hg] <;> (first | omega | ((try simp only [go_sem, hg, List.length_append, lim, lim2]) <;> omega) | assumption | exact ints_1 _ | exact rfl | (simp [ints]; done))) | (simp [ints]; done))); clear hN N; apply Ops_eq; (simp only [go_sem, hg]; rfl))
  repeat (first | ((with_reducible first | refine O1 rfl (fun N hN => ?_) | refine O2 rfl rfl rfl (fun N hN => ?_)); simp only [go_sem, hw]; (try refine Or.inl ?_); (repeat (refine ⟨by first | omega | ((try simp only [go_sem, hw, List.length_append, lim, lim2]) <;> omega) | assumption | exact ints_1 _ | exact rfl | (simp [ints]; done), ?_⟩)); (first | refine hN _ ?_ | (intro _ _; refine hN _ ?_)); clear hN N) | with_reducible (first | apply Ea | apply Eb | apply Ec | apply Ed | apply Ee | apply Ef | apply Eg | apply Eh | apply Ei | apply Ej | apply Ek | apply El | apply Em | refine En rfl ?_ | apply Eo | apply Ep | apply Eq1 | apply Er | apply Es) | ((with_reducible first | refine O3 rfl rfl rfl rfl ?_ | refine O4 rfl rfl rfl ?_); simp only [go_sem, hw]))
  (refine ⟨(fun (i : Nat) (u : List Int) => r.rs.length - i) (i + 1) ( u ++ allR (rg r.rs i).1 (rg r.rs i).2), _, ?hm, ?hI, (Sub.trans (Sub_swap 3 20 (by first | (simp; done) | (simp [swap]; done)) (by first | (simp; done) | (simp [swap]; done)) (Nat.le_of_ble_eq_true rfl) (Nat.le_of_ble_eq_true rfl)) (Sub.trans (Sub_forget [20] rfl) (Sub_blank [true, false, false, false, false, false, true, true, true, true, true, true, true, true, true, true, true, true, true, true, true])))⟩; (case hm => (first | omega | (simp only; omega) | (simp only [List.length_cons]; omega))); (case hI => (simp only [go_sem, forget, swap, scrL, scr, scrH, scrO, renL, ren, renO, sw, blankL, List.contains_cons, List.contains_nil, Nat.reduceBEq, Bool.or_false, Bool.false_or, Bool.or_true, Bool.true_or, Bool.false_eq_true, if_true, if_false] <;> exact ⟨i + 1, u ++ allR (rg r.rs i).1 (rg r.rs i).2, by omega, hs.symm, rfl, rfl⟩)))
 ·have hi2 : u = flatR r.rs := by
   have : ¬ (i < r.rs.length) := by simpa using hc
   rw [hu, List.take_of_length_le (by omega)]
  repeat (first | ((with_reducible first | refine O1 rfl (fun N hN => ?_) | refine O2 rfl rfl rfl (fun N hN => ?_)); simp only [go_sem]; (try refine Or.inl ?_); (repeat (refine ⟨by first | omega | ((try simp only [go_sem, List.length_append, lim, lim2]) <;> omega) | assumption | exact ints_1 _ | exact rfl | (simp [ints]; done), ?_⟩)); (first | refine hN _ ?_ | (intro _ _; refine hN _ ?_)); clear hN N) | with_reducible (first | apply Ea | apply Eb | apply Ec | apply Ed | apply Ee | apply Ef | apply Eg | apply Eh | apply Ei | apply Ej | apply Ek | apply El | apply Em | refine En rfl ?_ | apply Eo | apply Ep | apply Eq1 | apply Er | apply Es) | ((with_reducible first | refine O3 rfl rfl rfl rfl ?_ | refine O4 rfl rfl rfl ?_); simp only [go_sem]))
  have hz2 : u = u ++ (r.sh.take 0).flatten := by simp
  refine TW_sub (Sub_blank [true, false, false, false, true, false, true, true, true, true, true, true, true, true, true, true, true, true, true, true, true, true, true, true, true, true, true, true, true, true, true, true, true, true, true]) ?_
  refine TW_loop (fun fuel st => ∃ (j : Nat) (v : List Int), (j ≤ r.sh.length) ∧ (v = u ++ (r.sh.take j).flatten) ∧  fuel = r.sh.length - j ∧ st = ⟨[.junk, .ptr 1 0, .nils, .bsl 3, .junk, .int .i64 j, .junk, .junk, .junk, .junk, .junk, .junk, .junk, .junk, .junk, .junk, .junk, .junk, .junk, .junk, .junk, .junk, .junk, .junk, .junk, .junk, .junk, .junk, .junk, .junk, .junk, .junk, .junk, .junk, .junk, .junk], [.un, .box [.sl false (vts r.t), .int .i64 r.size, .sl false (rgs r.rs), .sl false (rws r.sh), .int .u64 (↑r.on : Int)], .un, .arr 3 1 (ints v), .un, .un, .un, .un, .un, .un, .un, .un, .un, .un, .un, .un, .un, .un, .un, .un, .un, .un, .un, .un, .un, .un, .un, .un, .un, .un, .un, .un, .un, .un, .un, .un], 0⟩) (n := _) ⟨0, u, by first | omega | (simp; done) | (simp; omega) | assumption, by first | omega | (simp; done) | (simp; omega) | assumption, rfl, rfl⟩ ?_
  rintro fuel st ⟨j, v, hj, hv, rfl, rfl⟩
  have hvl := flatS_take h j
  have hvl2 : v.length ≤ 800100 := by rw [hv, List.length_append]; omega
  repeat (first | ((with_reducible first | refine O1 rfl (fun N hN => ?_) | refine O2 rfl rfl rfl (fun N hN => ?_)); simp only [go_sem]; (try refine Or.inl ?_); (repeat (refine ⟨by first | omega | ((try simp only [go_sem, List.length_append, lim, lim2]) <;> omega) | assumption | exact ints_1 _ | exact rfl | (simp [ints]; done), ?_⟩)); (first | refine hN _ ?_ | (intro _ _; refine hN _ ?_)); clear hN N) | with_reducible (first | apply Ea | apply Eb | apply Ec | apply Ed | apply Ee | apply Ef | apply Eg | apply Eh | apply Ei | apply Ej | apply Ek | apply El | apply Em | refine En rfl ?_ | apply Eo | apply Ep | apply Eq1 | apply Er | apply Es) | ((with_reducible first | refine O3 rfl rfl rfl rfl ?_ | refine O4 rfl rfl rfl ?_); simp only [go_sem]))
  refine TW_cond rfl (fun hc => ?_) (fun hc => ?_)
  ·have hlt : j < r.sh.length := by simpa using hc
   have hg := rws_get r.sh j hlt
   have hw := wrap_i64 (n := (j : Int) + 1) (by omega) (by omega)
   have hel : (rw' r.sh j).length ≤ 4000 := h.sl _ (by rw [rw_at hlt]; exact List.getElem_mem hlt)
   have hs := flatS_succ r.sh j hlt
   repeat (first | ((with_reducible first | refine O1 rfl (fun N hN => ?_) | refine O2 rfl rfl rfl (fun N hN => ?_)); simp only [go_sem, hg, hw]; (try refine Or.inl ?_); (repeat (refine ⟨by first | omega | ((try simp only [go_sem, hg, hw, List.length_append, lim, lim2]) <;> omega) | assumption | exact ints_1 _ | exact rfl | (simp [ints]; done), ?_⟩)); (first | refine hN _ ?_ | (intro _ _; refine hN _ ?_)); clear hN N) | with_reducible (first | apply Ea | apply Eb | apply Ec | apply Ed | apply Ee | apply Ef | apply Eg | apply Eh | apply Ei | apply Ej | apply Ek | apply El | apply Em | refine En rfl ?_ | apply Eo | apply Ep | apply Eq1 | apply Er | apply Es) | ((with_reducible first | refine O3 rfl rfl rfl rfl ?_ | refine O4 rfl rfl rfl ?_); simp only [go_sem, hg, hw]))
   (refine ⟨(fun (j : Nat) (v : List Int) => r.sh.length - j) (j + 1) ( v ++ rw' r.sh j), _, ?hm, ?hI, (Sub.trans (Sub_swap 3 34 (by first | (simp; done) | (simp [swap]; done)) (by first | (simp; done) | (simp [swap]; done)) (Nat.le_of_ble_eq_true rfl) (Nat.le_of_ble_eq_true rfl)) (Sub.trans (Sub_forget [34] rfl) (Sub_blank [true, false, false, false, true, false, true, true, true, true, true, true, true, true, true, true, true, true, true, true, true, true, true, true, true, true, true, true, true, true, true, true, true, true, true])))⟩; (case hm => (first | omega | (simp only; omega) | (simp only [List.length_cons]; omega))); (case hI => (simp only [go_sem, forget, swap, scrL, scr, scrH, scrO, renL, ren, renO, sw, blankL, List.contains_cons, List.contains_nil, Nat.reduceBEq, Bool.or_false, Bool.false_or, Bool.or_true, Bool.true_or, Bool.false_eq_true, if_true, if_false] <;> exact ⟨j + 1, v ++ rw' r.sh j, by omega, by rw [hs, hv, List.append_assoc], rfl, rfl⟩)))
  ·have hj2 : (r.sh.take j) = r.sh := by
    have : ¬ (j < r.sh.length) := by simpa using hc
    rw [List.take_of_length_le (by omega)]
   repeat (first | ((with_reducible first | refine O1 rfl (fun N hN => ?_) | refine O2 rfl rfl rfl (fun N hN => ?_)); simp only [go_sem]; (try refine Or.inl ?_); (repeat (refine ⟨by first | omega | ((try simp only [go_sem, List.length_append, lim, lim2]) <;> omega) | assumption | exact ints_1 _ | exact rfl | (simp [ints]; done), ?_⟩)); (first | refine hN _ ?_ | (intro _ _; refine hN _ ?_)); clear hN N) | with_reducible (first | apply Ea | apply Eb | apply Ec | apply Ed | apply Ee | apply Ef | apply Eg | apply Eh | apply Ei | apply Ej | apply Ek | apply El | apply Em | refine En rfl ?_ | apply Eo | apply Ep | apply Eq1 | apply Er | apply Es) | ((with_reducible first | refine O3 rfl rfl rfl rfl ?_ | refine O4 rfl rfl rfl ?_); simp only [go_sem]))
   (refine ⟨by simp, ?_⟩; simp only [go_sem, Try.results56])
   rw [hv, hj2, hi2]; rfl

end Go.Proofs.YtmnpiofabgfcmaaT
