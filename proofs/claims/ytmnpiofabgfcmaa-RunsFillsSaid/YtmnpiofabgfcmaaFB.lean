/- Walks over the program's functions, on values without memory, and what they come to. No condition. -/
import Derived.Test.YtmnpiofabgfcmaaTw19
import Derived.Test.YtmnpiofabgfcmaaBase
import Derived.Test.YtmnpiofabgfcmaaPB
import Derived.Test.YtmnpiofabgfcmaaFA
set_option linter.unusedVariables false
set_option linter.unusedSimpArgs false
namespace Go.Proofs.YtmnpiofabgfcmaaT
open Go Go.Proofs Go.RowKit Go.Proofs.YtmnpiofabgfcmaaT.Ty
attribute [local go_sem] vOp eqv put hset ev vNew enterSt AV.solid AV.cells AV.leaf AV.pure AV.pures AV.scalar AV.scalars ofVal ofLeaf vLoad takeA vStore vBin vBuiltin elems vSlice intAt fillA fillR splice dense fills frz frzL names namesL fix frzH frzHL le leL vRes oneRes
attribute [local go_sem] c1 s1 a1 b1 z1 o1 i1 c2 s2 a2 b2 z2 o2 i2 u2 c3 s3 a3 b3 z3 o3 i3 u3 c4 s4 a4 b4 z4 o4 i4 u4 c5 s5 a5 b5 z5 o5 i5 u5 c6 s6 a6 b6 z6 o6 i6 u6 c7 s7 a7 b7 z7 o7 f7_0 f7_1 f7_2 f7_3 fo7 r7 i7 c8 s8 a8 b8 z8 o8 f8_0 f8_1 f8_2 f8_3 fo8 r8 i8 c9 s9 a9 b9 z9 o9 i9 u9 c10 s10 a10 b10 z10 o10 i10 u10 c11 s11 a11 b11 z11 o11 i11 u11 c12 s12 a12 b12 z12 o12 i12 u12 c13 s13 a13 b13 z13 o13 f13_0 f13_1 fo13 r13 i13 c14 s14 a14 b14 z14 o14 f14_0 f14_1 fo14 r14 i14 c15 s15 a15 b15 z15 o15 i15 c16 s16 a16 b16 z16 o16 i16 c17 s17 a17 b17 z17 o17 i17 c18 s18 a18 b18 z18 o18 f18_0 fo18 r18 i18 c19 s19 a19 b19 z19 o19 f19_0 fo19 r19 i19 c21 s21 a21 b21 z21 o21 i21 u21 c22 s22 a22 b22 z22 o22 e22 i22 c23 s23 a23 b23 z23 o23 i23 c24 s24 a24 b24 z24 o24 e24 i24 c25 s25 a25 b25 z25 o25 e25 i25 c26 s26 a26 b26 z26 o26 i26 u26 c27 s27 a27 b27 z27 o27 i27 u27 c28 s28 a28 b28 z28 o28 f28_0 f28_1 f28_2 f28_3 f28_4 fo28 r28 i28 c29 s29 a29 b29 z29 o29 f29_0 f29_1 f29_2 f29_3 f29_4 fo29 r29 i29 c30 s30 a30 b30 z30 o30 i30 u30 c32 s32 a32 b32 z32 o32 i32 c33 s33 a33 b33 z33 o33 e33 i33 c34 s34 a34 b34 z34 o34 f34_0 f34_1 f34_2 f34_3 f34_4 fo34 r34 i34 c35 s35 a35 b35 z35 o35 f35_0 f35_1 f35_2 f35_3 f35_4 fo35 r35 i35 c37 s37 a37 b37 z37 o37 i37 c38 s38 a38 b38 z38 o38 i38 c39 s39 a39 b39 z39 o39 i39 c40 s40 a40 b40 z40 o40 i40 c41 s41 a41 b41 z41 o41 e41 i41 c42 s42 a42 b42 z42 o42 i42 c43 s43 a43 b43 z43 o43 i43 c44 s44 a44 b44 z44 o44 i44 c45 s45 a45 b45 z45 o45 f45_0 f45_1 fo45 r45 i45 c46 s46 a46 b46 z46 o46 f46_0 f46_1 fo46 r46 i46 c48 s48 a48 b48 z48 o48 i48 c49 s49 a49 b49 z49 o49 i49 c50 s50 a50 b50 z50 o50 i50 c51 s51 a51 b51 z51 o51 i51 c52 s52 a52 b52 z52 o52 i52 c53 s53 a53 b53 z53 o53 i53 c54 s54 a54 b54 z54 o54 i54 c55 s55 a55 b55 z55 o55 i55 c56 s56 a56 b56 z56 o56 i56 c57 s57 a57 b57 z57 o57 i57 c59 s59 a59 b59 z59 o59 i59 c61 s61 a61 b61 z61 o61 i61 c62 s62 a62 b62 z62 o62 i62 c63 s63 a63 b63 z63 o63 i63 c64 s64 a64 b64 z64 o64 i64 u64 c65 s65 a65 b65 z65 o65 i65 c67 s67 a67 b67 z67 o67 i67 c68 s68 a68 b68 z68 o68 i68 c69 s69 a69 b69 z69 o69 i69 c70 s70 a70 b70 z70 o70 i70 c71 s71 a71 b71 z71 o71 i71 c72 s72 a72 b72 z72 o72 f72_0 f72_1 q72 fo72 r72 i72 c73 s73 a73 b73 z73 o73 f73_0 f73_1 q73 fo73 r73 i73 c74 s74 a74 b74 z74 o74 i74 c75 s75 a75 b75 z75 o75 i75 c76 s76 a76 b76 z76 o76 i76 c77 s77 a77 b77 z77 o77 i77 c78 s78 a78 b78 z78 o78 i78 c79 s79 a79 b79 z79 o79 i79 c80 s80 a80 b80 z80 o80 f80_0 f80_1 fo80 r80 i80 c81 s81 a81 b81 z81 o81 i81 c82 s82 a82 b82 z82 o82 i82 c83 s83 a83 b83 z83 o83 i83 c84 s84 a84 b84 z84 o84 i84 c85 s85 a85 b85 z85 o85 i85 c87 s87 a87 b87 z87 o87 i87 c88 s88 a88 b88 z88 o88 i88 c89 s89 a89 b89 z89 o89 i89 c90 s90 a90 b90 z90 o90 i90 c91 s91 a91 b91 z91 o91 i91 c92 s92 a92 b92 z92 o92 i92 c93 s93 a93 b93 z93 o93 i93 c94 s94 a94 b94 z94 o94 i94 c95 s95 a95 b95 z95 o95 i95 c97 s97 a97 b97 z97 o97 i97 c98 s98 a98 b98 z98 o98 i98 c99 s99 a99 b99 z99 o99 i99 c100 s100 a100 b100 z100 o100 f100_0 f100_1 fo100 r100 i100 c101 s101 a101 b101 z101 o101 f101_0 f101_1 fo101 r101 i101 c102 s102 a102 b102 z102 o102 i102 c103 s103 a103 b103 z103 o103 i103 c104 s104 a104 b104 z104 o104 i104 c105 s105 a105 b105 z105 o105 i105 c106 s106 a106 b106 z106 o106 i106 c107 s107 a107 b107 z107 o107 e107 i107 c108 s108 a108 b108 z108 o108 i108 c109 s109 a109 b109 z109 o109 i109 c110 s110 a110 b110 z110 o110 i110 c111 s111 a111 b111 z111 o111 i111 c112 s112 a112 b112 z112 o112 i112 c113 s113 a113 b113 z113 o113 i113 c114 s114 a114 b114 z114 o114 i114 c115 s115 a115 b115 z115 o115 i115 c116 s116 a116 b116 z116 o116 i116 c117 s117 a117 b117 z117 o117 i117 c118 s118 a118 b118 z118 o118 i118 c119 s119 a119 b119 z119 o119 f119_0 f119_1 f119_2 f119_3 fo119 r119 i119 c120 s120 a120 b120 z120 o120 f120_0 f120_1 f120_2 f120_3 fo120 r120 i120 c121 s121 a121 b121 z121 o121 i121 c122 s122 a122 b122 z122 o122 e122 i122 c124 s124 a124 b124 z124 o124 i124 c125 s125 a125 b125 z125 o125 i125 c126 s126 a126 b126 z126 o126 i126 c127 s127 a127 b127 z127 o127 f127_0 f127_1 f127_2 f127_3 fo127 r127 i127 c128 s128 a128 b128 z128 o128 f128_0 f128_1 f128_2 f128_3 fo128 r128 i128 c132 s132 a132 b132 z132 o132 i132 u132 c133 s133 a133 b133 z133 o133 i133 u133 c134 s134 a134 b134 z134 o134 i134 u134 c135 s135 a135 b135 z135 o135 i135 c136 s136 a136 b136 z136 o136 i136 c137 s137 a137 b137 z137 o137 i137 u137 c138 s138 a138 b138 z138 o138 i138 u138 c139 s139 a139 b139 z139 o139 f139_0 f139_1 f139_2 f139_3 f139_4 f139_5 f139_6 f139_7 f139_8 f139_9 f139_10 fo139 r139 i139 c140 s140 a140 b140 z140 o140 f140_0 f140_1 f140_2 f140_3 f140_4 f140_5 f140_6 f140_7 f140_8 f140_9 f140_10 fo140 r140 i140
attribute [local go_sem] List.replicate List.length_cons List.length_nil Nat.reduceAdd Nat.reduceSub List.cons_append List.nil_append List.append_nil List.set_cons_succ List.set_cons_zero List.getD_cons_succ List.getD_cons_zero Nat.zero_add List.getElem?_cons_succ List.getElem?_cons_zero List.foldl_cons List.foldl_nil Option.map_some Option.map_none List.drop_succ_cons List.drop_zero List.take_succ_cons List.take_zero List.map_cons List.map_nil List.all_cons List.all_nil  Bool.and_true Bool.true_and imp_self Nat.add_zero beq_self_eq_true Option.isSome_some true_and and_true if_true if_false ints_len
set_option linter.unusedSimpArgs false
set_option maxRecDepth 100000
set_option maxHeartbeats 4000000
attribute [local go_sem] ints_nil ints_take ints_drop ints_cat ints_snoc ints_cons List.length_take List.length_drop List.drop_zero decide_true decide_false List.getElem?_toArray Option.bind_some Bool.false_eq_true Bool.true_eq_false Bool.not_true Bool.not_false Int.toNat_natCast Int.cast_ofNat_Int forget swap grow growIn opt_or opt_orn opt_and beq_true beq_false rdAll rdOp rdTmp agree Option.getD_some Option.getD_none List.flatten_cons List.flatten_nil ownCut mp mpL mpO vl vlL matchH freshH setAll nodupB enterH List.contains_cons List.contains_nil Nat.reduceMul Nat.reduceLT Nat.reduceLeDiff Nat.reduceEqDiff
open BC
/-- Runs: the tree, the size, the rings, the rows, who is plugged. -/
structure Rn where
  t : List (Int × Int)
  size : Int
  rs : List (Int × List Int)
  sh : List (List Int)
  on : Nat
def rgs (l : List (Int × List Int)) : List (List AV) := l.map fun x => [.int .i64 x.1, .sl false (ints x.2)]
def rws (l : List (List Int)) : List (List AV) := l.map fun x => [.sl false (ints x)]
theorem rgs_len (l : List (Int × List Int)) : (rgs l).length = l.length := by simp [rgs]
theorem rws_len (l : List (List Int)) : (rws l).length = l.length := by simp [rws]
theorem rgs_2 (l : List (Int × List Int)) : ∀ y ∈ rgs l, y.length = 2 := by
  intro y hy
  simp only [rgs, List.mem_map] at hy
  obtain ⟨m, _, rfl⟩ := hy
  rfl
theorem rws_1 (l : List (List Int)) : ∀ y ∈ rws l, y.length = 1 := by
  intro y hy
  simp only [rws, List.mem_map] at hy
  obtain ⟨m, _, rfl⟩ := hy
  rfl
def rg (l : List (Int × List Int)) (i : Nat) : Int × List Int := l.getD i (0, [])
def rw' (l : List (List Int)) (i : Nat) : List Int := l.getD i []
theorem rgs_get (l : List (Int × List Int)) (n : Nat) (h : n < l.length) : (rgs l).getD n [] = [.int .i64 (rg l n).1, .sl false (ints (rg l n).2)] := by
  simp [rgs, rg, List.getD_eq_getElem?_getD, List.getElem?_eq_getElem h]
theorem rws_get (l : List (List Int)) (n : Nat) (h : n < l.length) : (rws l).getD n [] = [.sl false (ints (rw' l n))] := by
  simp [rws, rw', List.getD_eq_getElem?_getD, List.getElem?_eq_getElem h]
theorem rg_at {l : List (Int × List Int)} {i : Nat} (h : i < l.length) : rg l i = l[i] := by rw [rg, List.getD_eq_getElem?_getD, List.getElem?_eq_getElem h]; rfl
theorem rw_at {l : List (List Int)} {i : Nat} (h : i < l.length) : rw' l i = l[i] := by rw [rw', List.getD_eq_getElem?_getD, List.getElem?_eq_getElem h]; rfl
theorem rgs_snoc (l : List (Int × List Int)) (n : Int) (k : List Int) : rgs l ++ [[.int .i64 n, .sl false (ints k)]] = rgs (l ++ [(n, k)]) := by simp [rgs]
theorem rws_snoc (l : List (List Int)) (k : List Int) : rws l ++ [[.sl false (ints k)]] = rws (l ++ [k]) := by simp [rws]
theorem rgs_set (l : List (Int × List Int)) (i : Nat) (n : Int) (k : List Int) : (rgs l).set i [.int .i64 n, .sl false (ints k)] = rgs (l.set i (n, k)) := by unfold rgs; rw [List.map_set]
theorem rws_set (l : List (List Int)) (i : Nat) (k : List Int) : (rws l).set i [.sl false (ints k)] = rws (l.set i k) := by unfold rws; rw [List.map_set]
theorem rgs_cat (l m : List (Int × List Int)) : rgs l ++ rgs m = rgs (l ++ m) := by simp [rgs]
theorem rws_cat (l m : List (List Int)) : rws l ++ rws m = rws (l ++ m) := by simp [rws]
theorem rgs_take (l : List (Int × List Int)) (k : Nat) : (rgs l).take k = rgs (l.take k) := by simp [rgs]
theorem rws_take (l : List (List Int)) (k : Nat) : (rws l).take k = rws (l.take k) := by simp [rws]
theorem rgs_drop (l : List (Int × List Int)) (k : Nat) : (rgs l).drop k = rgs (l.drop k) := by simp [rgs]
theorem rws_drop (l : List (List Int)) (k : Nat) : (rws l).drop k = rws (l.drop k) := by simp [rws]
theorem rgs_nil (l : List (Int × List Int)) : (rgs l = []) = (l = []) := by simp [rgs]
theorem rws_nil (l : List (List Int)) : (rws l = []) = (l = []) := by simp [rws]
def runC (r : Rn) : List AV := [.sl false (vts r.t), .int .i64 r.size, .sl false (rgs r.rs), .sl false (rws r.sh), .int .u64 r.on]
attribute [local go_sem] vts_len vts_take vts_drop vts_cat vts_snoc rgs_len rws_len rgs_snoc rws_snoc rgs_cat rws_cat rgs_set rws_set rgs_take rws_take rgs_drop rws_drop rgs_nil rws_nil runC
structure Small (r : Rn) : Prop where
  t : r.t.length ≤ 200
  rs : r.rs.length ≤ 100
  sh : r.sh.length ≤ 100
  rl : ∀ x ∈ r.rs, x.2.length ≤ 4000
  sl : ∀ x ∈ r.sh, x.length ≤ 4000
  on : r.on < 18446744073709551616
def fewB (r : Rn) : Bool := decide (r.t.length ≤ 64) && decide (r.rs.length ≤ 40) && decide (r.sh.length ≤ 40) && r.rs.all (fun x => decide (x.2.length ≤ 40)) && r.sh.all (fun x => decide (x.length ≤ 40))
theorem fewB_iff (r : Rn) : fewB r = true ↔ r.t.length ≤ 64 ∧ r.rs.length ≤ 40 ∧ r.sh.length ≤ 40 ∧ (∀ x ∈ r.rs, x.2.length ≤ 40) ∧ ∀ x ∈ r.sh, x.length ≤ 40 := by
  simp only [fewB, Bool.and_eq_true, decide_eq_true_eq, List.all_eq_true]
  exact ⟨fun ⟨⟨⟨⟨a, b⟩, c⟩, d⟩, e⟩ => ⟨a, b, c, d, e⟩, fun ⟨a, b, c, d, e⟩ => ⟨⟨⟨⟨a, b⟩, c⟩, d⟩, e⟩⟩
theorem vts_nil (l : List (Int × Int)) : (vts l = []) = (l = []) := by simp [vts]
attribute [local go_sem] vts_len vts_take vts_drop vts_cat vts_snoc rgs_len rws_len rgs_snoc rws_snoc rgs_cat rws_cat rgs_set rws_set rgs_take rws_take rgs_drop rws_drop rgs_nil rws_nil runC vts_nil
theorem cloneR_spec (f : Bool) (l : List (Int × List Int)) (hl : l.length ≤ 1000000) : RetH Try.prog 88 [.sl f (rgs l)] [] (.bsl 0) [.arr 46 2 (rgs l)] := by
  have hrr := rgs_2 l
  refine RetA_of_body Try.func88 (by kernel_rfl) rfl ?_; rw [Try.ntmps88]
  by_cases h : l = []
  · subst h
    repeat (first | ((with_reducible first | refine O1 rfl (fun N hN => ?_) | refine O2 rfl rfl rfl (fun N hN => ?_)); simp only [go_sem]; (repeat (refine ⟨by first | omega | ((try simp only [go_sem, List.length_append, lim, lim2]) <;> omega) | assumption | exact ints_1 _ | exact rfl | (simp [ints]; done), ?_⟩)); (first | refine hN _ ?_ | (intro _ _; refine hN _ ?_)); clear hN N) | with_reducible (first | apply Ea | apply Eb | apply Ec | apply Ed | apply Ee | apply Ef | apply Eg | apply Eh | apply Ei | apply Ej | apply Ek | apply El | apply Em | refine En rfl ?_ | apply Eo | apply Ep | apply Eq1 | apply Er | apply Es) | ((with_reducible first | refine O3 rfl rfl rfl rfl ?_ | refine O4 rfl rfl rfl ?_); simp only [go_sem]))
    refine TW_cond rfl (fun hc => ?_) (fun hc => ?_)
    · repeat (first | ((with_reducible first | refine O1 rfl (fun N hN => ?_) | refine O2 rfl rfl rfl (fun N hN => ?_)); simp only [go_sem]; (repeat (refine ⟨by first | omega | ((try simp only [go_sem, List.length_append, lim, lim2]) <;> omega) | assumption | exact ints_1 _ | exact rfl | (simp [ints]; done), ?_⟩)); (first | refine hN _ ?_ | (intro _ _; refine hN _ ?_)); clear hN N) | with_reducible (first | apply Ea | apply Eb | apply Ec | apply Ed | apply Ee | apply Ef | apply Eg | apply Eh | apply Ei | apply Ej | apply Ek | apply El | apply Em | refine En rfl ?_ | apply Eo | apply Ep | apply Eq1 | apply Er | apply Es) | ((with_reducible first | refine O3 rfl rfl rfl rfl ?_ | refine O4 rfl rfl rfl ?_); simp only [go_sem]))
      (refine ⟨by simp, ?_⟩; simp only [go_sem, Try.results88])
      exact .inr trivial
    · repeat (first | ((with_reducible first | refine O1 rfl (fun N hN => ?_) | refine O2 rfl rfl rfl (fun N hN => ?_)); simp only [go_sem]; (repeat (refine ⟨by first | omega | ((try simp only [go_sem, List.length_append, lim, lim2]) <;> omega) | assumption | exact ints_1 _ | exact rfl | (simp [ints]; done), ?_⟩)); (first | refine hN _ ?_ | (intro _ _; refine hN _ ?_)); clear hN N) | with_reducible (first | apply Ea | apply Eb | apply Ec | apply Ed | apply Ee | apply Ef | apply Eg | apply Eh | apply Ei | apply Ej | apply Ek | apply El | apply Em | refine En rfl ?_ | apply Eo | apply Ep | apply Eq1 | apply Er | apply Es) | ((with_reducible first | refine O3 rfl rfl rfl rfl ?_ | refine O4 rfl rfl rfl ?_); simp only [go_sem]))
      (refine ⟨by simp, ?_⟩; simp only [go_sem, Try.results88])
      exact .inl ⟨7, rfl, rfl⟩
  · repeat (first | ((with_reducible first | refine O1 rfl (fun N hN => ?_) | refine O2 rfl rfl rfl (fun N hN => ?_)); simp only [go_sem, h]; (repeat (refine ⟨by first | omega | ((try simp only [go_sem, h, List.length_append, lim, lim2]) <;> omega) | assumption | exact ints_1 _ | exact rfl | (simp [ints]; done), ?_⟩)); (first | refine hN _ ?_ | (intro _ _; refine hN _ ?_)); clear hN N) | with_reducible (first | apply Ea | apply Eb | apply Ec | apply Ed | apply Ee | apply Ef | apply Eg | apply Eh | apply Ei | apply Ej | apply Ek | apply El | apply Em | refine En rfl ?_ | apply Eo | apply Ep | apply Eq1 | apply Er | apply Es) | ((with_reducible first | refine O3 rfl rfl rfl rfl ?_ | refine O4 rfl rfl rfl ?_); simp only [go_sem, h]))
    refine TW_cond rfl (fun hc => absurd hc (by simp)) (fun hc => ?_)
    repeat (first | ((with_reducible first | refine O1 rfl (fun N hN => ?_) | refine O2 rfl rfl rfl (fun N hN => ?_)); simp only [go_sem]; (repeat (refine ⟨by first | omega | ((try simp only [go_sem, List.length_append, lim, lim2]) <;> omega) | assumption | exact ints_1 _ | exact rfl | (simp [ints]; done), ?_⟩)); (first | refine hN _ ?_ | (intro _ _; refine hN _ ?_)); clear hN N) | with_reducible (first | apply Ea | apply Eb | apply Ec | apply Ed | apply Ee | apply Ef | apply Eg | apply Eh | apply Ei | apply Ej | apply Ek | apply El | apply Em | refine En rfl ?_ | apply Eo | apply Ep | apply Eq1 | apply Er | apply Es) | ((with_reducible first | refine O3 rfl rfl rfl rfl ?_ | refine O4 rfl rfl rfl ?_); simp only [go_sem]))
    (refine ⟨by simp, ?_⟩; simp only [go_sem, Try.results88])
    exact .inl ⟨7, rfl, rfl⟩
theorem cloneW_spec (f : Bool) (l : List (List Int)) (hl : l.length ≤ 1000000) : RetH Try.prog 89 [.sl f (rws l)] [] (.bsl 0) [.arr 41 1 (rws l)] := by
  have hrr := rws_1 l
  refine RetA_of_body Try.func89 (by kernel_rfl) rfl ?_; rw [Try.ntmps89]
  by_cases h : l = []
  · subst h
    repeat (first | ((with_reducible first | refine O1 rfl (fun N hN => ?_) | refine O2 rfl rfl rfl (fun N hN => ?_)); simp only [go_sem]; (repeat (refine ⟨by first | omega | ((try simp only [go_sem, List.length_append, lim, lim2]) <;> omega) | assumption | exact ints_1 _ | exact rfl | (simp [ints]; done), ?_⟩)); (first | refine hN _ ?_ | (intro _ _; refine hN _ ?_)); clear hN N) | with_reducible (first | apply Ea | apply Eb | apply Ec | apply Ed | apply Ee | apply Ef | apply Eg | apply Eh | apply Ei | apply Ej | apply Ek | apply El | apply Em | refine En rfl ?_ | apply Eo | apply Ep | apply Eq1 | apply Er | apply Es) | ((with_reducible first | refine O3 rfl rfl rfl rfl ?_ | refine O4 rfl rfl rfl ?_); simp only [go_sem]))
    refine TW_cond rfl (fun hc => ?_) (fun hc => ?_)
    · repeat (first | ((with_reducible first | refine O1 rfl (fun N hN => ?_) | refine O2 rfl rfl rfl (fun N hN => ?_)); simp only [go_sem]; (repeat (refine ⟨by first | omega | ((try simp only [go_sem, List.length_append, lim, lim2]) <;> omega) | assumption | exact ints_1 _ | exact rfl | (simp [ints]; done), ?_⟩)); (first | refine hN _ ?_ | (intro _ _; refine hN _ ?_)); clear hN N) | with_reducible (first | apply Ea | apply Eb | apply Ec | apply Ed | apply Ee | apply Ef | apply Eg | apply Eh | apply Ei | apply Ej | apply Ek | apply El | apply Em | refine En rfl ?_ | apply Eo | apply Ep | apply Eq1 | apply Er | apply Es) | ((with_reducible first | refine O3 rfl rfl rfl rfl ?_ | refine O4 rfl rfl rfl ?_); simp only [go_sem]))
      (refine ⟨by simp, ?_⟩; simp only [go_sem, Try.results89])
      exact .inr trivial
    · repeat (first | ((with_reducible first | refine O1 rfl (fun N hN => ?_) | refine O2 rfl rfl rfl (fun N hN => ?_)); simp only [go_sem]; (repeat (refine ⟨by first | omega | ((try simp only [go_sem, List.length_append, lim, lim2]) <;> omega) | assumption | exact ints_1 _ | exact rfl | (simp [ints]; done), ?_⟩)); (first | refine hN _ ?_ | (intro _ _; refine hN _ ?_)); clear hN N) | with_reducible (first | apply Ea | apply Eb | apply Ec | apply Ed | apply Ee | apply Ef | apply Eg | apply Eh | apply Ei | apply Ej | apply Ek | apply El | apply Em | refine En rfl ?_ | apply Eo | apply Ep | apply Eq1 | apply Er | apply Es) | ((with_reducible first | refine O3 rfl rfl rfl rfl ?_ | refine O4 rfl rfl rfl ?_); simp only [go_sem]))
      (refine ⟨by simp, ?_⟩; simp only [go_sem, Try.results89])
      exact .inl ⟨7, rfl, rfl⟩
  · repeat (first | ((with_reducible first | refine O1 rfl (fun N hN => ?_) | refine O2 rfl rfl rfl (fun N hN => ?_)); simp only [go_sem, h]; (repeat (refine ⟨by first | omega | ((try simp only [go_sem, h, List.length_append, lim, lim2]) <;> omega) | assumption | exact ints_1 _ | exact rfl | (simp [ints]; done), ?_⟩)); (first | refine hN _ ?_ | (intro _ _; refine hN _ ?_)); clear hN N) | with_reducible (first | apply Ea | apply Eb | apply Ec | apply Ed | apply Ee | apply Ef | apply Eg | apply Eh | apply Ei | apply Ej | apply Ek | apply El | apply Em | refine En rfl ?_ | apply Eo | apply Ep | apply Eq1 | apply Er | apply Es) | ((with_reducible first | refine O3 rfl rfl rfl rfl ?_ | refine O4 rfl rfl rfl ?_); simp only [go_sem, h]))
    refine TW_cond rfl (fun hc => absurd hc (by simp)) (fun hc => ?_)
    repeat (first | ((with_reducible first | refine O1 rfl (fun N hN => ?_) | refine O2 rfl rfl rfl (fun N hN => ?_)); simp only [go_sem]; (repeat (refine ⟨by first | omega | ((try simp only [go_sem, List.length_append, lim, lim2]) <;> omega) | assumption | exact ints_1 _ | exact rfl | (simp [ints]; done), ?_⟩)); (first | refine hN _ ?_ | (intro _ _; refine hN _ ?_)); clear hN N) | with_reducible (first | apply Ea | apply Eb | apply Ec | apply Ed | apply Ee | apply Ef | apply Eg | apply Eh | apply Ei | apply Ej | apply Ek | apply El | apply Em | refine En rfl ?_ | apply Eo | apply Ep | apply Eq1 | apply Er | apply Es) | ((with_reducible first | refine O3 rfl rfl rfl rfl ?_ | refine O4 rfl rfl rfl ?_); simp only [go_sem]))
    (refine ⟨by simp, ?_⟩; simp only [go_sem, Try.results89])
    exact .inl ⟨7, rfl, rfl⟩
theorem cloneV_spec (f : Bool) (l : List (Int × Int)) (hl : l.length ≤ 1000000) : RetH Try.prog 58 [.sl f (vts l)] [] (.bsl 0) [.arr 73 2 (vts l)] := by
  have hrr := vts_2 l
  refine RetA_of_body Try.func58 (by kernel_rfl) rfl ?_; rw [Try.ntmps58]
  by_cases h : l = []
  · subst h
    repeat (first | ((with_reducible first | refine O1 rfl (fun N hN => ?_) | refine O2 rfl rfl rfl (fun N hN => ?_)); simp only [go_sem]; (repeat (refine ⟨by first | omega | ((try simp only [go_sem, List.length_append, lim, lim2]) <;> omega) | assumption | exact ints_1 _ | exact rfl | (simp [ints]; done), ?_⟩)); (first | refine hN _ ?_ | (intro _ _; refine hN _ ?_)); clear hN N) | with_reducible (first | apply Ea | apply Eb | apply Ec | apply Ed | apply Ee | apply Ef | apply Eg | apply Eh | apply Ei | apply Ej | apply Ek | apply El | apply Em | refine En rfl ?_ | apply Eo | apply Ep | apply Eq1 | apply Er | apply Es) | ((with_reducible first | refine O3 rfl rfl rfl rfl ?_ | refine O4 rfl rfl rfl ?_); simp only [go_sem]))
    refine TW_cond rfl (fun hc => ?_) (fun hc => ?_)
    · repeat (first | ((with_reducible first | refine O1 rfl (fun N hN => ?_) | refine O2 rfl rfl rfl (fun N hN => ?_)); simp only [go_sem]; (repeat (refine ⟨by first | omega | ((try simp only [go_sem, List.length_append, lim, lim2]) <;> omega) | assumption | exact ints_1 _ | exact rfl | (simp [ints]; done), ?_⟩)); (first | refine hN _ ?_ | (intro _ _; refine hN _ ?_)); clear hN N) | with_reducible (first | apply Ea | apply Eb | apply Ec | apply Ed | apply Ee | apply Ef | apply Eg | apply Eh | apply Ei | apply Ej | apply Ek | apply El | apply Em | refine En rfl ?_ | apply Eo | apply Ep | apply Eq1 | apply Er | apply Es) | ((with_reducible first | refine O3 rfl rfl rfl rfl ?_ | refine O4 rfl rfl rfl ?_); simp only [go_sem]))
      (refine ⟨by simp, ?_⟩; simp only [go_sem, Try.results58])
      exact .inr trivial
    · repeat (first | ((with_reducible first | refine O1 rfl (fun N hN => ?_) | refine O2 rfl rfl rfl (fun N hN => ?_)); simp only [go_sem]; (repeat (refine ⟨by first | omega | ((try simp only [go_sem, List.length_append, lim, lim2]) <;> omega) | assumption | exact ints_1 _ | exact rfl | (simp [ints]; done), ?_⟩)); (first | refine hN _ ?_ | (intro _ _; refine hN _ ?_)); clear hN N) | with_reducible (first | apply Ea | apply Eb | apply Ec | apply Ed | apply Ee | apply Ef | apply Eg | apply Eh | apply Ei | apply Ej | apply Ek | apply El | apply Em | refine En rfl ?_ | apply Eo | apply Ep | apply Eq1 | apply Er | apply Es) | ((with_reducible first | refine O3 rfl rfl rfl rfl ?_ | refine O4 rfl rfl rfl ?_); simp only [go_sem]))
      (refine ⟨by simp, ?_⟩; simp only [go_sem, Try.results58])
      exact .inl ⟨7, rfl, rfl⟩
  · repeat (first | ((with_reducible first | refine O1 rfl (fun N hN => ?_) | refine O2 rfl rfl rfl (fun N hN => ?_)); simp only [go_sem, h]; (repeat (refine ⟨by first | omega | ((try simp only [go_sem, h, List.length_append, lim, lim2]) <;> omega) | assumption | exact ints_1 _ | exact rfl | (simp [ints]; done), ?_⟩)); (first | refine hN _ ?_ | (intro _ _; refine hN _ ?_)); clear hN N) | with_reducible (first | apply Ea | apply Eb | apply Ec | apply Ed | apply Ee | apply Ef | apply Eg | apply Eh | apply Ei | apply Ej | apply Ek | apply El | apply Em | refine En rfl ?_ | apply Eo | apply Ep | apply Eq1 | apply Er | apply Es) | ((with_reducible first | refine O3 rfl rfl rfl rfl ?_ | refine O4 rfl rfl rfl ?_); simp only [go_sem, h]))
    refine TW_cond rfl (fun hc => absurd hc (by simp)) (fun hc => ?_)
    repeat (first | ((with_reducible first | refine O1 rfl (fun N hN => ?_) | refine O2 rfl rfl rfl (fun N hN => ?_)); simp only [go_sem]; (repeat (refine ⟨by first | omega | ((try simp only [go_sem, List.length_append, lim, lim2]) <;> omega) | assumption | exact ints_1 _ | exact rfl | (simp [ints]; done), ?_⟩)); (first | refine hN _ ?_ | (intro _ _; refine hN _ ?_)); clear hN N) | with_reducible (first | apply Ea | apply Eb | apply Ec | apply Ed | apply Ee | apply Ef | apply Eg | apply Eh | apply Ei | apply Ej | apply Ek | apply El | apply Em | refine En rfl ?_ | apply Eo | apply Ep | apply Eq1 | apply Er | apply Es) | ((with_reducible first | refine O3 rfl rfl rfl rfl ?_ | refine O4 rfl rfl rfl ?_); simp only [go_sem]))
    (refine ⟨by simp, ?_⟩; simp only [go_sem, Try.results58])
    exact .inl ⟨7, rfl, rfl⟩
def flatR (l : List (Int × List Int)) : List Int := (l.map fun x => allR x.1 x.2).flatten
theorem flatR_succ (l : List (Int × List Int)) (i : Nat) (h : i < l.length) : flatR (l.take (i + 1)) = flatR (l.take i) ++ allR (rg l i).1 (rg l i).2 := by
  rw [List.take_succ_eq_append_getElem h, rg_at h]; unfold flatR; rw [List.map_append, List.flatten_append]; simp only [List.map_cons, List.map_nil, List.flatten_cons, List.flatten_nil, List.append_nil]
theorem flatS_succ (l : List (List Int)) (i : Nat) (h : i < l.length) : (l.take (i + 1)).flatten = (l.take i).flatten ++ rw' l i := by
  rw [List.take_succ_eq_append_getElem h, rw_at h, List.flatten_append]; simp only [List.flatten_cons, List.flatten_nil, List.append_nil]
theorem flatR_len (B : Nat) : ∀ (l : List (Int × List Int)), (∀ x ∈ l, x.2.length ≤ B) → (flatR l).length ≤ l.length * (B + 1)
  | [], _ => by simp [flatR]
  | x :: l, h => by
    have h1 := flatR_len B l fun y hy => h y (List.mem_cons_of_mem _ hy)
    have h2 := h x (by simp)
    have h3 := allR_len x.1 x.2
    have : flatR (x :: l) = allR x.1 x.2 ++ flatR l := by simp [flatR]
    rw [this, List.length_append, List.length_cons, Nat.succ_mul]; omega
theorem flatS_len (B : Nat) : ∀ (l : List (List Int)), (∀ x ∈ l, x.length ≤ B) → l.flatten.length ≤ l.length * B
  | [], _ => by simp
  | x :: l, h => by
    have h1 := flatS_len B l fun y hy => h y (List.mem_cons_of_mem _ hy)
    have h2 := h x (by simp)
    rw [List.flatten_cons, List.length_append, List.length_cons, Nat.succ_mul]; omega
def allN (r : Rn) : List Int := flatR r.rs ++ r.sh.flatten
theorem flatR_take {r : Rn} (h : Small r) (i : Nat) : (flatR (r.rs.take i)).length ≤ 400100 := by
  have h1 := flatR_len 4000 (r.rs.take i) fun x hx => h.rl x (List.mem_of_mem_take hx)
  have h2 := h.rs
  rw [List.length_take] at h1
  have : min i r.rs.length * (4000 + 1) ≤ 100 * 4001 := Nat.mul_le_mul_right _ (by omega)
  omega
theorem flatS_take {r : Rn} (h : Small r) (i : Nat) : ((r.sh.take i).flatten).length ≤ 400000 := by
  have h1 := flatS_len 4000 (r.sh.take i) fun x hx => h.sl x (List.mem_of_mem_take hx)
  have h2 := h.sh
  rw [List.length_take] at h1
  have : min i r.sh.length * 4000 ≤ 100 * 4000 := Nat.mul_le_mul_right _ (by omega)
  omega
theorem allN_len {r : Rn} (h : Small r) : (allN r).length ≤ 800100 := by
  have h1 := flatR_take h r.rs.length
  have h2 := flatS_take h r.sh.length
  rw [List.take_length] at h1 h2
  unfold allN; rw [List.length_append]; omega
theorem all26_spec (r : Rn) (h : Small r) : Ret Try.prog 26 [.agg (runC r)] (.sl false (ints (allN r))) := by
  have hr2 := rgs_2 r.rs
  have hw1 := rws_1 r.sh
  have := h.rs; have := h.sh; have := h.t
  refine Ret_of_body Try.func26 (by kernel_rfl) rfl ?_; rw [Try.ntmps26]
  repeat (first | ((with_reducible first | refine O1 rfl (fun N hN => ?_) | refine O2 rfl rfl rfl (fun N hN => ?_)); simp only [go_sem]; (repeat (refine ⟨by first | omega | ((try simp only [go_sem, List.length_append, lim, lim2]) <;> omega) | assumption | exact ints_1 _ | exact rfl | (simp [ints]; done), ?_⟩)); (first | refine hN _ ?_ | (intro _ _; refine hN _ ?_)); clear hN N) | with_reducible (first | apply Ea | apply Eb | apply Ec | apply Ed | apply Ee | apply Ef | apply Eg | apply Eh | apply Ei | apply Ej | apply Ek | apply El | apply Em | refine En rfl ?_ | apply Eo | apply Ep | apply Eq1 | apply Er | apply Es) | ((with_reducible first | refine O3 rfl rfl rfl rfl ?_ | refine O4 rfl rfl rfl ?_); simp only [go_sem]))
  refine TW_sub (Sub_grow (t := 3) (id := 3) 3 1 rfl rfl (Nat.zero_le _)) ?_
  simp only [go_sem]
  have hz : [] = flatR (r.rs.take 0) := rfl
  refine TW_sub (Sub_blank [true, false, false, false, true, true, true, false, true, false, false, false, true, true, true, true, true, true, true, true]) ?_
  refine TW_loop (fun fuel st => ∃ (i : Nat) (u : List Int), (i ≤ r.rs.length) ∧ (u = flatR (r.rs.take i)) ∧  fuel = r.rs.length - i ∧ st = ⟨[.junk, .ptr 1 0, .nils, .bsl 3, .junk, .junk, .junk, .junk, .junk, .sl false (rgs r.rs), .int .i64 (↑r.rs.length : Int), .int .i64 i, .junk, .junk, .junk, .junk, .junk, .junk, .junk, .junk, .junk, .junk, .junk, .junk, .junk, .junk, .junk, .junk, .junk, .junk, .junk, .junk], [.un, .box [.sl false (vts r.t), .int .i64 r.size, .sl false (rgs r.rs), .sl false (rws r.sh), .int .u64 (↑r.on : Int)], .un, .arr 3 1 (ints u), .un, .un, .un, .un, .un, .un, .un, .un, .un, .un, .un, .un, .un, .un, .un, .un, .un, .un, .un, .un, .un, .un, .un, .un, .un, .un, .un, .un], 0⟩) (n := _) ⟨0, [], by first | omega | (simp; done) | (simp; omega) | assumption, by first | omega | (simp; done) | (simp; omega) | assumption, rfl, rfl⟩ ?_
  rintro fuel st ⟨i, u, hi, hu, rfl, rfl⟩
  have hul := flatR_take h i
  rw [← hu] at hul
  repeat (first | ((with_reducible first | refine O1 rfl (fun N hN => ?_) | refine O2 rfl rfl rfl (fun N hN => ?_)); simp only [go_sem]; (repeat (refine ⟨by first | omega | ((try simp only [go_sem, List.length_append, lim, lim2]) <;> omega) | assumption | exact ints_1 _ | exact rfl | (simp [ints]; done), ?_⟩)); (first | refine hN _ ?_ | (intro _ _; refine hN _ ?_)); clear hN N) | with_reducible (first | apply Ea | apply Eb | apply Ec | apply Ed | apply Ee | apply Ef | apply Eg | apply Eh | apply Ei | apply Ej | apply Ek | apply El | apply Em | refine En rfl ?_ | apply Eo | apply Ep | apply Eq1 | apply Er | apply Es) | ((with_reducible first | refine O3 rfl rfl rfl rfl ?_ | refine O4 rfl rfl rfl ?_); simp only [go_sem]))
  refine TW_cond rfl (fun hc => ?_) (fun hc => ?_)
  · have hlt : i < r.rs.length := by simpa using hc
    have hg := rgs_get r.rs i hlt
    have hw := wrap_i64 (n := (i : Int) + 1) (by omega) (by omega)
    have hel : (rg r.rs i).2.length ≤ 4000 := h.rl _ (by rw [rg_at hlt]; exact List.getElem_mem hlt)
    have hal := allR_len (rg r.rs i).1 (rg r.rs i).2
    have hs := flatR_succ r.rs i hlt
    rw [← hu] at hs
    repeat (first | ((with_reducible first | refine O1 rfl (fun N hN => ?_) | refine O2 rfl rfl rfl (fun N hN => ?_)); simp only [go_sem, hg]; (repeat (refine ⟨by first | omega | ((try simp only [go_sem, hg, List.length_append, lim, lim2]) <;> omega) | assumption | exact ints_1 _ | exact rfl | (simp [ints]; done), ?_⟩)); (first | refine hN _ ?_ | (intro _ _; refine hN _ ?_)); clear hN N) | with_reducible (first | apply Ea | apply Eb | apply Ec | apply Ed | apply Ee | apply Ef | apply Eg | apply Eh | apply Ei | apply Ej | apply Ek | apply El | apply Em | refine En rfl ?_ | apply Eo | apply Ep | apply Eq1 | apply Er | apply Es) | ((with_reducible first | refine O3 rfl rfl rfl rfl ?_ | refine O4 rfl rfl rfl ?_); simp only [go_sem, hg]))
    ((with_reducible first | refine O1 rfl (fun N hN => ?_) | refine O2 rfl rfl rfl (fun N hN => ?_)); simp only [go_sem, hg]; refine vCall.pu _ _ (rall_spec false (rg r.rs i).1 (rg r.rs i).2 (by omega)) ?ha23 (hN _ ?hk23); (case ha23 => (first | (simp only [go_sem, hg]; done) | (simp only [go_sem, hg] <;> (first | omega | ((try simp only [go_sem, hg, List.length_append, lim, lim2]) <;> omega) | assumption | exact ints_1 _ | exact rfl | (simp [ints]; done))) | (simp [ints]; done))); clear hN N; apply Ops_eq; (simp only [go_sem, hg]; rfl))
    repeat (first | ((with_reducible first | refine O1 rfl (fun N hN => ?_) | refine O2 rfl rfl rfl (fun N hN => ?_)); simp only [go_sem, hw]; (repeat (refine ⟨by first | omega | ((try simp only [go_sem, hw, List.length_append, lim, lim2]) <;> omega) | assumption | exact ints_1 _ | exact rfl | (simp [ints]; done), ?_⟩)); (first | refine hN _ ?_ | (intro _ _; refine hN _ ?_)); clear hN N) | with_reducible (first | apply Ea | apply Eb | apply Ec | apply Ed | apply Ee | apply Ef | apply Eg | apply Eh | apply Ei | apply Ej | apply Ek | apply El | apply Em | refine En rfl ?_ | apply Eo | apply Ep | apply Eq1 | apply Er | apply Es) | ((with_reducible first | refine O3 rfl rfl rfl rfl ?_ | refine O4 rfl rfl rfl ?_); simp only [go_sem, hw]))
    (refine ⟨(fun (i : Nat) (u : List Int) => r.rs.length - i) (i + 1) ( u ++ allR (rg r.rs i).1 (rg r.rs i).2), _, ?hm, ?hI, (Sub.trans (Sub_swap 3 18 (by simp) (by simp) (Nat.zero_le _) (Nat.zero_le _)) (Sub.trans (Sub_forget [18, 5] rfl) (Sub_blank [true, false, false, false, true, true, true, false, true, false, false, false, true, true, true, true, true, true, true, true])))⟩; (case hm => (first | omega | (simp only; omega))); (case hI => (simp only [go_sem, forget, swap, scrL, scr, scrH, scrO, renL, ren, renO, sw, blankL, List.contains_cons, List.contains_nil, Nat.reduceBEq, Bool.or_false, Bool.false_or, Bool.or_true, Bool.true_or, Bool.false_eq_true, if_true, if_false] <;> exact ⟨i + 1, u ++ allR (rg r.rs i).1 (rg r.rs i).2, by omega, hs.symm, rfl, rfl⟩)))
  · have hi2 : u = flatR r.rs := by
      have : ¬ (i < r.rs.length) := by simpa using hc
      rw [hu, List.take_of_length_le (by omega)]
    repeat (first | ((with_reducible first | refine O1 rfl (fun N hN => ?_) | refine O2 rfl rfl rfl (fun N hN => ?_)); simp only [go_sem]; (repeat (refine ⟨by first | omega | ((try simp only [go_sem, List.length_append, lim, lim2]) <;> omega) | assumption | exact ints_1 _ | exact rfl | (simp [ints]; done), ?_⟩)); (first | refine hN _ ?_ | (intro _ _; refine hN _ ?_)); clear hN N) | with_reducible (first | apply Ea | apply Eb | apply Ec | apply Ed | apply Ee | apply Ef | apply Eg | apply Eh | apply Ei | apply Ej | apply Ek | apply El | apply Em | refine En rfl ?_ | apply Eo | apply Ep | apply Eq1 | apply Er | apply Es) | ((with_reducible first | refine O3 rfl rfl rfl rfl ?_ | refine O4 rfl rfl rfl ?_); simp only [go_sem]))
    have hz2 : u = u ++ (r.sh.take 0).flatten := by simp
    refine TW_sub (Sub_blank [true, true, false, false, true, true, true, true, true, true, true, true, true, true, true, true, true, true, true, true, true, false, false, false, true, true, true, true, true, true, true]) ?_
    refine TW_loop (fun fuel st => ∃ (j : Nat) (v : List Int), (j ≤ r.sh.length) ∧ (v = u ++ (r.sh.take j).flatten) ∧  fuel = r.sh.length - j ∧ st = ⟨[.junk, .junk, .nils, .bsl 3, .junk, .junk, .junk, .junk, .junk, .junk, .junk, .junk, .junk, .junk, .junk, .junk, .junk, .junk, .junk, .junk, .junk, .sl false (rws r.sh), .int .i64 (↑r.sh.length : Int), .int .i64 j, .junk, .junk, .junk, .junk, .junk, .junk, .junk, .junk], [.un, .box [.sl false (vts r.t), .int .i64 r.size, .sl false (rgs r.rs), .sl false (rws r.sh), .int .u64 (↑r.on : Int)], .un, .arr 3 1 (ints v), .un, .un, .un, .un, .un, .un, .un, .un, .un, .un, .un, .un, .un, .un, .un, .un, .un, .un, .un, .un, .un, .un, .un, .un, .un, .un, .un, .un], 0⟩) (n := _) ⟨0, u, by first | omega | (simp; done) | (simp; omega) | assumption, by first | omega | (simp; done) | (simp; omega) | assumption, rfl, rfl⟩ ?_
    rintro fuel st ⟨j, v, hj, hv, rfl, rfl⟩
    have hvl := flatS_take h j
    have hvl2 : v.length ≤ 800100 := by rw [hv, List.length_append]; omega
    repeat (first | ((with_reducible first | refine O1 rfl (fun N hN => ?_) | refine O2 rfl rfl rfl (fun N hN => ?_)); simp only [go_sem]; (repeat (refine ⟨by first | omega | ((try simp only [go_sem, List.length_append, lim, lim2]) <;> omega) | assumption | exact ints_1 _ | exact rfl | (simp [ints]; done), ?_⟩)); (first | refine hN _ ?_ | (intro _ _; refine hN _ ?_)); clear hN N) | with_reducible (first | apply Ea | apply Eb | apply Ec | apply Ed | apply Ee | apply Ef | apply Eg | apply Eh | apply Ei | apply Ej | apply Ek | apply El | apply Em | refine En rfl ?_ | apply Eo | apply Ep | apply Eq1 | apply Er | apply Es) | ((with_reducible first | refine O3 rfl rfl rfl rfl ?_ | refine O4 rfl rfl rfl ?_); simp only [go_sem]))
    refine TW_cond rfl (fun hc => ?_) (fun hc => ?_)
    · have hlt : j < r.sh.length := by simpa using hc
      have hg := rws_get r.sh j hlt
      have hw := wrap_i64 (n := (j : Int) + 1) (by omega) (by omega)
      have hel : (rw' r.sh j).length ≤ 4000 := h.sl _ (by rw [rw_at hlt]; exact List.getElem_mem hlt)
      have hs := flatS_succ r.sh j hlt
      repeat (first | ((with_reducible first | refine O1 rfl (fun N hN => ?_) | refine O2 rfl rfl rfl (fun N hN => ?_)); simp only [go_sem, hg, hw]; (repeat (refine ⟨by first | omega | ((try simp only [go_sem, hg, hw, List.length_append, lim, lim2]) <;> omega) | assumption | exact ints_1 _ | exact rfl | (simp [ints]; done), ?_⟩)); (first | refine hN _ ?_ | (intro _ _; refine hN _ ?_)); clear hN N) | with_reducible (first | apply Ea | apply Eb | apply Ec | apply Ed | apply Ee | apply Ef | apply Eg | apply Eh | apply Ei | apply Ej | apply Ek | apply El | apply Em | refine En rfl ?_ | apply Eo | apply Ep | apply Eq1 | apply Er | apply Es) | ((with_reducible first | refine O3 rfl rfl rfl rfl ?_ | refine O4 rfl rfl rfl ?_); simp only [go_sem, hg, hw]))
      (refine ⟨(fun (j : Nat) (v : List Int) => r.sh.length - j) (j + 1) ( v ++ rw' r.sh j), _, ?hm, ?hI, (Sub.trans (Sub_swap 3 29 (by simp) (by simp) (Nat.zero_le _) (Nat.zero_le _)) (Sub.trans (Sub_forget [29] rfl) (Sub_blank [true, true, false, false, true, true, true, true, true, true, true, true, true, true, true, true, true, true, true, true, true, false, false, false, true, true, true, true, true, true, true])))⟩; (case hm => (first | omega | (simp only; omega))); (case hI => (simp only [go_sem, forget, swap, scrL, scr, scrH, scrO, renL, ren, renO, sw, blankL, List.contains_cons, List.contains_nil, Nat.reduceBEq, Bool.or_false, Bool.false_or, Bool.or_true, Bool.true_or, Bool.false_eq_true, if_true, if_false] <;> exact ⟨j + 1, v ++ rw' r.sh j, by omega, by rw [hs, hv, List.append_assoc], rfl, rfl⟩)))
    · have hj2 : (r.sh.take j) = r.sh := by
        have : ¬ (j < r.sh.length) := by simpa using hc
        rw [List.take_of_length_le (by omega)]
      repeat (first | ((with_reducible first | refine O1 rfl (fun N hN => ?_) | refine O2 rfl rfl rfl (fun N hN => ?_)); simp only [go_sem]; (repeat (refine ⟨by first | omega | ((try simp only [go_sem, List.length_append, lim, lim2]) <;> omega) | assumption | exact ints_1 _ | exact rfl | (simp [ints]; done), ?_⟩)); (first | refine hN _ ?_ | (intro _ _; refine hN _ ?_)); clear hN N) | with_reducible (first | apply Ea | apply Eb | apply Ec | apply Ed | apply Ee | apply Ef | apply Eg | apply Eh | apply Ei | apply Ej | apply Ek | apply El | apply Em | refine En rfl ?_ | apply Eo | apply Ep | apply Eq1 | apply Er | apply Es) | ((with_reducible first | refine O3 rfl rfl rfl rfl ?_ | refine O4 rfl rfl rfl ?_); simp only [go_sem]))
      (refine ⟨by simp, ?_⟩; simp only [go_sem, Try.results26])
      rw [hv, hj2, hi2]; rfl
attribute [local go_sem] vts_len vts_take vts_drop vts_cat vts_snoc rgs_len rws_len rgs_snoc rws_snoc rgs_cat rws_cat rgs_set rws_set rgs_take rws_take rgs_drop rws_drop rgs_nil rws_nil vts_nil runC
theorem grow_spec (n : Int) (h0 : 0 ≤ n) (h1 : n ≤ 10000000) : RetH Try.prog 115 [.nils, .int .i64 n] [] (.bsl 0) [.arr 3 1 []] := by
  have hw := wrap_i64 (n := n - 0) (by omega) (by omega)
  have hw0 := wrap_i64 (n := (0 : Int) - 0) (by omega) (by omega)
  have e1 : (0 : Int) - 0 = 0 := by omega
  have e2 : n - 0 = n := by omega
  rw [e2] at hw
  rw [e1] at hw0
  refine RetA_of_body Try.func115 (by kernel_rfl) rfl ?_; rw [Try.ntmps115]
  repeat (first | ((with_reducible first | refine O1 rfl (fun N hN => ?_) | refine O2 rfl rfl rfl (fun N hN => ?_)); simp only [go_sem, e1, e2, hw, hw0]; (repeat (refine ⟨by first | omega | ((try simp only [go_sem, e1, e2, hw, hw0, List.length_append, lim, lim2]) <;> omega) | assumption | exact ints_1 _ | exact rfl | (simp [ints]; done), ?_⟩)); (first | refine hN _ ?_ | (intro _ _; refine hN _ ?_)); clear hN N) | with_reducible (first | apply Ea | apply Eb | apply Ec | apply Ed | apply Ee | apply Ef | apply Eg | apply Eh | apply Ei | apply Ej | apply Ek | apply El | apply Em | refine En rfl ?_ | apply Eo | apply Ep | apply Eq1 | apply Er | apply Es) | ((with_reducible first | refine O3 rfl rfl rfl rfl ?_ | refine O4 rfl rfl rfl ?_); simp only [go_sem, e1, e2, hw, hw0]))
  refine TW_cond rfl (fun hc => ?_) (fun hc => ?_)
  · have : n < 0 := by simpa using hc
    omega
  · repeat (first | ((with_reducible first | refine O1 rfl (fun N hN => ?_) | refine O2 rfl rfl rfl (fun N hN => ?_)); simp only [go_sem, e1, e2, hw, hw0]; (repeat (refine ⟨by first | omega | ((try simp only [go_sem, e1, e2, hw, hw0, List.length_append, lim, lim2]) <;> omega) | assumption | exact ints_1 _ | exact rfl | (simp [ints]; done), ?_⟩)); (first | refine hN _ ?_ | (intro _ _; refine hN _ ?_)); clear hN N) | with_reducible (first | apply Ea | apply Eb | apply Ec | apply Ed | apply Ee | apply Ef | apply Eg | apply Eh | apply Ei | apply Ej | apply Ek | apply El | apply Em | refine En rfl ?_ | apply Eo | apply Ep | apply Eq1 | apply Er | apply Es) | ((with_reducible first | refine O3 rfl rfl rfl rfl ?_ | refine O4 rfl rfl rfl ?_); simp only [go_sem, e1, e2, hw, hw0]))
    refine TW_cond rfl (fun hc => ?_) (fun hc => ?_)
    · have hn : 0 < n := by simpa using hc
      repeat (first | ((with_reducible first | refine O1 rfl (fun N hN => ?_) | refine O2 rfl rfl rfl (fun N hN => ?_)); simp only [go_sem, e1, e2, hw, hw0]; (repeat (refine ⟨by first | omega | ((try simp only [go_sem, e1, e2, hw, hw0, List.length_append, lim, lim2]) <;> omega) | assumption | exact ints_1 _ | exact rfl | (simp [ints]; done), ?_⟩)); (first | refine hN _ ?_ | (intro _ _; refine hN _ ?_)); clear hN N) | with_reducible (first | apply Ea | apply Eb | apply Ec | apply Ed | apply Ee | apply Ef | apply Eg | apply Eh | apply Ei | apply Ej | apply Ek | apply El | apply Em | refine En rfl ?_ | apply Eo | apply Ep | apply Eq1 | apply Er | apply Es) | ((with_reducible first | refine O3 rfl rfl rfl rfl ?_ | refine O4 rfl rfl rfl ?_); simp only [go_sem, e1, e2, hw, hw0]))
      (refine ⟨by simp, ?_⟩; simp only [go_sem, Try.results115])
      exact .inl ⟨25, rfl, rfl⟩
    · repeat (first | ((with_reducible first | refine O1 rfl (fun N hN => ?_) | refine O2 rfl rfl rfl (fun N hN => ?_)); simp only [go_sem]; (repeat (refine ⟨by first | omega | ((try simp only [go_sem, List.length_append, lim, lim2]) <;> omega) | assumption | exact ints_1 _ | exact rfl | (simp [ints]; done), ?_⟩)); (first | refine hN _ ?_ | (intro _ _; refine hN _ ?_)); clear hN N) | with_reducible (first | apply Ea | apply Eb | apply Ec | apply Ed | apply Ee | apply Ef | apply Eg | apply Eh | apply Ei | apply Ej | apply Ek | apply El | apply Em | refine En rfl ?_ | apply Eo | apply Ep | apply Eq1 | apply Er | apply Es) | ((with_reducible first | refine O3 rfl rfl rfl rfl ?_ | refine O4 rfl rfl rfl ?_); simp only [go_sem]))
      (refine ⟨by simp, ?_⟩; simp only [go_sem, Try.results115])
      exact .inr trivial
theorem concat_spec (f : Bool) (ls : List (List Int)) (h : ls.length ≤ 100) (h2 : ∀ x ∈ ls, x.length ≤ 90000) : Ret Try.prog 72 [.sl f (rws ls)] (.sl false (ints ls.flatten)) := by
  have hw1 := rws_1 ls
  have hfl : ∀ i, ((ls.take i).flatten).length ≤ 9000000 := fun i => by
    have h3 := flatS_len 90000 (ls.take i) fun x hx => h2 x (List.mem_of_mem_take hx)
    rw [List.length_take] at h3
    have : min i ls.length * 90000 ≤ 100 * 90000 := Nat.mul_le_mul_right _ (by omega)
    omega
  have hz : ((([] : List Int).length : Nat) : Int) = 0 := rfl
  have hz0 : (0 : Int) = (((ls.take 0).flatten).length : Nat) := rfl
  refine Ret_of_body Try.func72 (by kernel_rfl) rfl ?_; rw [Try.ntmps72]
  repeat (first | ((with_reducible first | refine O1 rfl (fun N hN => ?_) | refine O2 rfl rfl rfl (fun N hN => ?_)); simp only [go_sem]; (repeat (refine ⟨by first | omega | ((try simp only [go_sem, List.length_append, lim, lim2]) <;> omega) | assumption | exact ints_1 _ | exact rfl | (simp [ints]; done), ?_⟩)); (first | refine hN _ ?_ | (intro _ _; refine hN _ ?_)); clear hN N) | with_reducible (first | apply Ea | apply Eb | apply Ec | apply Ed | apply Ee | apply Ef | apply Eg | apply Eh | apply Ei | apply Ej | apply Ek | apply El | apply Em | refine En rfl ?_ | apply Eo | apply Ep | apply Eq1 | apply Er | apply Es) | ((with_reducible first | refine O3 rfl rfl rfl rfl ?_ | refine O4 rfl rfl rfl ?_); simp only [go_sem]))
  refine TW_sub (Sub_blank [false, true, false, false, true, true, false, true, false, false, false, false, true, true, true, true, true, true, true, true, true, true, true]) ?_
  refine TW_loop (fun fuel st => ∃ (i : Nat) (c : Int), (i ≤ ls.length) ∧ (c = (((ls.take i).flatten).length : Nat)) ∧  fuel = ls.length - i ∧ st = ⟨[.sl f (rws ls), .junk, .nils, .int .i64 c, .junk, .junk, .junk, .junk, .junk, .sl f (rws ls), .int .i64 (↑ls.length : Int), .int .i64 i, .junk, .junk, .junk, .junk, .junk, .junk, .junk, .junk, .junk, .junk, .junk, .junk, .junk, .junk, .junk, .junk, .junk, .junk, .junk, .junk, .junk, .junk, .junk, .junk], [.un, .un, .un, .un, .un, .un, .un, .un, .un, .un, .un, .un, .un, .un, .un, .un, .un, .un, .un, .un, .un, .un, .un, .un, .un, .un, .un, .un, .un, .un, .un, .un, .un, .un, .un, .un], 0⟩) (n := _) ⟨0, 0, by first | omega | (simp; done) | (simp; omega) | assumption, by first | omega | (simp; done) | (simp; omega) | assumption, rfl, rfl⟩ ?_
  rintro fuel st ⟨i, c, hi, hcc, rfl, rfl⟩
  have hci := hfl i
  repeat (first | ((with_reducible first | refine O1 rfl (fun N hN => ?_) | refine O2 rfl rfl rfl (fun N hN => ?_)); simp only [go_sem]; (repeat (refine ⟨by first | omega | ((try simp only [go_sem, List.length_append, lim, lim2]) <;> omega) | assumption | exact ints_1 _ | exact rfl | (simp [ints]; done), ?_⟩)); (first | refine hN _ ?_ | (intro _ _; refine hN _ ?_)); clear hN N) | with_reducible (first | apply Ea | apply Eb | apply Ec | apply Ed | apply Ee | apply Ef | apply Eg | apply Eh | apply Ei | apply Ej | apply Ek | apply El | apply Em | refine En rfl ?_ | apply Eo | apply Ep | apply Eq1 | apply Er | apply Es) | ((with_reducible first | refine O3 rfl rfl rfl rfl ?_ | refine O4 rfl rfl rfl ?_); simp only [go_sem]))
  refine TW_cond rfl (fun hc => ?_) (fun hc => ?_)
  · have hlt : i < ls.length := by simpa using hc
    have hg := rws_get ls i hlt
    have hw := wrap_i64 (n := (i : Int) + 1) (by omega) (by omega)
    have hel : (rw' ls i).length ≤ 90000 := h2 _ (by rw [rw_at hlt]; exact List.getElem_mem hlt)
    have hs := congrArg List.length (flatS_succ ls i hlt)
    rw [List.length_append] at hs
    have hwc := wrap_i64 (n := c + (rw' ls i).length) (by omega) (by omega)
    repeat (first | ((with_reducible first | refine O1 rfl (fun N hN => ?_) | refine O2 rfl rfl rfl (fun N hN => ?_)); simp only [go_sem, hg, hwc]; (repeat (refine ⟨by first | omega | ((try simp only [go_sem, hg, hwc, List.length_append, lim, lim2]) <;> omega) | assumption | exact ints_1 _ | exact rfl | (simp [ints]; done), ?_⟩)); (first | refine hN _ ?_ | (intro _ _; refine hN _ ?_)); clear hN N) | with_reducible (first | apply Ea | apply Eb | apply Ec | apply Ed | apply Ee | apply Ef | apply Eg | apply Eh | apply Ei | apply Ej | apply Ek | apply El | apply Em | refine En rfl ?_ | apply Eo | apply Ep | apply Eq1 | apply Er | apply Es) | ((with_reducible first | refine O3 rfl rfl rfl rfl ?_ | refine O4 rfl rfl rfl ?_); simp only [go_sem, hg, hwc]))
    refine TW_cond rfl (fun hc => ?_) (fun hc => ?_)
    · have : c + (rw' ls i).length < 0 := by simpa using hc
      omega
    · repeat (first | ((with_reducible first | refine O1 rfl (fun N hN => ?_) | refine O2 rfl rfl rfl (fun N hN => ?_)); simp only [go_sem, hw]; (repeat (refine ⟨by first | omega | ((try simp only [go_sem, hw, List.length_append, lim, lim2]) <;> omega) | assumption | exact ints_1 _ | exact rfl | (simp [ints]; done), ?_⟩)); (first | refine hN _ ?_ | (intro _ _; refine hN _ ?_)); clear hN N) | with_reducible (first | apply Ea | apply Eb | apply Ec | apply Ed | apply Ee | apply Ef | apply Eg | apply Eh | apply Ei | apply Ej | apply Ek | apply El | apply Em | refine En rfl ?_ | apply Eo | apply Ep | apply Eq1 | apply Er | apply Es) | ((with_reducible first | refine O3 rfl rfl rfl rfl ?_ | refine O4 rfl rfl rfl ?_); simp only [go_sem, hw]))
      exact ⟨_, _, by omega, ⟨i + 1, c + (rw' ls i).length, by omega, by rw [hs, hcc]; omega, rfl, rfl⟩, Sub_blank [false, true, false, false, true, true, false, true, false, false, false, false, true, true, true, true, true, true, true, true, true, true, true]⟩
  · have hi2 : ls.take i = ls := by
      have : ¬ (i < ls.length) := by simpa using hc
      rw [List.take_of_length_le (by omega)]
    repeat (first | ((with_reducible first | refine O1 rfl (fun N hN => ?_) | refine O2 rfl rfl rfl (fun N hN => ?_)); simp only [go_sem]; (repeat (refine ⟨by first | omega | ((try simp only [go_sem, List.length_append, lim, lim2]) <;> omega) | assumption | exact ints_1 _ | exact rfl | (simp [ints]; done), ?_⟩)); (first | refine hN _ ?_ | (intro _ _; refine hN _ ?_)); clear hN N) | with_reducible (first | apply Ea | apply Eb | apply Ec | apply Ed | apply Ee | apply Ef | apply Eg | apply Eh | apply Ei | apply Ej | apply Ek | apply El | apply Em | refine En rfl ?_ | apply Eo | apply Ep | apply Eq1 | apply Er | apply Es) | ((with_reducible first | refine O3 rfl rfl rfl rfl ?_ | refine O4 rfl rfl rfl ?_); simp only [go_sem]))
    ((with_reducible first | refine O1 rfl (fun N hN => ?_) | refine O2 rfl rfl rfl (fun N hN => ?_)); simp only [go_sem]; refine vCall.ar _ _ _ _ _ rfl ?ht18 (grow_spec c (by omega) (by omega)) ?ha18 ?hu18 (hN _ ?hk18); (case ht18 => (simp only [go_sem]; done)); (case hu18 => (simp only [go_sem]; done)); (case ha18 => (first | (simp only [go_sem]; done) | (simp only [go_sem] <;> (first | omega | ((try simp only [go_sem, List.length_append, lim, lim2]) <;> omega) | assumption | exact ints_1 _ | exact rfl | (simp [ints]; done))) | (simp [ints]; done))); clear hN N; apply Ops_eq; (simp only [go_sem]; rfl))
    repeat (first | ((with_reducible first | refine O1 rfl (fun N hN => ?_) | refine O2 rfl rfl rfl (fun N hN => ?_)); simp only [go_sem]; (repeat (refine ⟨by first | omega | ((try simp only [go_sem, List.length_append, lim, lim2]) <;> omega) | assumption | exact ints_1 _ | exact rfl | (simp [ints]; done), ?_⟩)); (first | refine hN _ ?_ | (intro _ _; refine hN _ ?_)); clear hN N) | with_reducible (first | apply Ea | apply Eb | apply Ec | apply Ed | apply Ee | apply Ef | apply Eg | apply Eh | apply Ei | apply Ej | apply Ek | apply El | apply Em | refine En rfl ?_ | apply Eo | apply Ep | apply Eq1 | apply Er | apply Es) | ((with_reducible first | refine O3 rfl rfl rfl rfl ?_ | refine O4 rfl rfl rfl ?_); simp only [go_sem]))
    have hz1 : ([] : List (List AV)) = ints ((ls.take 0).flatten) := rfl
    rw [hz1]
    refine TW_sub (Sub_blank [true, true, false, true, true, true, false, true, true, true, true, true, true, true, true, true, true, true, true, true, true, true, true, true, true, false, false, false, true, true, true, true, true, true, true]) ?_
    refine TW_loop (fun fuel st => ∃ (j : Nat) (v : List Int), (j ≤ ls.length) ∧ (v = (ls.take j).flatten) ∧  fuel = ls.length - j ∧ st = ⟨[.junk, .junk, .nils, .junk, .junk, .junk, .bsl 24, .junk, .junk, .junk, .junk, .junk, .junk, .junk, .junk, .junk, .junk, .junk, .junk, .junk, .junk, .junk, .junk, .junk, .junk, .sl f (rws ls), .int .i64 (↑ls.length : Int), .int .i64 j, .junk, .junk, .junk, .junk, .junk, .junk, .junk, .junk], [.un, .un, .un, .un, .un, .un, .un, .un, .un, .un, .un, .un, .un, .un, .un, .un, .un, .un, .un, .un, .un, .un, .un, .un, .arr 3 1 (ints v), .un, .un, .un, .un, .un, .un, .un, .un, .un, .un, .un], 0⟩) (n := _) ⟨0, (ls.take 0).flatten, by first | omega | (simp; done) | (simp; omega) | assumption, by first | omega | (simp; done) | (simp; omega) | assumption, rfl, rfl⟩ ?_
    rintro fuel st ⟨j, v, hj, hv, rfl, rfl⟩
    have hvl := hfl j
    rw [← hv] at hvl
    repeat (first | ((with_reducible first | refine O1 rfl (fun N hN => ?_) | refine O2 rfl rfl rfl (fun N hN => ?_)); simp only [go_sem]; (repeat (refine ⟨by first | omega | ((try simp only [go_sem, List.length_append, lim, lim2]) <;> omega) | assumption | exact ints_1 _ | exact rfl | (simp [ints]; done), ?_⟩)); (first | refine hN _ ?_ | (intro _ _; refine hN _ ?_)); clear hN N) | with_reducible (first | apply Ea | apply Eb | apply Ec | apply Ed | apply Ee | apply Ef | apply Eg | apply Eh | apply Ei | apply Ej | apply Ek | apply El | apply Em | refine En rfl ?_ | apply Eo | apply Ep | apply Eq1 | apply Er | apply Es) | ((with_reducible first | refine O3 rfl rfl rfl rfl ?_ | refine O4 rfl rfl rfl ?_); simp only [go_sem]))
    refine TW_cond rfl (fun hc => ?_) (fun hc => ?_)
    · have hlt : j < ls.length := by simpa using hc
      have hg := rws_get ls j hlt
      have hw := wrap_i64 (n := (j : Int) + 1) (by omega) (by omega)
      have hel : (rw' ls j).length ≤ 90000 := h2 _ (by rw [rw_at hlt]; exact List.getElem_mem hlt)
      have hs := flatS_succ ls j hlt
      repeat (first | ((with_reducible first | refine O1 rfl (fun N hN => ?_) | refine O2 rfl rfl rfl (fun N hN => ?_)); simp only [go_sem, hg, hw]; (repeat (refine ⟨by first | omega | ((try simp only [go_sem, hg, hw, List.length_append, lim, lim2]) <;> omega) | assumption | exact ints_1 _ | exact rfl | (simp [ints]; done), ?_⟩)); (first | refine hN _ ?_ | (intro _ _; refine hN _ ?_)); clear hN N) | with_reducible (first | apply Ea | apply Eb | apply Ec | apply Ed | apply Ee | apply Ef | apply Eg | apply Eh | apply Ei | apply Ej | apply Ek | apply El | apply Em | refine En rfl ?_ | apply Eo | apply Ep | apply Eq1 | apply Er | apply Es) | ((with_reducible first | refine O3 rfl rfl rfl rfl ?_ | refine O4 rfl rfl rfl ?_); simp only [go_sem, hg, hw]))
      (refine ⟨(fun (j : Nat) (v : List Int) => ls.length - j) (j + 1) ( v ++ rw' ls j), _, ?hm, ?hI, (Sub.trans (Sub_swap 24 33 (by simp) (by simp) (Nat.zero_le _) (Nat.zero_le _)) (Sub.trans (Sub_forget [33] rfl) (Sub_blank [true, true, false, true, true, true, false, true, true, true, true, true, true, true, true, true, true, true, true, true, true, true, true, true, true, false, false, false, true, true, true, true, true, true, true])))⟩; (case hm => (first | omega | (simp only; omega))); (case hI => (simp only [go_sem, forget, swap, scrL, scr, scrH, scrO, renL, ren, renO, sw, blankL, List.contains_cons, List.contains_nil, Nat.reduceBEq, Bool.or_false, Bool.false_or, Bool.or_true, Bool.true_or, Bool.false_eq_true, if_true, if_false] <;> exact ⟨j + 1, v ++ rw' ls j, by omega, by rw [hs, hv], rfl, rfl⟩)))
    · have hj2 : ls.take j = ls := by
        have : ¬ (j < ls.length) := by simpa using hc
        rw [List.take_of_length_le (by omega)]
      repeat (first | ((with_reducible first | refine O1 rfl (fun N hN => ?_) | refine O2 rfl rfl rfl (fun N hN => ?_)); simp only [go_sem]; (repeat (refine ⟨by first | omega | ((try simp only [go_sem, List.length_append, lim, lim2]) <;> omega) | assumption | exact ints_1 _ | exact rfl | (simp [ints]; done), ?_⟩)); (first | refine hN _ ?_ | (intro _ _; refine hN _ ?_)); clear hN N) | with_reducible (first | apply Ea | apply Eb | apply Ec | apply Ed | apply Ee | apply Ef | apply Eg | apply Eh | apply Ei | apply Ej | apply Ek | apply El | apply Em | refine En rfl ?_ | apply Eo | apply Ep | apply Eq1 | apply Er | apply Es) | ((with_reducible first | refine O3 rfl rfl rfl rfl ?_ | refine O4 rfl rfl rfl ?_); simp only [go_sem]))
      (refine ⟨by simp, ?_⟩; simp only [go_sem, Try.results72])
      rw [hv, hj2]
def ixI {α : Type} (p : α → Bool) (l : List α) : Int := match l.findIdx? p with
  | some i => (i : Int)
  | none => -1
theorem ixI_at {α : Type} {p : α → Bool} {l : List α} {i : Nat} (h : i < l.length) (hx : ∀ j, (hj : j < i) → p (l[j]'(by omega)) = false) (hp : p l[i] = true) : ixI p l = i := by
  have : l.findIdx? p = some i := List.findIdx?_eq_some_iff_getElem.2 ⟨h, hp, fun j hj => by rw [hx j hj]; exact Bool.false_ne_true⟩
  unfold ixI; rw [this]
theorem ixI_none {α : Type} {p : α → Bool} {l : List α} (hx : ∀ j, (hj : j < l.length) → p l[j] = false) : ixI p l = -1 := by
  have : l.findIdx? p = none := List.findIdx?_eq_none_iff.2 fun x hxm => by
    obtain ⟨j, hj, rfl⟩ := List.getElem_of_mem hxm
    exact hx j hj
  unfold ixI; rw [this]
theorem ixI_any {α : Type} (p : α → Bool) (l : List α) : decide (ixI p l ≥ 0) = l.any p := by
  unfold ixI
  cases h : l.findIdx? p with
  | none =>
    have h1 := List.findIdx?_eq_none_iff.1 h
    symm
    show l.any p = false
    rw [List.any_eq_false]
    intro x hx; rw [h1 x hx]; exact Bool.false_ne_true
  | some i =>
    obtain ⟨h1, h2, _⟩ := List.findIdx?_eq_some_iff_getElem.1 h
    have : l.any p = true := List.any_eq_true.2 ⟨l[i], List.getElem_mem h1, h2⟩
    rw [this]
    exact decide_eq_true (by show (i : Int) ≥ 0; omega)
theorem ixint_spec (f : Bool) (l : List Int) (g : Nat) (cs : List AV) (p : Int → Bool) (hl : l.length ≤ 1000000) (hg : ∀ x ∈ l, Ret Try.prog g [.int .i64 x, .cptr cs] (.bool (p x))) : Ret Try.prog 121 [.sl f (ints l), .fn g [.cptr cs]] (.int .i64 (ixI p l)) := by
  have hrr := ints_1 l
  refine Ret_of_body Try.func121 (by kernel_rfl) rfl ?_; rw [Try.ntmps121]
  repeat (first | ((with_reducible first | refine O1 rfl (fun N hN => ?_) | refine O2 rfl rfl rfl (fun N hN => ?_)); simp only [go_sem]; (repeat (refine ⟨by first | omega | ((try simp only [go_sem, List.length_append, lim, lim2]) <;> omega) | assumption | exact ints_1 _ | exact rfl | (simp [ints]; done), ?_⟩)); (first | refine hN _ ?_ | (intro _ _; refine hN _ ?_)); clear hN N) | with_reducible (first | apply Ea | apply Eb | apply Ec | apply Ed | apply Ee | apply Ef | apply Eg | apply Eh | apply Ei | apply Ej | apply Ek | apply El | apply Em | refine En rfl ?_ | apply Eo | apply Ep | apply Eq1 | apply Er | apply Es) | ((with_reducible first | refine O3 rfl rfl rfl rfl ?_ | refine O4 rfl rfl rfl ?_); simp only [go_sem]))
  refine TW_sub (Sub_blank [false, false, true, true, true, true, true, false, false, true, true, true, true, true, true, true, true, true, true]) ?_
  refine TW_loop (fun fuel st => ∃ (i : Nat), (i ≤ l.length) ∧ (∀ j, (hj : j < i) → (hj2 : j < l.length) → p l[j] = false) ∧  fuel = l.length - i ∧ st = ⟨[.sl f (ints l), .fn g [.cptr cs], .junk, .junk, .junk, .junk, .junk, .int .i64 (↑l.length : Int), .int .i64 i, .junk, .junk, .junk, .junk, .junk, .junk, .junk, .junk, .junk, .junk], [.un, .un, .un, .un, .un, .un, .un, .un, .un, .un, .un, .un, .un, .un, .un, .un, .un, .un, .un], 0⟩) (n := _) ⟨0, by first | omega | (simp; done) | (simp; omega) | assumption, by first | omega | (simp; done) | (simp; omega) | assumption, rfl, rfl⟩ ?_
  rintro fuel st ⟨i, hi, hx, rfl, rfl⟩
  repeat (first | ((with_reducible first | refine O1 rfl (fun N hN => ?_) | refine O2 rfl rfl rfl (fun N hN => ?_)); simp only [go_sem]; (repeat (refine ⟨by first | omega | ((try simp only [go_sem, List.length_append, lim, lim2]) <;> omega) | assumption | exact ints_1 _ | exact rfl | (simp [ints]; done), ?_⟩)); (first | refine hN _ ?_ | (intro _ _; refine hN _ ?_)); clear hN N) | with_reducible (first | apply Ea | apply Eb | apply Ec | apply Ed | apply Ee | apply Ef | apply Eg | apply Eh | apply Ei | apply Ej | apply Ek | apply El | apply Em | refine En rfl ?_ | apply Eo | apply Ep | apply Eq1 | apply Er | apply Es) | ((with_reducible first | refine O3 rfl rfl rfl rfl ?_ | refine O4 rfl rfl rfl ?_); simp only [go_sem]))
  refine TW_cond rfl (fun hc => ?_) (fun hc => ?_)
  · have hlt : i < l.length := by simpa using hc
    have hgg := ints_get l i hlt
    have hw := wrap_i64 (n := (i : Int) + 1) (by omega) (by omega)
    have hcall := hg l[i] (List.getElem_mem hlt)
    have hat := getD_at hlt
    repeat (first | ((with_reducible first | refine O1 rfl (fun N hN => ?_) | refine O2 rfl rfl rfl (fun N hN => ?_)); simp only [go_sem, hgg, hat]; (repeat (refine ⟨by first | omega | ((try simp only [go_sem, hgg, hat, List.length_append, lim, lim2]) <;> omega) | assumption | exact ints_1 _ | exact rfl | (simp [ints]; done), ?_⟩)); (first | refine hN _ ?_ | (intro _ _; refine hN _ ?_)); clear hN N) | with_reducible (first | apply Ea | apply Eb | apply Ec | apply Ed | apply Ee | apply Ef | apply Eg | apply Eh | apply Ei | apply Ej | apply Ek | apply El | apply Em | refine En rfl ?_ | apply Eo | apply Ep | apply Eq1 | apply Er | apply Es) | ((with_reducible first | refine O3 rfl rfl rfl rfl ?_ | refine O4 rfl rfl rfl ?_); simp only [go_sem, hgg, hat]))
    ((with_reducible first | refine O1 rfl (fun N hN => ?_) | refine O2 rfl rfl rfl (fun N hN => ?_)); simp only [go_sem, hgg, hat]; refine vCall.sc _ _ (hcall) ?ha19 rfl (hN _ ?hk19); (case ha19 => (first | (simp only [go_sem, hgg, hat]; done) | (simp only [go_sem, hgg, hat] <;> (first | omega | ((try simp only [go_sem, hgg, hat, List.length_append, lim, lim2]) <;> omega) | assumption | exact ints_1 _ | exact rfl | (simp [ints]; done))) | (simp [ints]; done))); clear hN N; apply Ops_eq; (simp only [go_sem, hgg, hat]; rfl))
    repeat (first | ((with_reducible first | refine O1 rfl (fun N hN => ?_) | refine O2 rfl rfl rfl (fun N hN => ?_)); simp only [go_sem, hgg, hat]; (repeat (refine ⟨by first | omega | ((try simp only [go_sem, hgg, hat, List.length_append, lim, lim2]) <;> omega) | assumption | exact ints_1 _ | exact rfl | (simp [ints]; done), ?_⟩)); (first | refine hN _ ?_ | (intro _ _; refine hN _ ?_)); clear hN N) | with_reducible (first | apply Ea | apply Eb | apply Ec | apply Ed | apply Ee | apply Ef | apply Eg | apply Eh | apply Ei | apply Ej | apply Ek | apply El | apply Em | refine En rfl ?_ | apply Eo | apply Ep | apply Eq1 | apply Er | apply Es) | ((with_reducible first | refine O3 rfl rfl rfl rfl ?_ | refine O4 rfl rfl rfl ?_); simp only [go_sem, hgg, hat]))
    refine TW_cond rfl (fun hc => ?_) (fun hc => ?_)
    · repeat (first | ((with_reducible first | refine O1 rfl (fun N hN => ?_) | refine O2 rfl rfl rfl (fun N hN => ?_)); simp only [go_sem]; (repeat (refine ⟨by first | omega | ((try simp only [go_sem, List.length_append, lim, lim2]) <;> omega) | assumption | exact ints_1 _ | exact rfl | (simp [ints]; done), ?_⟩)); (first | refine hN _ ?_ | (intro _ _; refine hN _ ?_)); clear hN N) | with_reducible (first | apply Ea | apply Eb | apply Ec | apply Ed | apply Ee | apply Ef | apply Eg | apply Eh | apply Ei | apply Ej | apply Ek | apply El | apply Em | refine En rfl ?_ | apply Eo | apply Ep | apply Eq1 | apply Er | apply Es) | ((with_reducible first | refine O3 rfl rfl rfl rfl ?_ | refine O4 rfl rfl rfl ?_); simp only [go_sem]))
      (refine ⟨by simp, ?_⟩; simp only [go_sem, Try.results121])
      rw [ixI_at hlt (fun j hj => hx j hj (by omega)) hc]
    · have hx' : ∀ j, (hj : j < i + 1) → (hj2 : j < l.length) → p l[j] = false := fun j hj hj2 => by
        by_cases hh : j < i
        · exact hx j hh hj2
        · have : j = i := by omega
          subst this; exact hc
      repeat (first | ((with_reducible first | refine O1 rfl (fun N hN => ?_) | refine O2 rfl rfl rfl (fun N hN => ?_)); simp only [go_sem, hw]; (repeat (refine ⟨by first | omega | ((try simp only [go_sem, hw, List.length_append, lim, lim2]) <;> omega) | assumption | exact ints_1 _ | exact rfl | (simp [ints]; done), ?_⟩)); (first | refine hN _ ?_ | (intro _ _; refine hN _ ?_)); clear hN N) | with_reducible (first | apply Ea | apply Eb | apply Ec | apply Ed | apply Ee | apply Ef | apply Eg | apply Eh | apply Ei | apply Ej | apply Ek | apply El | apply Em | refine En rfl ?_ | apply Eo | apply Ep | apply Eq1 | apply Er | apply Es) | ((with_reducible first | refine O3 rfl rfl rfl rfl ?_ | refine O4 rfl rfl rfl ?_); simp only [go_sem, hw]))
      exact ⟨_, _, by omega, ⟨i + 1, by omega, hx', rfl, rfl⟩, Sub_blank [false, false, true, true, true, true, true, false, false, true, true, true, true, true, true, true, true, true, true]⟩
  · repeat (first | ((with_reducible first | refine O1 rfl (fun N hN => ?_) | refine O2 rfl rfl rfl (fun N hN => ?_)); simp only [go_sem]; (repeat (refine ⟨by first | omega | ((try simp only [go_sem, List.length_append, lim, lim2]) <;> omega) | assumption | exact ints_1 _ | exact rfl | (simp [ints]; done), ?_⟩)); (first | refine hN _ ?_ | (intro _ _; refine hN _ ?_)); clear hN N) | with_reducible (first | apply Ea | apply Eb | apply Ec | apply Ed | apply Ee | apply Ef | apply Eg | apply Eh | apply Ei | apply Ej | apply Ek | apply El | apply Em | refine En rfl ?_ | apply Eo | apply Ep | apply Eq1 | apply Er | apply Es) | ((with_reducible first | refine O3 rfl rfl rfl rfl ?_ | refine O4 rfl rfl rfl ?_); simp only [go_sem]))
    (refine ⟨by simp, ?_⟩; simp only [go_sem, Try.results121])
    rw [ixI_none (fun j hj => hx j (by simp at hc; omega) hj)]
theorem ixrg_spec (f : Bool) (l : List (Int × List Int)) (g : Nat) (cs : List AV) (p : (Int × List Int) → Bool) (hl : l.length ≤ 1000000) (hg : ∀ x ∈ l, Ret Try.prog g [.agg [.int .i64 x.1, .sl false (ints x.2)], .cptr cs] (.bool (p x))) : Ret Try.prog 74 [.sl f (rgs l), .fn g [.cptr cs]] (.int .i64 (ixI p l)) := by
  have hrr := rgs_2 l
  refine Ret_of_body Try.func74 (by kernel_rfl) rfl ?_; rw [Try.ntmps74]
  repeat (first | ((with_reducible first | refine O1 rfl (fun N hN => ?_) | refine O2 rfl rfl rfl (fun N hN => ?_)); simp only [go_sem]; (repeat (refine ⟨by first | omega | ((try simp only [go_sem, List.length_append, lim, lim2]) <;> omega) | assumption | exact ints_1 _ | exact rfl | (simp [ints]; done), ?_⟩)); (first | refine hN _ ?_ | (intro _ _; refine hN _ ?_)); clear hN N) | with_reducible (first | apply Ea | apply Eb | apply Ec | apply Ed | apply Ee | apply Ef | apply Eg | apply Eh | apply Ei | apply Ej | apply Ek | apply El | apply Em | refine En rfl ?_ | apply Eo | apply Ep | apply Eq1 | apply Er | apply Es) | ((with_reducible first | refine O3 rfl rfl rfl rfl ?_ | refine O4 rfl rfl rfl ?_); simp only [go_sem]))
  refine TW_sub (Sub_blank [false, false, true, true, true, true, true, false, false, true, true, true, true, true, true, true, true, true, true]) ?_
  refine TW_loop (fun fuel st => ∃ (i : Nat), (i ≤ l.length) ∧ (∀ j, (hj : j < i) → (hj2 : j < l.length) → p l[j] = false) ∧  fuel = l.length - i ∧ st = ⟨[.sl f (rgs l), .fn g [.cptr cs], .junk, .junk, .junk, .junk, .junk, .int .i64 (↑l.length : Int), .int .i64 i, .junk, .junk, .junk, .junk, .junk, .junk, .junk, .junk, .junk, .junk], [.un, .un, .un, .un, .un, .un, .un, .un, .un, .un, .un, .un, .un, .un, .un, .un, .un, .un, .un], 0⟩) (n := _) ⟨0, by first | omega | (simp; done) | (simp; omega) | assumption, by first | omega | (simp; done) | (simp; omega) | assumption, rfl, rfl⟩ ?_
  rintro fuel st ⟨i, hi, hx, rfl, rfl⟩
  repeat (first | ((with_reducible first | refine O1 rfl (fun N hN => ?_) | refine O2 rfl rfl rfl (fun N hN => ?_)); simp only [go_sem]; (repeat (refine ⟨by first | omega | ((try simp only [go_sem, List.length_append, lim, lim2]) <;> omega) | assumption | exact ints_1 _ | exact rfl | (simp [ints]; done), ?_⟩)); (first | refine hN _ ?_ | (intro _ _; refine hN _ ?_)); clear hN N) | with_reducible (first | apply Ea | apply Eb | apply Ec | apply Ed | apply Ee | apply Ef | apply Eg | apply Eh | apply Ei | apply Ej | apply Ek | apply El | apply Em | refine En rfl ?_ | apply Eo | apply Ep | apply Eq1 | apply Er | apply Es) | ((with_reducible first | refine O3 rfl rfl rfl rfl ?_ | refine O4 rfl rfl rfl ?_); simp only [go_sem]))
  refine TW_cond rfl (fun hc => ?_) (fun hc => ?_)
  · have hlt : i < l.length := by simpa using hc
    have hgg := rgs_get l i hlt
    have hw := wrap_i64 (n := (i : Int) + 1) (by omega) (by omega)
    have hcall := hg l[i] (List.getElem_mem hlt)
    have hat := rg_at hlt
    repeat (first | ((with_reducible first | refine O1 rfl (fun N hN => ?_) | refine O2 rfl rfl rfl (fun N hN => ?_)); simp only [go_sem, hgg, hat]; (repeat (refine ⟨by first | omega | ((try simp only [go_sem, hgg, hat, List.length_append, lim, lim2]) <;> omega) | assumption | exact ints_1 _ | exact rfl | (simp [ints]; done), ?_⟩)); (first | refine hN _ ?_ | (intro _ _; refine hN _ ?_)); clear hN N) | with_reducible (first | apply Ea | apply Eb | apply Ec | apply Ed | apply Ee | apply Ef | apply Eg | apply Eh | apply Ei | apply Ej | apply Ek | apply El | apply Em | refine En rfl ?_ | apply Eo | apply Ep | apply Eq1 | apply Er | apply Es) | ((with_reducible first | refine O3 rfl rfl rfl rfl ?_ | refine O4 rfl rfl rfl ?_); simp only [go_sem, hgg, hat]))
    ((with_reducible first | refine O1 rfl (fun N hN => ?_) | refine O2 rfl rfl rfl (fun N hN => ?_)); simp only [go_sem, hgg, hat]; refine vCall.sc _ _ (hcall) ?ha20 rfl (hN _ ?hk20); (case ha20 => (first | (simp only [go_sem, hgg, hat]; done) | (simp only [go_sem, hgg, hat] <;> (first | omega | ((try simp only [go_sem, hgg, hat, List.length_append, lim, lim2]) <;> omega) | assumption | exact ints_1 _ | exact rfl | (simp [ints]; done))) | (simp [ints]; done))); clear hN N; apply Ops_eq; (simp only [go_sem, hgg, hat]; rfl))
    repeat (first | ((with_reducible first | refine O1 rfl (fun N hN => ?_) | refine O2 rfl rfl rfl (fun N hN => ?_)); simp only [go_sem, hgg, hat]; (repeat (refine ⟨by first | omega | ((try simp only [go_sem, hgg, hat, List.length_append, lim, lim2]) <;> omega) | assumption | exact ints_1 _ | exact rfl | (simp [ints]; done), ?_⟩)); (first | refine hN _ ?_ | (intro _ _; refine hN _ ?_)); clear hN N) | with_reducible (first | apply Ea | apply Eb | apply Ec | apply Ed | apply Ee | apply Ef | apply Eg | apply Eh | apply Ei | apply Ej | apply Ek | apply El | apply Em | refine En rfl ?_ | apply Eo | apply Ep | apply Eq1 | apply Er | apply Es) | ((with_reducible first | refine O3 rfl rfl rfl rfl ?_ | refine O4 rfl rfl rfl ?_); simp only [go_sem, hgg, hat]))
    refine TW_cond rfl (fun hc => ?_) (fun hc => ?_)
    · repeat (first | ((with_reducible first | refine O1 rfl (fun N hN => ?_) | refine O2 rfl rfl rfl (fun N hN => ?_)); simp only [go_sem]; (repeat (refine ⟨by first | omega | ((try simp only [go_sem, List.length_append, lim, lim2]) <;> omega) | assumption | exact ints_1 _ | exact rfl | (simp [ints]; done), ?_⟩)); (first | refine hN _ ?_ | (intro _ _; refine hN _ ?_)); clear hN N) | with_reducible (first | apply Ea | apply Eb | apply Ec | apply Ed | apply Ee | apply Ef | apply Eg | apply Eh | apply Ei | apply Ej | apply Ek | apply El | apply Em | refine En rfl ?_ | apply Eo | apply Ep | apply Eq1 | apply Er | apply Es) | ((with_reducible first | refine O3 rfl rfl rfl rfl ?_ | refine O4 rfl rfl rfl ?_); simp only [go_sem]))
      (refine ⟨by simp, ?_⟩; simp only [go_sem, Try.results74])
      rw [ixI_at hlt (fun j hj => hx j hj (by omega)) hc]
    · have hx' : ∀ j, (hj : j < i + 1) → (hj2 : j < l.length) → p l[j] = false := fun j hj hj2 => by
        by_cases hh : j < i
        · exact hx j hh hj2
        · have : j = i := by omega
          subst this; exact hc
      repeat (first | ((with_reducible first | refine O1 rfl (fun N hN => ?_) | refine O2 rfl rfl rfl (fun N hN => ?_)); simp only [go_sem, hw]; (repeat (refine ⟨by first | omega | ((try simp only [go_sem, hw, List.length_append, lim, lim2]) <;> omega) | assumption | exact ints_1 _ | exact rfl | (simp [ints]; done), ?_⟩)); (first | refine hN _ ?_ | (intro _ _; refine hN _ ?_)); clear hN N) | with_reducible (first | apply Ea | apply Eb | apply Ec | apply Ed | apply Ee | apply Ef | apply Eg | apply Eh | apply Ei | apply Ej | apply Ek | apply El | apply Em | refine En rfl ?_ | apply Eo | apply Ep | apply Eq1 | apply Er | apply Es) | ((with_reducible first | refine O3 rfl rfl rfl rfl ?_ | refine O4 rfl rfl rfl ?_); simp only [go_sem, hw]))
      exact ⟨_, _, by omega, ⟨i + 1, by omega, hx', rfl, rfl⟩, Sub_blank [false, false, true, true, true, true, true, false, false, true, true, true, true, true, true, true, true, true, true]⟩
  · repeat (first | ((with_reducible first | refine O1 rfl (fun N hN => ?_) | refine O2 rfl rfl rfl (fun N hN => ?_)); simp only [go_sem]; (repeat (refine ⟨by first | omega | ((try simp only [go_sem, List.length_append, lim, lim2]) <;> omega) | assumption | exact ints_1 _ | exact rfl | (simp [ints]; done), ?_⟩)); (first | refine hN _ ?_ | (intro _ _; refine hN _ ?_)); clear hN N) | with_reducible (first | apply Ea | apply Eb | apply Ec | apply Ed | apply Ee | apply Ef | apply Eg | apply Eh | apply Ei | apply Ej | apply Ek | apply El | apply Em | refine En rfl ?_ | apply Eo | apply Ep | apply Eq1 | apply Er | apply Es) | ((with_reducible first | refine O3 rfl rfl rfl rfl ?_ | refine O4 rfl rfl rfl ?_); simp only [go_sem]))
    (refine ⟨by simp, ?_⟩; simp only [go_sem, Try.results74])
    rw [ixI_none (fun j hj => hx j (by simp at hc; omega) hj)]
theorem ixrw_spec (f : Bool) (l : List (List Int)) (g : Nat) (cs : List AV) (p : (List Int) → Bool) (hl : l.length ≤ 1000000) (hg : ∀ x ∈ l, Ret Try.prog g [.sl false (ints x), .cptr cs] (.bool (p x))) : Ret Try.prog 75 [.sl f (rws l), .fn g [.cptr cs]] (.int .i64 (ixI p l)) := by
  have hrr := rws_1 l
  refine Ret_of_body Try.func75 (by kernel_rfl) rfl ?_; rw [Try.ntmps75]
  repeat (first | ((with_reducible first | refine O1 rfl (fun N hN => ?_) | refine O2 rfl rfl rfl (fun N hN => ?_)); simp only [go_sem]; (repeat (refine ⟨by first | omega | ((try simp only [go_sem, List.length_append, lim, lim2]) <;> omega) | assumption | exact ints_1 _ | exact rfl | (simp [ints]; done), ?_⟩)); (first | refine hN _ ?_ | (intro _ _; refine hN _ ?_)); clear hN N) | with_reducible (first | apply Ea | apply Eb | apply Ec | apply Ed | apply Ee | apply Ef | apply Eg | apply Eh | apply Ei | apply Ej | apply Ek | apply El | apply Em | refine En rfl ?_ | apply Eo | apply Ep | apply Eq1 | apply Er | apply Es) | ((with_reducible first | refine O3 rfl rfl rfl rfl ?_ | refine O4 rfl rfl rfl ?_); simp only [go_sem]))
  refine TW_sub (Sub_blank [false, false, true, true, true, true, true, false, false, true, true, true, true, true, true, true, true, true, true]) ?_
  refine TW_loop (fun fuel st => ∃ (i : Nat), (i ≤ l.length) ∧ (∀ j, (hj : j < i) → (hj2 : j < l.length) → p l[j] = false) ∧  fuel = l.length - i ∧ st = ⟨[.sl f (rws l), .fn g [.cptr cs], .junk, .junk, .junk, .junk, .junk, .int .i64 (↑l.length : Int), .int .i64 i, .junk, .junk, .junk, .junk, .junk, .junk, .junk, .junk, .junk, .junk], [.un, .un, .un, .un, .un, .un, .un, .un, .un, .un, .un, .un, .un, .un, .un, .un, .un, .un, .un], 0⟩) (n := _) ⟨0, by first | omega | (simp; done) | (simp; omega) | assumption, by first | omega | (simp; done) | (simp; omega) | assumption, rfl, rfl⟩ ?_
  rintro fuel st ⟨i, hi, hx, rfl, rfl⟩
  repeat (first | ((with_reducible first | refine O1 rfl (fun N hN => ?_) | refine O2 rfl rfl rfl (fun N hN => ?_)); simp only [go_sem]; (repeat (refine ⟨by first | omega | ((try simp only [go_sem, List.length_append, lim, lim2]) <;> omega) | assumption | exact ints_1 _ | exact rfl | (simp [ints]; done), ?_⟩)); (first | refine hN _ ?_ | (intro _ _; refine hN _ ?_)); clear hN N) | with_reducible (first | apply Ea | apply Eb | apply Ec | apply Ed | apply Ee | apply Ef | apply Eg | apply Eh | apply Ei | apply Ej | apply Ek | apply El | apply Em | refine En rfl ?_ | apply Eo | apply Ep | apply Eq1 | apply Er | apply Es) | ((with_reducible first | refine O3 rfl rfl rfl rfl ?_ | refine O4 rfl rfl rfl ?_); simp only [go_sem]))
  refine TW_cond rfl (fun hc => ?_) (fun hc => ?_)
  · have hlt : i < l.length := by simpa using hc
    have hgg := rws_get l i hlt
    have hw := wrap_i64 (n := (i : Int) + 1) (by omega) (by omega)
    have hcall := hg l[i] (List.getElem_mem hlt)
    have hat := rw_at hlt
    repeat (first | ((with_reducible first | refine O1 rfl (fun N hN => ?_) | refine O2 rfl rfl rfl (fun N hN => ?_)); simp only [go_sem, hgg, hat]; (repeat (refine ⟨by first | omega | ((try simp only [go_sem, hgg, hat, List.length_append, lim, lim2]) <;> omega) | assumption | exact ints_1 _ | exact rfl | (simp [ints]; done), ?_⟩)); (first | refine hN _ ?_ | (intro _ _; refine hN _ ?_)); clear hN N) | with_reducible (first | apply Ea | apply Eb | apply Ec | apply Ed | apply Ee | apply Ef | apply Eg | apply Eh | apply Ei | apply Ej | apply Ek | apply El | apply Em | refine En rfl ?_ | apply Eo | apply Ep | apply Eq1 | apply Er | apply Es) | ((with_reducible first | refine O3 rfl rfl rfl rfl ?_ | refine O4 rfl rfl rfl ?_); simp only [go_sem, hgg, hat]))
    ((with_reducible first | refine O1 rfl (fun N hN => ?_) | refine O2 rfl rfl rfl (fun N hN => ?_)); simp only [go_sem, hgg, hat]; refine vCall.sc _ _ (hcall) ?ha21 rfl (hN _ ?hk21); (case ha21 => (first | (simp only [go_sem, hgg, hat]; done) | (simp only [go_sem, hgg, hat] <;> (first | omega | ((try simp only [go_sem, hgg, hat, List.length_append, lim, lim2]) <;> omega) | assumption | exact ints_1 _ | exact rfl | (simp [ints]; done))) | (simp [ints]; done))); clear hN N; apply Ops_eq; (simp only [go_sem, hgg, hat]; rfl))
    repeat (first | ((with_reducible first | refine O1 rfl (fun N hN => ?_) | refine O2 rfl rfl rfl (fun N hN => ?_)); simp only [go_sem, hgg, hat]; (repeat (refine ⟨by first | omega | ((try simp only [go_sem, hgg, hat, List.length_append, lim, lim2]) <;> omega) | assumption | exact ints_1 _ | exact rfl | (simp [ints]; done), ?_⟩)); (first | refine hN _ ?_ | (intro _ _; refine hN _ ?_)); clear hN N) | with_reducible (first | apply Ea | apply Eb | apply Ec | apply Ed | apply Ee | apply Ef | apply Eg | apply Eh | apply Ei | apply Ej | apply Ek | apply El | apply Em | refine En rfl ?_ | apply Eo | apply Ep | apply Eq1 | apply Er | apply Es) | ((with_reducible first | refine O3 rfl rfl rfl rfl ?_ | refine O4 rfl rfl rfl ?_); simp only [go_sem, hgg, hat]))
    refine TW_cond rfl (fun hc => ?_) (fun hc => ?_)
    · repeat (first | ((with_reducible first | refine O1 rfl (fun N hN => ?_) | refine O2 rfl rfl rfl (fun N hN => ?_)); simp only [go_sem]; (repeat (refine ⟨by first | omega | ((try simp only [go_sem, List.length_append, lim, lim2]) <;> omega) | assumption | exact ints_1 _ | exact rfl | (simp [ints]; done), ?_⟩)); (first | refine hN _ ?_ | (intro _ _; refine hN _ ?_)); clear hN N) | with_reducible (first | apply Ea | apply Eb | apply Ec | apply Ed | apply Ee | apply Ef | apply Eg | apply Eh | apply Ei | apply Ej | apply Ek | apply El | apply Em | refine En rfl ?_ | apply Eo | apply Ep | apply Eq1 | apply Er | apply Es) | ((with_reducible first | refine O3 rfl rfl rfl rfl ?_ | refine O4 rfl rfl rfl ?_); simp only [go_sem]))
      (refine ⟨by simp, ?_⟩; simp only [go_sem, Try.results75])
      rw [ixI_at hlt (fun j hj => hx j hj (by omega)) hc]
    · have hx' : ∀ j, (hj : j < i + 1) → (hj2 : j < l.length) → p l[j] = false := fun j hj hj2 => by
        by_cases hh : j < i
        · exact hx j hh hj2
        · have : j = i := by omega
          subst this; exact hc
      repeat (first | ((with_reducible first | refine O1 rfl (fun N hN => ?_) | refine O2 rfl rfl rfl (fun N hN => ?_)); simp only [go_sem, hw]; (repeat (refine ⟨by first | omega | ((try simp only [go_sem, hw, List.length_append, lim, lim2]) <;> omega) | assumption | exact ints_1 _ | exact rfl | (simp [ints]; done), ?_⟩)); (first | refine hN _ ?_ | (intro _ _; refine hN _ ?_)); clear hN N) | with_reducible (first | apply Ea | apply Eb | apply Ec | apply Ed | apply Ee | apply Ef | apply Eg | apply Eh | apply Ei | apply Ej | apply Ek | apply El | apply Em | refine En rfl ?_ | apply Eo | apply Ep | apply Eq1 | apply Er | apply Es) | ((with_reducible first | refine O3 rfl rfl rfl rfl ?_ | refine O4 rfl rfl rfl ?_); simp only [go_sem, hw]))
      exact ⟨_, _, by omega, ⟨i + 1, by omega, hx', rfl, rfl⟩, Sub_blank [false, false, true, true, true, true, true, false, false, true, true, true, true, true, true, true, true, true, true]⟩
  · repeat (first | ((with_reducible first | refine O1 rfl (fun N hN => ?_) | refine O2 rfl rfl rfl (fun N hN => ?_)); simp only [go_sem]; (repeat (refine ⟨by first | omega | ((try simp only [go_sem, List.length_append, lim, lim2]) <;> omega) | assumption | exact ints_1 _ | exact rfl | (simp [ints]; done), ?_⟩)); (first | refine hN _ ?_ | (intro _ _; refine hN _ ?_)); clear hN N) | with_reducible (first | apply Ea | apply Eb | apply Ec | apply Ed | apply Ee | apply Ef | apply Eg | apply Eh | apply Ei | apply Ej | apply Ek | apply El | apply Em | refine En rfl ?_ | apply Eo | apply Ep | apply Eq1 | apply Er | apply Es) | ((with_reducible first | refine O3 rfl rfl rfl rfl ?_ | refine O4 rfl rfl rfl ?_); simp only [go_sem]))
    (refine ⟨by simp, ?_⟩; simp only [go_sem, Try.results75])
    rw [ixI_none (fun j hj => hx j (by simp at hc; omega) hj)]
theorem cf_spec (f : Bool) (l : List Int) (g : Nat) (cs : List AV) (p : Int → Bool) (hl : l.length ≤ 1000000) (hg : ∀ x ∈ l, Ret Try.prog g [.int .i64 x, .cptr cs] (.bool (p x))) : Ret Try.prog 111 [.sl f (ints l), .fn g [.cptr cs]] (.bool (l.any p)) := by
  have ha := ixI_any p l
  refine Ret_of_body Try.func111 (by kernel_rfl) rfl ?_; rw [Try.ntmps111]
  repeat (first | ((with_reducible first | refine O1 rfl (fun N hN => ?_) | refine O2 rfl rfl rfl (fun N hN => ?_)); simp only [go_sem]; (repeat (refine ⟨by first | omega | ((try simp only [go_sem, List.length_append, lim, lim2]) <;> omega) | assumption | exact ints_1 _ | exact rfl | (simp [ints]; done), ?_⟩)); (first | refine hN _ ?_ | (intro _ _; refine hN _ ?_)); clear hN N) | with_reducible (first | apply Ea | apply Eb | apply Ec | apply Ed | apply Ee | apply Ef | apply Eg | apply Eh | apply Ei | apply Ej | apply Ek | apply El | apply Em | refine En rfl ?_ | apply Eo | apply Ep | apply Eq1 | apply Er | apply Es) | ((with_reducible first | refine O3 rfl rfl rfl rfl ?_ | refine O4 rfl rfl rfl ?_); simp only [go_sem]))
  ((with_reducible first | refine O1 rfl (fun N hN => ?_) | refine O2 rfl rfl rfl (fun N hN => ?_)); simp only [go_sem]; refine vCall.sc _ _ (ixint_spec f l g cs p hl hg) ?ha22 rfl (hN _ ?hk22); (case ha22 => (first | (simp only [go_sem]; done) | (simp only [go_sem] <;> (first | omega | ((try simp only [go_sem, List.length_append, lim, lim2]) <;> omega) | assumption | exact ints_1 _ | exact rfl | (simp [ints]; done))) | (simp [ints]; done))); clear hN N; apply Ops_eq; (simp only [go_sem]; rfl))
  repeat (first | ((with_reducible first | refine O1 rfl (fun N hN => ?_) | refine O2 rfl rfl rfl (fun N hN => ?_)); simp only [go_sem, ha]; (repeat (refine ⟨by first | omega | ((try simp only [go_sem, ha, List.length_append, lim, lim2]) <;> omega) | assumption | exact ints_1 _ | exact rfl | (simp [ints]; done), ?_⟩)); (first | refine hN _ ?_ | (intro _ _; refine hN _ ?_)); clear hN N) | with_reducible (first | apply Ea | apply Eb | apply Ec | apply Ed | apply Ee | apply Ef | apply Eg | apply Eh | apply Ei | apply Ej | apply Ek | apply El | apply Em | refine En rfl ?_ | apply Eo | apply Ep | apply Eq1 | apply Er | apply Es) | ((with_reducible first | refine O3 rfl rfl rfl rfl ?_ | refine O4 rfl rfl rfl ?_); simp only [go_sem, ha]))
  (refine ⟨by simp, ?_⟩; simp only [go_sem, Try.results111])

end Go.Proofs.YtmnpiofabgfcmaaT
