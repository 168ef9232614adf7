/- Walks over the program's functions, on values without memory, and what they come to. No condition. -/
import Derived.Test.YtmnpiofabgfcmaaTw20
import Derived.Test.YtmnpiofabgfcmaaBase
import Derived.Test.YtmnpiofabgfcmaaPB
import Derived.Test.YtmnpiofabgfcmaaFQE
set_option linter.unusedVariables false
set_option linter.unusedSimpArgs false
namespace Go.Proofs.YtmnpiofabgfcmaaT
open Go Go.Proofs Go.RowKit Go.Proofs.YtmnpiofabgfcmaaT.Ty
attribute [local go_sem] vOp eqv put hset ev vNew enterSt AV.solid AV.cells AV.leaf AV.pure AV.pures AV.scalar AV.scalars ofVal ofLeaf vLoad takeA vStore vBin vBuiltin elems vSlice intAt fillA fillR splice dense fills frz frzL names namesL fix frzH frzHL le leL vRes oneRes
attribute [local go_sem] c1 s1 a1 b1 z1 o1 i1 c2 s2 a2 b2 z2 o2 i2 u2 c3 s3 a3 b3 z3 o3 i3 u3 c4 s4 a4 b4 z4 o4 i4 u4 c5 s5 a5 b5 z5 o5 i5 u5 c6 s6 a6 b6 z6 o6 i6 u6 c7 s7 a7 b7 z7 o7 f7_0 f7_1 f7_2 f7_3 fo7 r7 i7 c8 s8 a8 b8 z8 o8 f8_0 f8_1 f8_2 f8_3 fo8 r8 i8 c9 s9 a9 b9 z9 o9 i9 u9 c10 s10 a10 b10 z10 o10 i10 u10 c11 s11 a11 b11 z11 o11 i11 u11 c12 s12 a12 b12 z12 o12 i12 u12 c13 s13 a13 b13 z13 o13 f13_0 f13_1 fo13 r13 i13 c14 s14 a14 b14 z14 o14 f14_0 f14_1 fo14 r14 i14 c15 s15 a15 b15 z15 o15 i15 c16 s16 a16 b16 z16 o16 i16 c17 s17 a17 b17 z17 o17 i17 c18 s18 a18 b18 z18 o18 f18_0 fo18 r18 i18 c19 s19 a19 b19 z19 o19 f19_0 fo19 r19 i19 c21 s21 a21 b21 z21 o21 i21 u21 c22 s22 a22 b22 z22 o22 e22 i22 c23 s23 a23 b23 z23 o23 i23 c24 s24 a24 b24 z24 o24 e24 i24 c25 s25 a25 b25 z25 o25 e25 i25 c26 s26 a26 b26 z26 o26 i26 u26 c27 s27 a27 b27 z27 o27 i27 u27 c28 s28 a28 b28 z28 o28 f28_0 f28_1 f28_2 f28_3 f28_4 fo28 r28 i28 c29 s29 a29 b29 z29 o29 f29_0 f29_1 f29_2 f29_3 f29_4 fo29 r29 i29 c30 s30 a30 b30 z30 o30 i30 u30 c32 s32 a32 b32 z32 o32 i32 c33 s33 a33 b33 z33 o33 e33 i33 c34 s34 a34 b34 z34 o34 f34_0 f34_1 f34_2 f34_3 f34_4 fo34 r34 i34 c35 s35 a35 b35 z35 o35 f35_0 f35_1 f35_2 f35_3 f35_4 fo35 r35 i35 c37 s37 a37 b37 z37 o37 i37 c38 s38 a38 b38 z38 o38 i38 c39 s39 a39 b39 z39 o39 i39 c40 s40 a40 b40 z40 o40 i40 c41 s41 a41 b41 z41 o41 e41 i41 c42 s42 a42 b42 z42 o42 i42 c43 s43 a43 b43 z43 o43 i43 c44 s44 a44 b44 z44 o44 i44 c45 s45 a45 b45 z45 o45 f45_0 f45_1 fo45 r45 i45 c46 s46 a46 b46 z46 o46 f46_0 f46_1 fo46 r46 i46 c48 s48 a48 b48 z48 o48 i48 c49 s49 a49 b49 z49 o49 i49 c50 s50 a50 b50 z50 o50 i50 c51 s51 a51 b51 z51 o51 i51 c52 s52 a52 b52 z52 o52 i52 c53 s53 a53 b53 z53 o53 i53 c54 s54 a54 b54 z54 o54 i54 c55 s55 a55 b55 z55 o55 i55 c56 s56 a56 b56 z56 o56 i56 c57 s57 a57 b57 z57 o57 i57 c59 s59 a59 b59 z59 o59 i59 c61 s61 a61 b61 z61 o61 i61 c62 s62 a62 b62 z62 o62 i62 c63 s63 a63 b63 z63 o63 i63 c64 s64 a64 b64 z64 o64 i64 u64 c65 s65 a65 b65 z65 o65 i65 c67 s67 a67 b67 z67 o67 i67 c68 s68 a68 b68 z68 o68 i68 c69 s69 a69 b69 z69 o69 i69 c70 s70 a70 b70 z70 o70 i70 c71 s71 a71 b71 z71 o71 i71 c72 s72 a72 b72 z72 o72 f72_0 f72_1 q72 fo72 r72 i72 c73 s73 a73 b73 z73 o73 f73_0 f73_1 q73 fo73 r73 i73 c74 s74 a74 b74 z74 o74 i74 c75 s75 a75 b75 z75 o75 i75 c76 s76 a76 b76 z76 o76 i76 c77 s77 a77 b77 z77 o77 i77 c78 s78 a78 b78 z78 o78 i78 c79 s79 a79 b79 z79 o79 i79 c80 s80 a80 b80 z80 o80 f80_0 f80_1 fo80 r80 i80 c81 s81 a81 b81 z81 o81 i81 c82 s82 a82 b82 z82 o82 i82 c83 s83 a83 b83 z83 o83 i83 c84 s84 a84 b84 z84 o84 i84 c85 s85 a85 b85 z85 o85 i85 c87 s87 a87 b87 z87 o87 i87 c88 s88 a88 b88 z88 o88 i88 c89 s89 a89 b89 z89 o89 i89 c90 s90 a90 b90 z90 o90 i90 c91 s91 a91 b91 z91 o91 i91 c92 s92 a92 b92 z92 o92 i92 c93 s93 a93 b93 z93 o93 i93 c94 s94 a94 b94 z94 o94 i94 c95 s95 a95 b95 z95 o95 i95 c97 s97 a97 b97 z97 o97 i97 c98 s98 a98 b98 z98 o98 i98 c99 s99 a99 b99 z99 o99 i99 c100 s100 a100 b100 z100 o100 f100_0 f100_1 fo100 r100 i100 c101 s101 a101 b101 z101 o101 f101_0 f101_1 fo101 r101 i101 c102 s102 a102 b102 z102 o102 i102 c103 s103 a103 b103 z103 o103 i103 c104 s104 a104 b104 z104 o104 i104 c105 s105 a105 b105 z105 o105 i105 c106 s106 a106 b106 z106 o106 i106 c107 s107 a107 b107 z107 o107 e107 i107 c108 s108 a108 b108 z108 o108 i108 c109 s109 a109 b109 z109 o109 i109 c110 s110 a110 b110 z110 o110 i110 c111 s111 a111 b111 z111 o111 i111 c112 s112 a112 b112 z112 o112 i112 c113 s113 a113 b113 z113 o113 i113 c114 s114 a114 b114 z114 o114 i114 c115 s115 a115 b115 z115 o115 i115 c116 s116 a116 b116 z116 o116 i116 c117 s117 a117 b117 z117 o117 i117 c118 s118 a118 b118 z118 o118 i118 c119 s119 a119 b119 z119 o119 f119_0 f119_1 f119_2 f119_3 fo119 r119 i119 c120 s120 a120 b120 z120 o120 f120_0 f120_1 f120_2 f120_3 fo120 r120 i120 c121 s121 a121 b121 z121 o121 i121 c122 s122 a122 b122 z122 o122 e122 i122 c124 s124 a124 b124 z124 o124 i124 c125 s125 a125 b125 z125 o125 i125 c126 s126 a126 b126 z126 o126 i126 c127 s127 a127 b127 z127 o127 f127_0 f127_1 f127_2 f127_3 fo127 r127 i127 c128 s128 a128 b128 z128 o128 f128_0 f128_1 f128_2 f128_3 fo128 r128 i128 c132 s132 a132 b132 z132 o132 i132 u132 c133 s133 a133 b133 z133 o133 i133 u133 c134 s134 a134 b134 z134 o134 i134 u134 c135 s135 a135 b135 z135 o135 i135 c136 s136 a136 b136 z136 o136 i136 c137 s137 a137 b137 z137 o137 i137 u137 c138 s138 a138 b138 z138 o138 i138 u138 c139 s139 a139 b139 z139 o139 f139_0 f139_1 f139_2 f139_3 f139_4 f139_5 f139_6 f139_7 f139_8 f139_9 f139_10 fo139 r139 i139 c140 s140 a140 b140 z140 o140 f140_0 f140_1 f140_2 f140_3 f140_4 f140_5 f140_6 f140_7 f140_8 f140_9 f140_10 fo140 r140 i140
attribute [local go_sem] List.replicate List.length_cons List.length_nil Nat.reduceAdd Nat.reduceSub List.cons_append List.nil_append List.append_nil List.set_cons_succ List.set_cons_zero List.getD_cons_succ List.getD_cons_zero Nat.zero_add List.getElem?_cons_succ List.getElem?_cons_zero List.foldl_cons List.foldl_nil Option.map_some Option.map_none List.drop_succ_cons List.drop_zero List.take_succ_cons List.take_zero List.map_cons List.map_nil List.all_cons List.all_nil  Bool.and_true Bool.true_and imp_self Nat.add_zero beq_self_eq_true Option.isSome_some true_and and_true if_true if_false ints_len
set_option linter.unusedSimpArgs false
set_option maxRecDepth 100000
set_option maxHeartbeats 4000000
attribute [local go_sem] ints_nil ints_take ints_drop ints_cat ints_snoc ints_cons List.length_take List.length_drop List.drop_zero decide_true decide_false List.getElem?_toArray Option.bind_some Bool.false_eq_true Bool.true_eq_false Bool.not_true Bool.not_false Int.toNat_natCast Int.cast_ofNat_Int forget swap grow growIn opt_or opt_orn opt_and beq_true beq_false rdAll rdOp rdTmp agree Option.getD_some Option.getD_none List.flatten_cons List.flatten_nil ownCut mp mpL mpO vl vlL matchH freshH setAll nodupB enterH List.contains_cons List.contains_nil Nat.reduceMul Nat.reduceLT Nat.reduceLeDiff Nat.reduceEqDiff
attribute [local go_sem] vts_len vts_take vts_drop vts_cat vts_snoc rgs_len rws_len rgs_snoc rws_snoc rgs_cat rws_cat rgs_set rws_set rgs_take rws_take rgs_drop rws_drop rgs_nil rws_nil vts_nil runC
open BC
theorem mayN_tree {r : Rn} (h : mayN r = true) : Tree r.t ∧ 2 ≤ r.size ∧ r.size ≤ 16 ∧ r.rs.length = (levL r.t 3).length ∧ r.sh.length = (levL r.t 1).length ∧ r.on ≠ 0 ∧ (∀ x ∈ all r.on, x < (r.rs.length : Int)) ∧ (∀ i < r.rs.length, ringB r i = true) ∧ mayB (allN r) = true := by
 unfold mayN at h
 rw [Bool.and_eq_true, Bool.and_eq_true] at h
 obtain ⟨⟨h1, h2⟩, h3⟩ := h
 simp only [wholeB, Bool.and_eq_true, decide_eq_true_eq, Bool.not_eq_true', List.any_eq_false] at h1
 obtain ⟨⟨⟨⟨⟨⟨a, b⟩, c⟩, d⟩, e⟩, f⟩, g⟩ := h1
 refine ⟨(chk_iff _).1 a, b, c, d, e, f, fun x hx => ?_, fun i hi => List.all_eq_true.1 h2 i (List.mem_range.2 hi), h3⟩
 have := g x hx
 rw [d]; omega
theorem node_in {t : List (Int × Int)} (h : Tree t) {k : Nat} (hk : k < (levL t 3).length) : ∃ n : Nat, nodeI t k = n ∧ n < (levL t 1).length := by
 have hmem : (levL t 3).getD k 0 ∈ levL t 3 := by rw [getD_at hk]; exact List.getElem_mem hk
 obtain ⟨q, hq, hql, hqv⟩ := lev_mem.1 hmem
 have hq0 : 0 < q := by
  rcases Nat.eq_zero_or_pos q with e | e
  ·subst e; rw [h.root.2] at hqv; cases hqv
  ·exact e
 obtain ⟨a1, a2, a3⟩ := h.up q hq0 hql
 obtain ⟨c, hc⟩ : ∃ c : Nat, par t q = c := ⟨(par t q).toNat, by omega⟩
 rw [hc] at a1 a2 a3
 rw [Int.toNat_natCast] at a3
 have hc0 : 0 < c := by
  rcases Nat.eq_zero_or_pos c with e | e
  ·subst e; rw [h.root.2] at a3; omega
  ·exact e
 obtain ⟨b1, b2, b3⟩ := h.up c hc0 (by omega)
 obtain ⟨v, hv⟩ : ∃ v : Nat, par t c = v := ⟨(par t c).toNat, by omega⟩
 rw [hv] at b1 b2 b3
 rw [Int.toNat_natCast] at b3
 have hup : upI t 1 q = v := by
  rw [upI_step, if_pos (by omega), Int.toNat_natCast, if_neg (by omega), if_neg (by omega), hc, upI_step, if_pos (by omega), Int.toNat_natCast, if_neg (by omega), if_neg (by omega), hv, upI_step, if_pos (by omega), Int.toNat_natCast, if_pos (by omega)]
 have hvm : (v : Int) ∈ levL t 1 := lev_mem.2 ⟨v, rfl, by omega, by omega⟩
 refine ⟨(levL t 1).idxOf (v : Int), ?_, List.idxOf_lt_length_iff.2 hvm⟩
 unfold nodeI
 rw [if_pos ⟨(chk_iff t).2 h, by omega, by omega⟩, Int.toNat_natCast, hq, hup, if_pos (by simpa using hvm)]
theorem mayB_iff (l : List Int) : mayB l = true ↔ (∀ x ∈ l, 0 < x) ∧ l.Nodup := by
 unfold mayB mayG
 rw [List.all_eq_true]
 simp only [List.mem_range, Bool.and_eq_true, decide_eq_true_eq, Bool.not_eq_true']
 constructor
 ·intro h
  refine ⟨fun x hx => ?_, List.pairwise_iff_getElem.2 fun i j hi hj hij e => ?_⟩
  ·obtain ⟨i, hi, rfl⟩ := List.mem_iff_getElem.1 hx
   rw [← getD_at hi]; exact (h i hi).1
  ·have h1 := (h j hj).2
   rw [getD_at hj, ← e, List.contains_eq_mem, decide_eq_false_iff_not] at h1
   exact h1 (List.mem_take_iff_getElem.2 ⟨i, by omega, rfl⟩)
 ·rintro ⟨h1, h2⟩ i hi
  rw [getD_at hi]
  refine ⟨h1 _ (List.getElem_mem hi), ?_⟩
  rw [List.contains_eq_mem, decide_eq_false_iff_not]
  intro e
  obtain ⟨j, hj, e⟩ := List.mem_take_iff_getElem.1 e
  exact List.pairwise_iff_getElem.1 h2 j i (by omega) hi (by omega) e
theorem mayB_perm {l m : List Int} (p : l.Perm m) (h : mayB l = true) : mayB m = true := by
 rw [mayB_iff] at h ⊢
 exact ⟨fun x hx => h.1 x (p.mem_iff.2 hx), p.nodup_iff.1 h.2⟩
theorem mayB_sub {l m : List Int} (p : l.Sublist m) (h : mayB m = true) : mayB l = true := by
 rw [mayB_iff] at h ⊢
 exact ⟨fun x hx => h.1 x (p.subset hx), h.2.sublist p⟩
theorem set_count {α : Type} (f : α → List Int) (a : Int) : ∀ (l : List α) (k : Nat) (x : α) (h : k < l.length), (((l.set k x).map f).flatten).count a + (f l[k]).count a = ((l.map f).flatten).count a + (f x).count a
 | y :: l, 0, x, _ => by simp [List.count_append]; omega
 | y :: l, k + 1, x, h => by
  have := set_count f a l k x (by simpa using h)
  simp [List.count_append] at this ⊢; omega
theorem flatR_def (l : List (Int × List Int)) : flatR l = (l.map fun x => allR x.1 x.2).flatten := rfl
theorem ring_sub {r : Rn} {i : Nat} (hi : i < r.rs.length) : (allR (rg r.rs i).1 (rg r.rs i).2).Sublist (allN r) := by
 unfold allN flatR
 refine List.Sublist.trans (List.sublist_flatten_of_mem ?_) (List.sublist_append_left _ _)
 rw [rg_at hi]
 exact List.mem_map.2 ⟨_, List.getElem_mem hi, rfl⟩
theorem rg_set {l : List (Int × List Int)} {k i : Nat} {x : Int × List Int} (hi : i < l.length) : rg (l.set k x) i = if k = i then x else rg l i := by
 rw [rg_at (by simpa using hi), List.getElem_set]; split
 ·rfl
 ·rw [rg_at hi]
theorem small_few {r : Rn} (h : fewB r = true) (ho : r.on < 18446744073709551616) : Small r := by
 obtain ⟨a, b, c, d, e⟩ := (fewB_iff r).1 h
 exact ⟨by omega, by omega, by omega, fun x hx => by have := d x hx; omega, fun x hx => by have := e x hx; omega, ho⟩

end Go.Proofs.YtmnpiofabgfcmaaT
