/- Walks over the program's functions, on values without memory, and what they come to. No condition. -/
import Derived.Test.YtmdnohhjeooahaaXB
set_option linter.unusedVariables false
set_option linter.unusedSimpArgs false
namespace Go.Proofs.YtmdnohhjeooahaaT
open Go Go.Proofs Go.RowKit Go.Proofs.YtmdnohhjeooahaaT.Ty
attribute [local go_sem] vOp eqv put hset ev vNew enterSt AV.solid AV.cells AV.leaf AV.pure AV.pures AV.scalar AV.scalars ofVal ofLeaf vLoad takeA vStore vBin vBuiltin elems vSlice intAt fillA fillR splice dense fills frz frzL names namesL fix frzH frzHL le leL vRes oneRes
attribute [local go_sem] c1 s1 a1 b1 z1 o1 i1 c2 s2 a2 b2 z2 o2 i2 u2 c3 s3 a3 b3 z3 o3 i3 u3 c4 s4 a4 b4 z4 o4 i4 u4 c5 s5 a5 b5 z5 o5 i5 u5 c6 s6 a6 b6 z6 o6 i6 u6 c7 s7 a7 b7 z7 o7 f7_0 f7_1 f7_2 f7_3 fo7 r7 i7 c8 s8 a8 b8 z8 o8 f8_0 f8_1 f8_2 f8_3 fo8 r8 i8 c9 s9 a9 b9 z9 o9 i9 u9 c10 s10 a10 b10 z10 o10 i10 u10 c11 s11 a11 b11 z11 o11 i11 u11 c12 s12 a12 b12 z12 o12 i12 u12 c13 s13 a13 b13 z13 o13 f13_0 f13_1 fo13 r13 i13 c14 s14 a14 b14 z14 o14 f14_0 f14_1 fo14 r14 i14 c15 s15 a15 b15 z15 o15 i15 c16 s16 a16 b16 z16 o16 i16 c17 s17 a17 b17 z17 o17 i17 c18 s18 a18 b18 z18 o18 f18_0 fo18 r18 i18 c19 s19 a19 b19 z19 o19 f19_0 fo19 r19 i19 c21 s21 a21 b21 z21 o21 i21 u21 c22 s22 a22 b22 z22 o22 i22 u22 c23 s23 a23 b23 z23 o23 e23 i23 c24 s24 a24 b24 z24 o24 i24 c25 s25 a25 b25 z25 o25 i25 u25 c26 s26 a26 b26 z26 o26 i26 c27 s27 a27 b27 z27 o27 i27 c28 s28 a28 b28 z28 o28 i28 c29 s29 a29 b29 z29 o29 i29 c30 s30 a30 b30 z30 o30 i30 c31 s31 a31 b31 z31 o31 i31 c32 s32 a32 b32 z32 o32 i32 c33 s33 a33 b33 z33 o33 i33 c34 s34 a34 b34 z34 o34 i34 c35 s35 a35 b35 z35 o35 i35 c36 s36 a36 b36 z36 o36 i36 c37 s37 a37 b37 z37 o37 i37 c38 s38 a38 b38 z38 o38 e38 i38 c39 s39 a39 b39 z39 o39 i39 u39 c40 s40 a40 b40 z40 o40 i40 c41 s41 a41 b41 z41 o41 f41_0 f41_1 q41 fo41 r41 i41 c42 s42 a42 b42 z42 o42 f42_0 f42_1 q42 fo42 r42 i42 c43 s43 a43 b43 z43 o43 i43 c44 s44 a44 b44 z44 o44 i44 c45 s45 a45 b45 z45 o45 i45 c46 s46 a46 b46 z46 o46 i46 c47 s47 a47 b47 z47 o47 i47 c48 s48 a48 b48 z48 o48 i48 c49 s49 a49 b49 z49 o49 i49 c50 s50 a50 b50 z50 o50 f50_0 f50_1 f50_2 f50_3 fo50 r50 i50 c51 s51 a51 b51 z51 o51 f51_0 f51_1 f51_2 f51_3 fo51 r51 i51 c55 s55 a55 b55 z55 o55 i55 u55 c56 s56 a56 b56 z56 o56 i56 u56 c57 s57 a57 b57 z57 o57 i57 u57 c58 s58 a58 b58 z58 o58 i58 c59 s59 a59 b59 z59 o59 i59 c60 s60 a60 b60 z60 o60 i60 u60 c61 s61 a61 b61 z61 o61 i61 u61 c62 s62 a62 b62 z62 o62 f62_0 f62_1 f62_2 f62_3 f62_4 f62_5 f62_6 f62_7 f62_8 f62_9 f62_10 fo62 r62 i62 c63 s63 a63 b63 z63 o63 f63_0 f63_1 f63_2 f63_3 f63_4 f63_5 f63_6 f63_7 f63_8 f63_9 f63_10 fo63 r63 i63
attribute [local go_sem] List.replicate List.length_cons List.length_nil Nat.reduceAdd Nat.reduceSub List.cons_append List.nil_append List.append_nil List.set_cons_succ List.set_cons_zero List.getD_cons_succ List.getD_cons_zero Nat.zero_add List.getElem?_cons_succ List.getElem?_cons_zero List.foldl_cons List.foldl_nil Option.map_some Option.map_none List.drop_succ_cons List.drop_zero List.take_succ_cons List.take_zero List.map_cons List.map_nil List.all_cons List.all_nil  Bool.and_true Bool.true_and imp_self Nat.add_zero beq_self_eq_true Option.isSome_some true_and and_true if_true if_false ints_len
set_option linter.unusedSimpArgs false
set_option maxRecDepth 100000
set_option maxHeartbeats 4000000
attribute [local go_sem] ints_nil ints_take ints_drop ints_cat ints_snoc ints_cons List.length_take List.length_drop List.drop_zero decide_true decide_false List.getElem?_toArray Option.bind_some Bool.false_eq_true Bool.true_eq_false Bool.not_true Bool.not_false Int.toNat_natCast Int.cast_ofNat_Int forget swap grow growIn opt_or opt_orn opt_and beq_true beq_false rdAll rdOp rdTmp agree Option.getD_some Option.getD_none List.flatten_cons List.flatten_nil
open BC
theorem sorted_ext : ∀ (l m : List Int), l.Pairwise (· < ·) → m.Pairwise (· < ·) → (∀ x, x ∈ l ↔ x ∈ m) → l = m
  | [], [], _, _, _ => rfl
  | [], y :: m, _, _, h => by have := (h y).2 (by simp); simp at this
  | x :: l, [], _, _, h => by have := (h x).1 (by simp); simp at this
  | x :: l, y :: m, hl, hm, h => by
    rw [List.pairwise_cons] at hl hm
    have hxy : x = y := by
      have h1 := (h x).1 (by simp)
      have h2 := (h y).2 (by simp)
      simp only [List.mem_cons] at h1 h2
      rcases h1 with h1 | h1
      · exact h1
      · rcases h2 with h2 | h2
        · exact h2.symm
        · have := hl.1 y h2; have := hm.1 x h1; omega
    subst hxy
    congr 1
    refine sorted_ext l m hl.2 hm.2 fun z => ?_
    have hz := h z
    simp only [List.mem_cons] at hz
    constructor
    · intro hzl
      rcases hz.1 (.inr hzl) with e | e
      · have := hl.1 z hzl; omega
      · exact e
    · intro hzm
      rcases hz.2 (.inr hzm) with e | e
      · have := hm.1 z hzm; omega
      · exact e
theorem all_sorted (s : Nat) : (all s).Pairwise (· < ·) := by
  unfold all mem
  rw [List.pairwise_map]
  refine List.Pairwise.filter _ ?_
  refine List.Pairwise.imp ?_ (List.pairwise_lt_range)
  intro a b h; show ((a : Nat) : Int) < b; omega
theorem dropWhile_ge {p : Int → Prop} [DecidablePred p] (n : Int) (l : List Int) (hl : l.Pairwise (· < ·)) : ∀ x ∈ l.drop (l.takeWhile (fun x => decide (x < n))).length, ¬ x < n := by
  induction l with
  | nil => simp
  | cons a l ih =>
    rw [List.pairwise_cons] at hl
    by_cases h : a < n
    · rw [List.takeWhile_cons, if_pos (decide_eq_true h)]
      simpa using ih hl.2
    · rw [List.takeWhile_cons, if_neg (by simpa using h)]
      intro x hx
      simp only [List.length_nil, List.drop_zero, List.mem_cons] at hx
      rcases hx with rfl | hx
      · exact h
      · have := hl.1 x hx; omega
theorem tw_drop (p : Int → Bool) (l : List Int) : l.takeWhile p ++ l.drop (l.takeWhile p).length = l := by
  induction l with
  | nil => rfl
  | cons a l ih =>
    by_cases h : p a = true
    · rw [List.takeWhile_cons, if_pos h]; simpa using ih
    · rw [List.takeWhile_cons, if_neg h]; rfl
theorem mem_tw (p : Int → Bool) (l : List Int) : ∀ x ∈ l.takeWhile p, p x = true := by
  induction l with
  | nil => simp
  | cons a l ih =>
    by_cases h : p a = true
    · rw [List.takeWhile_cons, if_pos h]
      intro x hx
      simp only [List.mem_cons] at hx
      rcases hx with rfl | hx
      · exact h
      · exact ih x hx
    · rw [List.takeWhile_cons, if_neg h]; simp
theorem withL_mem (l : List Int) (n : Int) (x : Int) : x ∈ withL l n ↔ x ∈ l ∨ (x = n ∧ 0 ≤ n ∧ n ≤ 63) := by
  unfold withL
  split
  · rename_i h
    constructor
    · exact .inl
    · rintro (h1 | ⟨rfl, h1, h2⟩)
      · exact h1
      · rcases h with h | h | h
        · omega
        · omega
        · exact h
  · rename_i h
    rw [List.mem_append, List.mem_cons]
    have := tw_drop (fun x => decide (x < n)) l
    constructor
    · rintro (h1 | rfl | h1)
      · left; rw [← this]; exact List.mem_append_left _ h1
      · right; omega
      · left; exact List.mem_of_mem_drop h1
    · rintro (h1 | ⟨rfl, h1, h2⟩)
      · rw [← this, List.mem_append] at h1
        rcases h1 with h1 | h1
        · exact .inl h1
        · exact .inr (.inr h1)
      · exact .inr (.inl rfl)
theorem withL_sorted (l : List Int) (n : Int) (hl : l.Pairwise (· < ·)) : (withL l n).Pairwise (· < ·) := by
  unfold withL
  split
  · exact hl
  · rename_i h
    have h1 := tw_drop (fun x => decide (x < n)) l
    have h2 := dropWhile_ge (p := fun _ => True) n l hl
    have h3 := mem_tw (fun x => decide (x < n)) l
    rw [List.pairwise_append, List.pairwise_cons]
    have h4 := hl
    rw [← h1, List.pairwise_append] at h4
    refine ⟨h4.1, ⟨fun x hx => ?_, h4.2.1⟩, fun a ha b hb => ?_⟩
    · have := h2 x hx
      have hne : x ≠ n := fun e => h (.inr (.inr (e ▸ List.mem_of_mem_drop hx)))
      omega
    · have ha' := h3 a ha
      simp only [decide_eq_true_eq] at ha'
      rw [List.mem_cons] at hb
      rcases hb with rfl | hb
      · exact ha'
      · exact h4.2.2 a ha b hb
theorem all_with (s : Nat) (n : Int) : all (s ||| bitN n) = withL (all s) n := by
  refine sorted_ext _ _ (all_sorted _) (withL_sorted _ _ (all_sorted _)) fun x => ?_
  rw [withL_mem, mem_all, mem_all]
  unfold has
  rw [Nat.testBit_or, bitN_test, Bool.and_eq_true, Bool.and_eq_true, Bool.or_eq_true, decide_eq_true_eq, decide_eq_true_eq]
  constructor
  · rintro ⟨h1, h2 | h2⟩
    · exact .inl ⟨h1, h2⟩
    · exact .inr (by omega)
  · rintro (⟨h1, h2⟩ | ⟨rfl, h1, h2⟩)
    · exact ⟨h1, .inl h2⟩
    · exact ⟨by omega, .inr (by omega)⟩
theorem all_wo (s : Nat) (n : Int) (hs : s < 18446744073709551616) : all (wo s n) = (all s).filter fun x => decide (x ≠ n) := by
  refine sorted_ext _ _ (all_sorted _) ((all_sorted _).filter _) fun x => ?_
  rw [List.mem_filter, mem_all, mem_all]
  unfold has
  rw [wo_test s n _ hs, bitN_test, Bool.and_eq_true, Bool.and_eq_true, Bool.and_eq_true, decide_eq_true_eq, decide_eq_true_eq, Bool.not_eq_true', decide_eq_false_iff_not]
  constructor
  · rintro ⟨h1, h2, h3⟩; exact ⟨⟨h1, h2⟩, by omega⟩
  · rintro ⟨⟨h1, h2⟩, h3⟩; exact ⟨h1, h2, by omega⟩
theorem all_set : ∀ (l : List Int) (s : Nat), all (setOf l s) = l.foldl withL (all s)
  | [], s => rfl
  | n :: l, s => by
    show all (setOf l (s ||| bitN n)) = _
    rw [all_set l, all_with]; rfl
theorem all_len (s : Nat) : (all s).length ≤ 64 := by rw [all_length]; exact pc_le 64 s
theorem has_in (s : Nat) (n : Int) : (all s).contains n = has s n := by
  rw [Bool.eq_iff_iff, List.contains_eq_mem, decide_eq_true_eq, mem_all]

end Go.Proofs.YtmdnohhjeooahaaT
