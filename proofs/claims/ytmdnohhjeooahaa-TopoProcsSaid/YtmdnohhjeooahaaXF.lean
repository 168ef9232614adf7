/- Walks over the program's functions, on values without memory, and what they come to. No condition. -/
import Derived.Test.YtmdnohhjeooahaaXE
set_option linter.unusedVariables false
set_option linter.unusedSimpArgs false
namespace Go.Proofs.YtmdnohhjeooahaaT
open Go Go.Proofs Go.RowKit Go.Proofs.YtmdnohhjeooahaaT.Ty
attribute [local go_sem] vOp eqv put hset ev vNew enterSt AV.solid AV.cells AV.leaf AV.pure AV.pures AV.scalar AV.scalars ofVal ofLeaf vLoad takeA vStore vBin vBuiltin elems vSlice intAt fillA fillR splice dense fills frz frzL names namesL fix frzH frzHL le leL vRes oneRes
attribute [local go_sem] c1 s1 a1 b1 z1 o1 i1 c2 s2 a2 b2 z2 o2 i2 u2 c3 s3 a3 b3 z3 o3 i3 u3 c4 s4 a4 b4 z4 o4 i4 u4 c5 s5 a5 b5 z5 o5 i5 u5 c6 s6 a6 b6 z6 o6 i6 u6 c7 s7 a7 b7 z7 o7 f7_0 f7_1 f7_2 f7_3 fo7 r7 i7 c8 s8 a8 b8 z8 o8 f8_0 f8_1 f8_2 f8_3 fo8 r8 i8 c9 s9 a9 b9 z9 o9 i9 u9 c10 s10 a10 b10 z10 o10 i10 u10 c11 s11 a11 b11 z11 o11 i11 u11 c12 s12 a12 b12 z12 o12 i12 u12 c13 s13 a13 b13 z13 o13 f13_0 f13_1 fo13 r13 i13 c14 s14 a14 b14 z14 o14 f14_0 f14_1 fo14 r14 i14 c15 s15 a15 b15 z15 o15 i15 c16 s16 a16 b16 z16 o16 i16 c17 s17 a17 b17 z17 o17 i17 c18 s18 a18 b18 z18 o18 f18_0 fo18 r18 i18 c19 s19 a19 b19 z19 o19 f19_0 fo19 r19 i19 c21 s21 a21 b21 z21 o21 i21 u21 c22 s22 a22 b22 z22 o22 i22 u22 c23 s23 a23 b23 z23 o23 e23 i23 c24 s24 a24 b24 z24 o24 i24 c25 s25 a25 b25 z25 o25 i25 u25 c26 s26 a26 b26 z26 o26 i26 c27 s27 a27 b27 z27 o27 i27 c28 s28 a28 b28 z28 o28 i28 c29 s29 a29 b29 z29 o29 i29 c30 s30 a30 b30 z30 o30 i30 c31 s31 a31 b31 z31 o31 i31 c32 s32 a32 b32 z32 o32 i32 c33 s33 a33 b33 z33 o33 i33 c34 s34 a34 b34 z34 o34 i34 c35 s35 a35 b35 z35 o35 i35 c36 s36 a36 b36 z36 o36 i36 c37 s37 a37 b37 z37 o37 i37 c38 s38 a38 b38 z38 o38 e38 i38 c39 s39 a39 b39 z39 o39 i39 u39 c40 s40 a40 b40 z40 o40 i40 c41 s41 a41 b41 z41 o41 f41_0 f41_1 q41 fo41 r41 i41 c42 s42 a42 b42 z42 o42 f42_0 f42_1 q42 fo42 r42 i42 c43 s43 a43 b43 z43 o43 i43 c44 s44 a44 b44 z44 o44 i44 c45 s45 a45 b45 z45 o45 i45 c46 s46 a46 b46 z46 o46 i46 c47 s47 a47 b47 z47 o47 i47 c48 s48 a48 b48 z48 o48 i48 c49 s49 a49 b49 z49 o49 i49 c50 s50 a50 b50 z50 o50 f50_0 f50_1 f50_2 f50_3 fo50 r50 i50 c51 s51 a51 b51 z51 o51 f51_0 f51_1 f51_2 f51_3 fo51 r51 i51 c55 s55 a55 b55 z55 o55 i55 u55 c56 s56 a56 b56 z56 o56 i56 u56 c57 s57 a57 b57 z57 o57 i57 u57 c58 s58 a58 b58 z58 o58 i58 c59 s59 a59 b59 z59 o59 i59 c60 s60 a60 b60 z60 o60 i60 u60 c61 s61 a61 b61 z61 o61 i61 u61 c62 s62 a62 b62 z62 o62 f62_0 f62_1 f62_2 f62_3 f62_4 f62_5 f62_6 f62_7 f62_8 f62_9 f62_10 fo62 r62 i62 c63 s63 a63 b63 z63 o63 f63_0 f63_1 f63_2 f63_3 f63_4 f63_5 f63_6 f63_7 f63_8 f63_9 f63_10 fo63 r63 i63
attribute [local go_sem] List.replicate List.length_cons List.length_nil Nat.reduceAdd Nat.reduceSub List.cons_append List.nil_append List.append_nil List.set_cons_succ List.set_cons_zero List.getD_cons_succ List.getD_cons_zero Nat.zero_add List.getElem?_cons_succ List.getElem?_cons_zero List.foldl_cons List.foldl_nil Option.map_some Option.map_none List.drop_succ_cons List.drop_zero List.take_succ_cons List.take_zero List.map_cons List.map_nil List.all_cons List.all_nil  Bool.and_true Bool.true_and imp_self Nat.add_zero beq_self_eq_true Option.isSome_some true_and and_true if_true if_false ints_len
set_option linter.unusedSimpArgs false
set_option maxRecDepth 100000
set_option maxHeartbeats 4000000
attribute [local go_sem] ints_nil ints_take ints_drop ints_cat ints_snoc ints_cons List.length_take List.length_drop List.drop_zero decide_true decide_false List.getElem?_toArray Option.bind_some Bool.false_eq_true Bool.true_eq_false Bool.not_true Bool.not_false Int.toNat_natCast Int.cast_ofNat_Int forget swap grow growIn opt_or opt_orn opt_and beq_true beq_false rdAll rdOp rdTmp agree Option.getD_some Option.getD_none List.flatten_cons List.flatten_nil
attribute [local go_sem] vts_len vts_take vts_drop vts_cat vts_snoc
def upN (t : List (Int × Int)) (l : Int) : Nat → Int → Int
  | 0, _ => -1
  | f + 1, v => if 0 ≤ v ∧ v < t.length then (if lev t v.toNat = l then v else if par t v.toNat ≥ v then -1 else upN t l f (par t v.toNat)) else -1
def upI (t : List (Int × Int)) (l v : Int) : Int := upN t l t.length v
theorem upN_out {t : List (Int × Int)} {l v : Int} (h : ¬ (0 ≤ v ∧ v < t.length)) : ∀ f, upN t l f v = -1
  | 0 => rfl
  | f + 1 => by unfold upN; rw [if_neg h]
theorem up_spec (f : Bool) (t : List (Int × Int)) (v l : Int) (hl : t.length ≤ 1000000) : Ret Try.prog 25 [.sl f (vts t), .int .i64 v, .int .i64 l] (.int .i64 (upI t l v)) := by
  have h2 := vts_2 t
  refine Ret_of_body Try.func25 (by kernel_rfl) rfl ?_
  rw [Try.ntmps25]
  repeat (first | ((with_reducible first | refine Ops_one rfl (fun N hN => ?_) | refine Ops_run rfl rfl rfl (fun N hN => ?_)); simp only [go_sem, Nat.reduceAdd, Nat.reduceSub, Nat.reduceLT, Nat.reduceMul, Nat.reduceLeDiff, Nat.reduceEqDiff]; (repeat (refine And.intro (by first | omega | ((try simp only [List.length_append, List.length_cons, List.length_nil, List.length_drop, List.length_take]); (try unfold lim); (try unfold lim2); omega) | exact ints_1 _ | assumption | (simp; done) | (simp [ints]; done)) ?_)); (first | refine hN _ ?_ | (intro _ _; refine hN _ ?_)); clear hN N) | with_reducible (first | refine Ops_end ?_ | refine TW_reg ?_ | refine TW_reg1 ?_ | refine TW_skip ?_ | refine TW_ret ?_ | refine QThen_n ?_ | refine QThen_r ?_ | refine QThen_e ?_ | refine QMid_r ?_ | refine QMid_e ?_ | refine QBlock_n ?_ | refine QBlock_r ?_ | refine QBlock_e ?_ | refine QBlock_x rfl ?_ | refine QLoop_r ?_ | refine QLoop_e ?_ | refine TW_seq ?_ | refine TW_block ?_ | refine TW_exit ?_) | ((with_reducible first | refine Ops_off rfl rfl rfl rfl ?_ | refine Ops_off0 rfl rfl rfl ?_); simp only [put, List.set_cons_succ, List.set_cons_zero]))
  have hv0 : upI t l v = upN t l t.length v := rfl
  refine TW_sub (Sub_blank [false, false, false, true, true, true, true, true, true, true, true, true, true, true, true, true, true, true, true, true, true, true, true, true, true, true, true, true, true, true, true, true, true, true, true]) ?_
  refine TW_loop (fun fuel st => ∃ (q : Nat) (v' : Int), (upI t l v = upN t l q v') ∧ (v' < q ∨ t.length ≤ v') ∧  fuel = q + 1 ∧ st = ⟨[.sl f (vts t), .int .i64 v', .int .i64 l, .junk, .junk, .junk, .junk, .junk, .junk, .junk, .junk, .junk, .junk, .junk, .junk, .junk, .junk, .junk, .junk, .junk, .junk, .junk, .junk, .junk, .junk, .junk, .junk, .junk, .junk, .junk, .junk, .junk, .junk, .junk, .junk], [.un, .un, .un, .un, .un, .un, .un, .un, .un, .un, .un, .un, .un, .un, .un, .un, .un, .un, .un, .un, .un, .un, .un, .un, .un, .un, .un, .un, .un, .un, .un, .un, .un, .un, .un], 0⟩) (n := _) ⟨t.length, v, by first | omega | (simp; done) | (simp; omega) | assumption, by first | omega | (simp; done) | (simp; omega) | assumption, rfl, rfl⟩ ?_
  rintro fuel st ⟨q, v', hv, hb, rfl, rfl⟩
  repeat (first | ((with_reducible first | refine Ops_one rfl (fun N hN => ?_) | refine Ops_run rfl rfl rfl (fun N hN => ?_)); simp only [go_sem, Nat.reduceAdd, Nat.reduceSub, Nat.reduceLT, Nat.reduceMul, Nat.reduceLeDiff, Nat.reduceEqDiff]; (repeat (refine And.intro (by first | omega | ((try simp only [List.length_append, List.length_cons, List.length_nil, List.length_drop, List.length_take]); (try unfold lim); (try unfold lim2); omega) | exact ints_1 _ | assumption | (simp; done) | (simp [ints]; done)) ?_)); (first | refine hN _ ?_ | (intro _ _; refine hN _ ?_)); clear hN N) | with_reducible (first | refine Ops_end ?_ | refine TW_reg ?_ | refine TW_reg1 ?_ | refine TW_skip ?_ | refine TW_ret ?_ | refine QThen_n ?_ | refine QThen_r ?_ | refine QThen_e ?_ | refine QMid_r ?_ | refine QMid_e ?_ | refine QBlock_n ?_ | refine QBlock_r ?_ | refine QBlock_e ?_ | refine QBlock_x rfl ?_ | refine QLoop_r ?_ | refine QLoop_e ?_ | refine TW_seq ?_ | refine TW_block ?_ | refine TW_exit ?_) | ((with_reducible first | refine Ops_off rfl rfl rfl rfl ?_ | refine Ops_off0 rfl rfl rfl ?_); simp only [put, List.set_cons_succ, List.set_cons_zero]) | ((first | ((with_reducible apply Dq_one); exact rfl) | ((with_reducible apply Dq_run); exact rfl; exact rfl; exact rfl; exact rfl)); (intro tq N hH hR hN; (first | (simp only [agree, go_sem, Nat.reduceAdd, Nat.reduceSub, Nat.reduceLT, Nat.reduceMul, Nat.reduceLeDiff, Nat.reduceEqDiff] at hR; simp only [hR, hH, go_sem, Nat.reduceAdd, Nat.reduceSub, Nat.reduceLT, Nat.reduceMul, Nat.reduceLeDiff, Nat.reduceEqDiff] at hN ⊢) | simp only [hH, go_sem, Nat.reduceAdd, Nat.reduceSub, Nat.reduceLT, Nat.reduceMul, Nat.reduceLeDiff, Nat.reduceEqDiff] at hN ⊢); (repeat (refine And.intro (by first | omega | ((try simp only [List.length_append, List.length_cons, List.length_nil, List.length_drop, List.length_take]); (try unfold lim); (try unfold lim2); omega) | exact ints_1 _ | assumption | (simp; done) | (simp [ints]; done)) ?_)); exact hN _ rfl); simp only [put, List.set_cons_succ, List.set_cons_zero, beq_true, beq_false, Bool.not_not]) | ((first | ((with_reducible apply Dq_off); exact rfl; exact rfl; exact rfl; exact rfl; exact rfl) | ((with_reducible apply Dq_off2); exact rfl; exact rfl; exact rfl; exact rfl; exact rfl) | ((with_reducible apply Dq_off0); exact rfl; exact rfl; exact rfl; exact rfl)); simp only [put, List.set_cons_succ, List.set_cons_zero, beq_true, beq_false, Bool.not_not]) | ((first | ((with_reducible apply Dq_may); exact rfl; exact rfl; exact rfl; exact rfl) | ((with_reducible apply Dq_may2); exact rfl; exact rfl; exact rfl; exact rfl)); (intro tq N hcq hH hR hN; (try simp only [beq_true, beq_false, Bool.not_eq_true', Bool.not_eq_false', Bool.and_eq_true, Bool.true_and, Bool.and_true, Bool.not_true, Bool.not_false, if_true] at hcq); have hd := hcq; (try simp only [decide_eq_true_eq, decide_eq_false_iff_not, Bool.or_eq_false_iff, Bool.and_eq_true] at hd); (first | (simp only [agree, hcq, AV.opt_true, Bool.and_eq_true, Bool.true_and, Bool.and_true, Bool.not_true, Bool.not_false, if_true, go_sem, Nat.reduceAdd, Nat.reduceSub, Nat.reduceLT, Nat.reduceMul, Nat.reduceLeDiff, Nat.reduceEqDiff] at hR; simp only [hR, hH, hcq, AV.opt_true, Bool.and_eq_true, Bool.true_and, Bool.and_true, Bool.not_true, Bool.not_false, if_true, go_sem, Nat.reduceAdd, Nat.reduceSub, Nat.reduceLT, Nat.reduceMul, Nat.reduceLeDiff, Nat.reduceEqDiff] at hN ⊢) | simp only [hH, hcq, AV.opt_true, Bool.and_eq_true, Bool.true_and, Bool.and_true, Bool.not_true, Bool.not_false, if_true, go_sem, Nat.reduceAdd, Nat.reduceSub, Nat.reduceLT, Nat.reduceMul, Nat.reduceLeDiff, Nat.reduceEqDiff] at hN ⊢); (repeat (refine And.intro (by first | omega | ((try simp only [List.length_append, List.length_cons, List.length_nil, List.length_drop, List.length_take]); (try unfold lim); (try unfold lim2); omega) | exact ints_1 _ | assumption | (simp; done) | (simp [ints]; done)) ?_)); exact hN _ rfl); simp only [put, List.set_cons_succ, List.set_cons_zero, beq_true, beq_false, Bool.not_not]) | (with_reducible first | apply Dq_end | apply Ops_dq | refine TW_quiet mixed (by kernel_rfl) (by kernel_rfl) ?_))
  refine TW_cond rfl (fun hc => ?_) (fun hc => ?_)
  · simp only [Bool.and_eq_true, decide_eq_true_eq] at hc
    have hg := vts_get t v'.toNat (by omega)
    obtain ⟨f', rfl⟩ : ∃ f', q = f' + 1 := ⟨q - 1, by omega⟩
    have hin : 0 ≤ v' ∧ v' < t.length := ⟨by omega, by omega⟩
    rw [upN, if_pos hin] at hv
    have hi0 := hin.1
    repeat (first | ((with_reducible first | refine Ops_one rfl (fun N hN => ?_) | refine Ops_run rfl rfl rfl (fun N hN => ?_)); simp only [go_sem, hg, Nat.reduceAdd, Nat.reduceSub, Nat.reduceLT, Nat.reduceMul, Nat.reduceLeDiff, Nat.reduceEqDiff]; (repeat (refine And.intro (by first | omega | ((try simp only [List.length_append, List.length_cons, List.length_nil, List.length_drop, List.length_take]); (try unfold lim); (try unfold lim2); omega) | exact ints_1 _ | assumption | (simp; done) | (simp [ints]; done)) ?_)); (first | refine hN _ ?_ | (intro _ _; refine hN _ ?_)); clear hN N) | with_reducible (first | refine Ops_end ?_ | refine TW_reg ?_ | refine TW_reg1 ?_ | refine TW_skip ?_ | refine TW_ret ?_ | refine QThen_n ?_ | refine QThen_r ?_ | refine QThen_e ?_ | refine QMid_r ?_ | refine QMid_e ?_ | refine QBlock_n ?_ | refine QBlock_r ?_ | refine QBlock_e ?_ | refine QBlock_x rfl ?_ | refine QLoop_r ?_ | refine QLoop_e ?_ | refine TW_seq ?_ | refine TW_block ?_ | refine TW_exit ?_) | ((with_reducible first | refine Ops_off rfl rfl rfl rfl ?_ | refine Ops_off0 rfl rfl rfl ?_); simp only [put, List.set_cons_succ, List.set_cons_zero]))
    refine TW_cond rfl (fun hc => ?_) (fun hc => ?_)
    · have h3 : lev t v'.toNat = l := by simpa [lev] using hc
      repeat (first | ((with_reducible first | refine Ops_one rfl (fun N hN => ?_) | refine Ops_run rfl rfl rfl (fun N hN => ?_)); simp only [go_sem, Nat.reduceAdd, Nat.reduceSub, Nat.reduceLT, Nat.reduceMul, Nat.reduceLeDiff, Nat.reduceEqDiff]; (repeat (refine And.intro (by first | omega | ((try simp only [List.length_append, List.length_cons, List.length_nil, List.length_drop, List.length_take]); (try unfold lim); (try unfold lim2); omega) | exact ints_1 _ | assumption | (simp; done) | (simp [ints]; done)) ?_)); (first | refine hN _ ?_ | (intro _ _; refine hN _ ?_)); clear hN N) | with_reducible (first | refine Ops_end ?_ | refine TW_reg ?_ | refine TW_reg1 ?_ | refine TW_skip ?_ | refine TW_ret ?_ | refine QThen_n ?_ | refine QThen_r ?_ | refine QThen_e ?_ | refine QMid_r ?_ | refine QMid_e ?_ | refine QBlock_n ?_ | refine QBlock_r ?_ | refine QBlock_e ?_ | refine QBlock_x rfl ?_ | refine QLoop_r ?_ | refine QLoop_e ?_ | refine TW_seq ?_ | refine TW_block ?_ | refine TW_exit ?_) | ((with_reducible first | refine Ops_off rfl rfl rfl rfl ?_ | refine Ops_off0 rfl rfl rfl ?_); simp only [put, List.set_cons_succ, List.set_cons_zero]))
      (refine ⟨by simp, ?_⟩; simp only [go_sem, Nat.reduceAdd, Nat.reduceSub, Nat.reduceLT, Nat.reduceMul, Nat.reduceLeDiff, Nat.reduceEqDiff, Try.results25])
      rw [hv, if_pos h3]
    · have h3 : ¬ lev t v'.toNat = l := by simpa [lev] using hc
      rw [if_neg h3] at hv
      repeat (first | ((with_reducible first | refine Ops_one rfl (fun N hN => ?_) | refine Ops_run rfl rfl rfl (fun N hN => ?_)); simp only [go_sem, hg, Nat.reduceAdd, Nat.reduceSub, Nat.reduceLT, Nat.reduceMul, Nat.reduceLeDiff, Nat.reduceEqDiff]; (repeat (refine And.intro (by first | omega | ((try simp only [List.length_append, List.length_cons, List.length_nil, List.length_drop, List.length_take]); (try unfold lim); (try unfold lim2); omega) | exact ints_1 _ | assumption | (simp; done) | (simp [ints]; done)) ?_)); (first | refine hN _ ?_ | (intro _ _; refine hN _ ?_)); clear hN N) | with_reducible (first | refine Ops_end ?_ | refine TW_reg ?_ | refine TW_reg1 ?_ | refine TW_skip ?_ | refine TW_ret ?_ | refine QThen_n ?_ | refine QThen_r ?_ | refine QThen_e ?_ | refine QMid_r ?_ | refine QMid_e ?_ | refine QBlock_n ?_ | refine QBlock_r ?_ | refine QBlock_e ?_ | refine QBlock_x rfl ?_ | refine QLoop_r ?_ | refine QLoop_e ?_ | refine TW_seq ?_ | refine TW_block ?_ | refine TW_exit ?_) | ((with_reducible first | refine Ops_off rfl rfl rfl rfl ?_ | refine Ops_off0 rfl rfl rfl ?_); simp only [put, List.set_cons_succ, List.set_cons_zero]))
      refine TW_cond rfl (fun hc => ?_) (fun hc => ?_)
      · have h4 : par t v'.toNat ≥ v' := by simpa [par] using hc
        repeat (first | ((with_reducible first | refine Ops_one rfl (fun N hN => ?_) | refine Ops_run rfl rfl rfl (fun N hN => ?_)); simp only [go_sem, Nat.reduceAdd, Nat.reduceSub, Nat.reduceLT, Nat.reduceMul, Nat.reduceLeDiff, Nat.reduceEqDiff]; (repeat (refine And.intro (by first | omega | ((try simp only [List.length_append, List.length_cons, List.length_nil, List.length_drop, List.length_take]); (try unfold lim); (try unfold lim2); omega) | exact ints_1 _ | assumption | (simp; done) | (simp [ints]; done)) ?_)); (first | refine hN _ ?_ | (intro _ _; refine hN _ ?_)); clear hN N) | with_reducible (first | refine Ops_end ?_ | refine TW_reg ?_ | refine TW_reg1 ?_ | refine TW_skip ?_ | refine TW_ret ?_ | refine QThen_n ?_ | refine QThen_r ?_ | refine QThen_e ?_ | refine QMid_r ?_ | refine QMid_e ?_ | refine QBlock_n ?_ | refine QBlock_r ?_ | refine QBlock_e ?_ | refine QBlock_x rfl ?_ | refine QLoop_r ?_ | refine QLoop_e ?_ | refine TW_seq ?_ | refine TW_block ?_ | refine TW_exit ?_) | ((with_reducible first | refine Ops_off rfl rfl rfl rfl ?_ | refine Ops_off0 rfl rfl rfl ?_); simp only [put, List.set_cons_succ, List.set_cons_zero]))
        (refine ⟨by simp, ?_⟩; simp only [go_sem, Nat.reduceAdd, Nat.reduceSub, Nat.reduceLT, Nat.reduceMul, Nat.reduceLeDiff, Nat.reduceEqDiff, Try.results25])
        rw [hv, if_pos h4]
      · have h4 : ¬ par t v'.toNat ≥ v' := by simpa [par] using hc
        rw [if_neg h4] at hv
        repeat (first | ((with_reducible first | refine Ops_one rfl (fun N hN => ?_) | refine Ops_run rfl rfl rfl (fun N hN => ?_)); simp only [go_sem, hg, Nat.reduceAdd, Nat.reduceSub, Nat.reduceLT, Nat.reduceMul, Nat.reduceLeDiff, Nat.reduceEqDiff]; (repeat (refine And.intro (by first | omega | ((try simp only [List.length_append, List.length_cons, List.length_nil, List.length_drop, List.length_take]); (try unfold lim); (try unfold lim2); omega) | exact ints_1 _ | assumption | (simp; done) | (simp [ints]; done)) ?_)); (first | refine hN _ ?_ | (intro _ _; refine hN _ ?_)); clear hN N) | with_reducible (first | refine Ops_end ?_ | refine TW_reg ?_ | refine TW_reg1 ?_ | refine TW_skip ?_ | refine TW_ret ?_ | refine QThen_n ?_ | refine QThen_r ?_ | refine QThen_e ?_ | refine QMid_r ?_ | refine QMid_e ?_ | refine QBlock_n ?_ | refine QBlock_r ?_ | refine QBlock_e ?_ | refine QBlock_x rfl ?_ | refine QLoop_r ?_ | refine QLoop_e ?_ | refine TW_seq ?_ | refine TW_block ?_ | refine TW_exit ?_) | ((with_reducible first | refine Ops_off rfl rfl rfl rfl ?_ | refine Ops_off0 rfl rfl rfl ?_); simp only [put, List.set_cons_succ, List.set_cons_zero]))
        exact ⟨_, _, by omega, ⟨f', par t v'.toNat, hv, by omega, rfl, rfl⟩, Sub_blank [false, false, false, true, true, true, true, true, true, true, true, true, true, true, true, true, true, true, true, true, true, true, true, true, true, true, true, true, true, true, true, true, true, true, true]⟩
  · have h5 : ¬ (0 ≤ v' ∧ v' < t.length) := by
      rw [Bool.and_eq_false_iff, decide_eq_false_iff_not, decide_eq_false_iff_not] at hc; omega
    repeat (first | ((with_reducible first | refine Ops_one rfl (fun N hN => ?_) | refine Ops_run rfl rfl rfl (fun N hN => ?_)); simp only [go_sem, Nat.reduceAdd, Nat.reduceSub, Nat.reduceLT, Nat.reduceMul, Nat.reduceLeDiff, Nat.reduceEqDiff]; (repeat (refine And.intro (by first | omega | ((try simp only [List.length_append, List.length_cons, List.length_nil, List.length_drop, List.length_take]); (try unfold lim); (try unfold lim2); omega) | exact ints_1 _ | assumption | (simp; done) | (simp [ints]; done)) ?_)); (first | refine hN _ ?_ | (intro _ _; refine hN _ ?_)); clear hN N) | with_reducible (first | refine Ops_end ?_ | refine TW_reg ?_ | refine TW_reg1 ?_ | refine TW_skip ?_ | refine TW_ret ?_ | refine QThen_n ?_ | refine QThen_r ?_ | refine QThen_e ?_ | refine QMid_r ?_ | refine QMid_e ?_ | refine QBlock_n ?_ | refine QBlock_r ?_ | refine QBlock_e ?_ | refine QBlock_x rfl ?_ | refine QLoop_r ?_ | refine QLoop_e ?_ | refine TW_seq ?_ | refine TW_block ?_ | refine TW_exit ?_) | ((with_reducible first | refine Ops_off rfl rfl rfl rfl ?_ | refine Ops_off0 rfl rfl rfl ?_); simp only [put, List.set_cons_succ, List.set_cons_zero]))
    (refine ⟨by simp, ?_⟩; simp only [go_sem, Nat.reduceAdd, Nat.reduceSub, Nat.reduceLT, Nat.reduceMul, Nat.reduceLeDiff, Nat.reduceEqDiff, Try.results25])
    rw [hv, upN_out h5]
structure Tree (t : List (Int × Int)) : Prop where
  pos : 0 < t.length
  le : t.length ≤ 64
  few : (levL t 3).length ≤ 32
  root : par t 0 = -1 ∧ lev t 0 = 0
  up : ∀ i, 0 < i → i < t.length → 0 ≤ par t i ∧ par t i < i ∧ lev t i = lev t (par t i).toNat + 1
  lv : ∀ i < t.length, 0 ≤ lev t i ∧ lev t i ≤ 3
  leaf : ∀ i < t.length, (lev t i = 3 ↔ (kidsL t i).length = 0)
  kids : ∀ i < t.length, (kidsL t i).length ≤ 8
theorem Tree.of {t : List (Int × Int)} (h : treeB t = true) : Tree t := by
  unfold treeB at h
  rw [Bool.and_eq_true] at h
  obtain ⟨h1, h2⟩ := h
  simp only [smallT, Bool.and_eq_true, decide_eq_true_eq] at h1
  have hok : ∀ i < t.length, okV t i = true := fun i hi => List.all_eq_true.mp h2 i (List.mem_range.mpr hi)
  have hbel : ∀ i < t.length, belB t i = true := fun i hi => by
    have := hok i hi
    simp only [okV, Bool.and_eq_true] at this
    exact this.1.1
  have hroot : par t 0 = -1 ∧ lev t 0 = 0 := by
    have := hbel 0 (by omega)
    unfold belB at this
    rw [if_pos rfl] at this
    simpa using this
  have hstep : ∀ i, 0 < i → i < t.length → 0 ≤ par t i ∧ par t i < i ∧ lev t i = IntKind.i64.wrap (lev t (par t i).toNat + 1) ∧ lev t i ≤ 3 := fun i hi hl => by
    have := hbel i hl
    unfold belB at this
    rw [if_neg (by omega)] at this
    simp only [Bool.and_eq_true, decide_eq_true_eq] at this
    exact ⟨this.1.1.1, this.1.1.2, this.1.2, this.2⟩
  have hlv : ∀ n i, i ≤ n → i < t.length → 0 ≤ lev t i ∧ lev t i ≤ 3 := by
    intro n
    induction n with
    | zero => intro i hi _; have : i = 0 := by omega
              subst this; rw [hroot.2]; omega
    | succ n ih =>
      intro i hi hl
      by_cases h0 : i = 0
      · subst h0; rw [hroot.2]; omega
      · obtain ⟨a1, a2, a3, a4⟩ := hstep i (by omega) hl
        have := ih (par t i).toNat (by omega) (by omega)
        rw [wrap_i64 (by omega) (by omega)] at a3
        omega
  refine ⟨by omega, by omega, h1.2, hroot, fun i hi hl => ?_, fun i hl => hlv i i (Nat.le_refl _) hl, fun i hl => ?_, fun i hl => ?_⟩
  · obtain ⟨a1, a2, a3, a4⟩ := hstep i hi hl
    have := hlv (par t i).toNat (par t i).toNat (Nat.le_refl _) (by omega)
    rw [wrap_i64 (by omega) (by omega)] at a3
    exact ⟨a1, a2, a3⟩
  · have := hok i hl
    simp only [okV, Bool.and_eq_true, beq_iff_eq] at this
    have h3 := this.1.2
    constructor
    · intro e; rw [decide_eq_true e] at h3; simpa using h3.symm
    · intro e; rw [decide_eq_true e] at h3; simpa using h3
  · have := hok i hl
    simp only [okV, Bool.and_eq_true, decide_eq_true_eq] at this
    exact this.2
theorem Tree.to {t : List (Int × Int)} (h : Tree t) : treeB t = true := by
  unfold treeB
  rw [Bool.and_eq_true]
  have := h.pos; have := h.le; have := h.few
  refine ⟨by simp only [smallT, Bool.and_eq_true, decide_eq_true_eq]; omega, List.all_eq_true.mpr fun i hi => ?_⟩
  have hi := List.mem_range.mp hi
  have h1 := h.leaf i hi
  have h2 := h.kids i hi
  simp only [okV, Bool.and_eq_true, decide_eq_true_eq, beq_iff_eq]
  refine ⟨⟨?_, by rw [Bool.eq_iff_iff, decide_eq_true_eq, decide_eq_true_eq]; exact h1⟩, h2⟩
  unfold belB
  by_cases h0 : i = 0
  · subst h0; rw [if_pos rfl]; simp [h.root.1, h.root.2]
  · rw [if_neg h0]
    obtain ⟨a1, a2, a3⟩ := h.up i (by omega) hi
    have b1 := h.lv i hi
    have b2 := h.lv (par t i).toNat (by omega)
    simp only [Bool.and_eq_true, decide_eq_true_eq]
    rw [wrap_i64 (by omega) (by omega)]
    exact ⟨⟨⟨a1, by omega⟩, a3⟩, by omega⟩
theorem chk_iff (t : List (Int × Int)) : chk t = 0 ↔ Tree t := by
  unfold chk
  constructor
  · intro h
    by_cases e : treeB t = true
    · exact Tree.of e
    · rw [if_neg e] at h; cases h
  · intro h; rw [if_pos h.to]
theorem chk_no {t : List (Int × Int)} (h : ¬ Tree t) : chk t = 2 := by
  unfold chk
  by_cases e : treeB t = true
  · exact absurd (Tree.of e) h
  · rw [if_neg e]
theorem kid_mem {t : List (Int × Int)} {v x : Int} : x ∈ kidsL t v ↔ ∃ i : Nat, x = i ∧ i < t.length ∧ par t i = v := by
  unfold kidsL; rw [idxs_mem]; simp
theorem lev_mem {t : List (Int × Int)} {v x : Int} : x ∈ levL t v ↔ ∃ i : Nat, x = i ∧ i < t.length ∧ lev t i = v := by
  unfold levL; rw [idxs_mem]; simp
theorem shown1_spec : Ret Try.prog 20 [] (.bool true) := by
  have h1 : chk [(-1, 0), (0, 1), (1, 2), (2, 3), (2, 3)] = 0 := by decide
  have h2 : levL [(-1, 0), (0, 1), (1, 2), (2, 3), (2, 3)] 3 = [3, 4] := by decide
  have h3 : upI [(-1, 0), (0, 1), (1, 2), (2, 3), (2, 3)] 1 4 = 1 := by decide
  have e : [[AV.int .i64 (-1), .int .i64 0], [.int .i64 0, .int .i64 1], [.int .i64 1, .int .i64 2], [.int .i64 2, .int .i64 3], [.int .i64 2, .int .i64 3]] = vts [(-1, 0), (0, 1), (1, 2), (2, 3), (2, 3)] := rfl
  refine Ret_of_body Try.func20 (by kernel_rfl) rfl ?_
  rw [Try.ntmps20]
  repeat (first | ((with_reducible first | refine Ops_one rfl (fun N hN => ?_) | refine Ops_run rfl rfl rfl (fun N hN => ?_)); simp only [go_sem, e, Nat.reduceAdd, Nat.reduceSub, Nat.reduceLT, Nat.reduceMul, Nat.reduceLeDiff, Nat.reduceEqDiff]; (repeat (refine And.intro (by first | omega | ((try simp only [List.length_append, List.length_cons, List.length_nil, List.length_drop, List.length_take]); (try unfold lim); (try unfold lim2); omega) | exact ints_1 _ | assumption | (simp; done) | (simp [ints]; done)) ?_)); (first | refine hN _ ?_ | (intro _ _; refine hN _ ?_)); clear hN N) | with_reducible (first | refine Ops_end ?_ | refine TW_reg ?_ | refine TW_reg1 ?_ | refine TW_skip ?_ | refine TW_ret ?_ | refine QThen_n ?_ | refine QThen_r ?_ | refine QThen_e ?_ | refine QMid_r ?_ | refine QMid_e ?_ | refine QBlock_n ?_ | refine QBlock_r ?_ | refine QBlock_e ?_ | refine QBlock_x rfl ?_ | refine QLoop_r ?_ | refine QLoop_e ?_ | refine TW_seq ?_ | refine TW_block ?_ | refine TW_exit ?_) | ((with_reducible first | refine Ops_off rfl rfl rfl rfl ?_ | refine Ops_off0 rfl rfl rfl ?_); simp only [put, List.set_cons_succ, List.set_cons_zero]))
  ((with_reducible first | refine Ops_one rfl (fun N hN => ?_) | refine Ops_run rfl rfl rfl (fun N hN => ?_)); simp only [go_sem, h1, e, Nat.reduceAdd, Nat.reduceSub, Nat.reduceLT, Nat.reduceMul, Nat.reduceLeDiff, Nat.reduceEqDiff]; refine vCall.sc _ _ (check_spec false [(-1, 0), (0, 1), (1, 2), (2, 3), (2, 3)] (by simp)) ?ha1 rfl (hN _ ?hk1); (case ha1 => (first | (simp only [go_sem, h1, e, Nat.reduceAdd, Nat.reduceSub, Nat.reduceLT, Nat.reduceMul, Nat.reduceLeDiff, Nat.reduceEqDiff]; done) | (simp only [go_sem, h1, e, Nat.reduceAdd, Nat.reduceSub, Nat.reduceLT, Nat.reduceMul, Nat.reduceLeDiff, Nat.reduceEqDiff] <;> (first | omega | ((try simp only [List.length_append, List.length_cons, List.length_nil, List.length_drop, List.length_take]); (try unfold lim); (try unfold lim2); omega) | exact ints_1 _ | assumption | (simp; done) | (simp [ints]; done))) | (simp [ints]; done))); clear hN N; apply Ops_eq; (simp only [go_sem, h1, e, Nat.reduceAdd, Nat.reduceSub, Nat.reduceLT, Nat.reduceMul, Nat.reduceLeDiff, Nat.reduceEqDiff]; rfl))
  repeat (first | ((with_reducible first | refine Ops_one rfl (fun N hN => ?_) | refine Ops_run rfl rfl rfl (fun N hN => ?_)); simp only [go_sem, h1, e, Nat.reduceAdd, Nat.reduceSub, Nat.reduceLT, Nat.reduceMul, Nat.reduceLeDiff, Nat.reduceEqDiff]; (repeat (refine And.intro (by first | omega | ((try simp only [List.length_append, List.length_cons, List.length_nil, List.length_drop, List.length_take]); (try unfold lim); (try unfold lim2); omega) | exact ints_1 _ | assumption | (simp; done) | (simp [ints]; done)) ?_)); (first | refine hN _ ?_ | (intro _ _; refine hN _ ?_)); clear hN N) | with_reducible (first | refine Ops_end ?_ | refine TW_reg ?_ | refine TW_reg1 ?_ | refine TW_skip ?_ | refine TW_ret ?_ | refine QThen_n ?_ | refine QThen_r ?_ | refine QThen_e ?_ | refine QMid_r ?_ | refine QMid_e ?_ | refine QBlock_n ?_ | refine QBlock_r ?_ | refine QBlock_e ?_ | refine QBlock_x rfl ?_ | refine QLoop_r ?_ | refine QLoop_e ?_ | refine TW_seq ?_ | refine TW_block ?_ | refine TW_exit ?_) | ((with_reducible first | refine Ops_off rfl rfl rfl rfl ?_ | refine Ops_off0 rfl rfl rfl ?_); simp only [put, List.set_cons_succ, List.set_cons_zero]))
  ((with_reducible first | refine Ops_one rfl (fun N hN => ?_) | refine Ops_run rfl rfl rfl (fun N hN => ?_)); simp only [go_sem, h2, e, Nat.reduceAdd, Nat.reduceSub, Nat.reduceLT, Nat.reduceMul, Nat.reduceLeDiff, Nat.reduceEqDiff]; refine vCall.pu _ _ (procs_spec false [(-1, 0), (0, 1), (1, 2), (2, 3), (2, 3)] (by simp)) ?ha2 (hN _ ?hk2); (case ha2 => (first | (simp only [go_sem, h2, e, Nat.reduceAdd, Nat.reduceSub, Nat.reduceLT, Nat.reduceMul, Nat.reduceLeDiff, Nat.reduceEqDiff]; done) | (simp only [go_sem, h2, e, Nat.reduceAdd, Nat.reduceSub, Nat.reduceLT, Nat.reduceMul, Nat.reduceLeDiff, Nat.reduceEqDiff] <;> (first | omega | ((try simp only [List.length_append, List.length_cons, List.length_nil, List.length_drop, List.length_take]); (try unfold lim); (try unfold lim2); omega) | exact ints_1 _ | assumption | (simp; done) | (simp [ints]; done))) | (simp [ints]; done))); clear hN N; apply Ops_eq; (simp only [go_sem, h2, e, Nat.reduceAdd, Nat.reduceSub, Nat.reduceLT, Nat.reduceMul, Nat.reduceLeDiff, Nat.reduceEqDiff]; rfl))
  repeat (first | ((with_reducible first | refine Ops_one rfl (fun N hN => ?_) | refine Ops_run rfl rfl rfl (fun N hN => ?_)); simp only [go_sem, h2, e, Nat.reduceAdd, Nat.reduceSub, Nat.reduceLT, Nat.reduceMul, Nat.reduceLeDiff, Nat.reduceEqDiff]; (repeat (refine And.intro (by first | omega | ((try simp only [List.length_append, List.length_cons, List.length_nil, List.length_drop, List.length_take]); (try unfold lim); (try unfold lim2); omega) | exact ints_1 _ | assumption | (simp; done) | (simp [ints]; done)) ?_)); (first | refine hN _ ?_ | (intro _ _; refine hN _ ?_)); clear hN N) | with_reducible (first | refine Ops_end ?_ | refine TW_reg ?_ | refine TW_reg1 ?_ | refine TW_skip ?_ | refine TW_ret ?_ | refine QThen_n ?_ | refine QThen_r ?_ | refine QThen_e ?_ | refine QMid_r ?_ | refine QMid_e ?_ | refine QBlock_n ?_ | refine QBlock_r ?_ | refine QBlock_e ?_ | refine QBlock_x rfl ?_ | refine QLoop_r ?_ | refine QLoop_e ?_ | refine TW_seq ?_ | refine TW_block ?_ | refine TW_exit ?_) | ((with_reducible first | refine Ops_off rfl rfl rfl rfl ?_ | refine Ops_off0 rfl rfl rfl ?_); simp only [put, List.set_cons_succ, List.set_cons_zero]))
  ((with_reducible first | refine Ops_one rfl (fun N hN => ?_) | refine Ops_run rfl rfl rfl (fun N hN => ?_)); simp only [go_sem, Nat.reduceAdd, Nat.reduceSub, Nat.reduceLT, Nat.reduceMul, Nat.reduceLeDiff, Nat.reduceEqDiff]; refine vCall.sc _ _ (ints_spec false false [3, 4] [3, 4] (by simp) (by simp)) ?ha3 rfl (hN _ ?hk3); (case ha3 => (first | (simp only [go_sem, Nat.reduceAdd, Nat.reduceSub, Nat.reduceLT, Nat.reduceMul, Nat.reduceLeDiff, Nat.reduceEqDiff]; done) | (simp only [go_sem, Nat.reduceAdd, Nat.reduceSub, Nat.reduceLT, Nat.reduceMul, Nat.reduceLeDiff, Nat.reduceEqDiff] <;> (first | omega | ((try simp only [List.length_append, List.length_cons, List.length_nil, List.length_drop, List.length_take]); (try unfold lim); (try unfold lim2); omega) | exact ints_1 _ | assumption | (simp; done) | (simp [ints]; done))) | (simp [ints]; done))); clear hN N; apply Ops_eq; (simp only [go_sem, Nat.reduceAdd, Nat.reduceSub, Nat.reduceLT, Nat.reduceMul, Nat.reduceLeDiff, Nat.reduceEqDiff]; rfl))
  repeat (first | ((with_reducible first | refine Ops_one rfl (fun N hN => ?_) | refine Ops_run rfl rfl rfl (fun N hN => ?_)); simp only [go_sem, e, Nat.reduceAdd, Nat.reduceSub, Nat.reduceLT, Nat.reduceMul, Nat.reduceLeDiff, Nat.reduceEqDiff]; (repeat (refine And.intro (by first | omega | ((try simp only [List.length_append, List.length_cons, List.length_nil, List.length_drop, List.length_take]); (try unfold lim); (try unfold lim2); omega) | exact ints_1 _ | assumption | (simp; done) | (simp [ints]; done)) ?_)); (first | refine hN _ ?_ | (intro _ _; refine hN _ ?_)); clear hN N) | with_reducible (first | refine Ops_end ?_ | refine TW_reg ?_ | refine TW_reg1 ?_ | refine TW_skip ?_ | refine TW_ret ?_ | refine QThen_n ?_ | refine QThen_r ?_ | refine QThen_e ?_ | refine QMid_r ?_ | refine QMid_e ?_ | refine QBlock_n ?_ | refine QBlock_r ?_ | refine QBlock_e ?_ | refine QBlock_x rfl ?_ | refine QLoop_r ?_ | refine QLoop_e ?_ | refine TW_seq ?_ | refine TW_block ?_ | refine TW_exit ?_) | ((with_reducible first | refine Ops_off rfl rfl rfl rfl ?_ | refine Ops_off0 rfl rfl rfl ?_); simp only [put, List.set_cons_succ, List.set_cons_zero]))
  ((with_reducible first | refine Ops_one rfl (fun N hN => ?_) | refine Ops_run rfl rfl rfl (fun N hN => ?_)); simp only [go_sem, h3, e, Nat.reduceAdd, Nat.reduceSub, Nat.reduceLT, Nat.reduceMul, Nat.reduceLeDiff, Nat.reduceEqDiff]; refine vCall.sc _ _ (up_spec false [(-1, 0), (0, 1), (1, 2), (2, 3), (2, 3)] 4 1 (by simp)) ?ha4 rfl (hN _ ?hk4); (case ha4 => (first | (simp only [go_sem, h3, e, Nat.reduceAdd, Nat.reduceSub, Nat.reduceLT, Nat.reduceMul, Nat.reduceLeDiff, Nat.reduceEqDiff]; done) | (simp only [go_sem, h3, e, Nat.reduceAdd, Nat.reduceSub, Nat.reduceLT, Nat.reduceMul, Nat.reduceLeDiff, Nat.reduceEqDiff] <;> (first | omega | ((try simp only [List.length_append, List.length_cons, List.length_nil, List.length_drop, List.length_take]); (try unfold lim); (try unfold lim2); omega) | exact ints_1 _ | assumption | (simp; done) | (simp [ints]; done))) | (simp [ints]; done))); clear hN N; apply Ops_eq; (simp only [go_sem, h3, e, Nat.reduceAdd, Nat.reduceSub, Nat.reduceLT, Nat.reduceMul, Nat.reduceLeDiff, Nat.reduceEqDiff]; rfl))
  repeat (first | ((with_reducible first | refine Ops_one rfl (fun N hN => ?_) | refine Ops_run rfl rfl rfl (fun N hN => ?_)); simp only [go_sem, h3, Nat.reduceAdd, Nat.reduceSub, Nat.reduceLT, Nat.reduceMul, Nat.reduceLeDiff, Nat.reduceEqDiff]; (repeat (refine And.intro (by first | omega | ((try simp only [List.length_append, List.length_cons, List.length_nil, List.length_drop, List.length_take]); (try unfold lim); (try unfold lim2); omega) | exact ints_1 _ | assumption | (simp; done) | (simp [ints]; done)) ?_)); (first | refine hN _ ?_ | (intro _ _; refine hN _ ?_)); clear hN N) | with_reducible (first | refine Ops_end ?_ | refine TW_reg ?_ | refine TW_reg1 ?_ | refine TW_skip ?_ | refine TW_ret ?_ | refine QThen_n ?_ | refine QThen_r ?_ | refine QThen_e ?_ | refine QMid_r ?_ | refine QMid_e ?_ | refine QBlock_n ?_ | refine QBlock_r ?_ | refine QBlock_e ?_ | refine QBlock_x rfl ?_ | refine QLoop_r ?_ | refine QLoop_e ?_ | refine TW_seq ?_ | refine TW_block ?_ | refine TW_exit ?_) | ((with_reducible first | refine Ops_off rfl rfl rfl rfl ?_ | refine Ops_off0 rfl rfl rfl ?_); simp only [put, List.set_cons_succ, List.set_cons_zero]))
  (refine ⟨by simp, ?_⟩; simp only [go_sem, Nat.reduceAdd, Nat.reduceSub, Nat.reduceLT, Nat.reduceMul, Nat.reduceLeDiff, Nat.reduceEqDiff, Try.results20])

end Go.Proofs.YtmdnohhjeooahaaT
