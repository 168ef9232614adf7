/- Printed by a program of this session (over the kit's print): functions in plain form, and what their calls come to. -/
import Derived.Test.YtibkpacjijbblaaQPlaysx0
import Derived.Test.YtibkpacjijbblaaQPlaysx1
namespace Go.Proofs.Ytibkpacjijbblaa.QPlays
open Go.RowKit Go.Proofs.YtibkpacjijbblaaW.PrintWords Go.Proofs.YtibkpacjijbblaaW.PrintLast Go.Proofs.YtibkpacjijbblaaW.PrintMore
attribute [local go_sem] max2_int min2_int max_two min_two max_three min_three max_four min_four   -- for this text's walks alone
set_option linter.unusedVariables false
set_option linter.unusedSimpArgs false

/-! ### box_Recv: function 16 -/
def box_Recv.j0 : Nat → Int → Bool → Int → List Int → List (S65) → List Int → Int → Int → Option (Int × List Int × (List (S65)) × List Int × Int × Int × Bool)
  | 0, _, _, _, _, _, _, _, _ => none
  | k + 1, x1, x21, x157000, x157001, x157002, x157003, x159000, x159001 => if x21 = true then ((slices_Clone_int_int.f x157003).bind fun t159 => (if t159.length < 17592186044416 then (some (x157000, x157001, x157002, (t159 ++ [x1]), 0, 0, false)) else (none))) else ((slices_Clone_int64_int64.f x157001).bind fun t165 => (if (x157002.length : Int) > 0 then ((box_Mail_38.f x157002).bind fun bt168 => (if t165.length < 17592186044416 then ((box_first_int64.f (t165 ++ [bt168.2.1])).bind fun bt176 => (some (x157000, bt176.2, bt168.2.2, x157003, bt176.1, bt168.1, true))) else (none))) else ((box_first_int64.f t165).bind fun bt180 => (some (x157000, bt180.2, x157002, x157003, bt180.1, x159000, true)))))
def box_Recv.f (k : Nat) (a0_0 : Int) (l0_1 : List Int) (l0_2 : List (S65)) (l0_3 : List Int) (a1 : Int) : Option (Int × List Int × (List (S65)) × List Int × Int × Int × Bool) := if (l0_1.length : Int) = 0 then (box_Recv.j0 k a1 ((l0_2.length : Int) == 0) a0_0 l0_1 l0_2 l0_3 0 0) else (box_Recv.j0 k a1 false a0_0 l0_1 l0_2 l0_3 0 0)
theorem box_Recv.mono_l : ∀ k, (∀ y0 y1 y2 y3 y4 y5 y6 y7, LeO (box_Recv.j0 k y0 y1 y2 y3 y4 y5 y6 y7) (box_Recv.j0 (k + 1) y0 y1 y2 y3 y4 y5 y6 y7))
  | 0 => fun _ _ _ _ _ _ _ _ r h => by simp [box_Recv.j0] at h
  | k + 1 => by
    have ih0 := box_Recv.mono_l k
    · intro y0 y1 y2 y3 y4 y5 y6 y7
      unfold box_Recv.j0
      repeat' first
      | (with_reducible exact ih0 _ _ _ _ _ _ _ _)
      | (with_reducible exact LeO.refl _)
      | (with_reducible exact LeO.none _)
      | (with_reducible refine LeO.ite ?_ ?_)
      | (with_reducible refine LeO.bind ?_ (fun _ => ?_))
      | exact ih0 _ _ _ _ _ _ _ _
      | exact LeO.none _
      | refine LeO.ite ?_ ?_
      | refine LeO.bind ?_ (fun _ => ?_)
theorem box_Recv.mono : ∀ a0 a1 a2 a3 a4 k, LeO (box_Recv.f k a0 a1 a2 a3 a4) (box_Recv.f (k + 1) a0 a1 a2 a3 a4) := by
  intro a0 a1 a2 a3 a4 k
  have ih0 := box_Recv.mono_l k
  unfold box_Recv.f
  repeat' first
      | (with_reducible exact ih0 _ _ _ _ _ _ _ _)
      | (with_reducible exact LeO.refl _)
      | (with_reducible exact LeO.none _)
      | (with_reducible refine LeO.ite ?_ ?_)
      | (with_reducible refine LeO.bind ?_ (fun _ => ?_))
      | exact ih0 _ _ _ _ _ _ _ _
      | exact LeO.none _
      | refine LeO.ite ?_ ?_
      | refine LeO.bind ?_ (fun _ => ?_)
def box_Recv.T11 : Bool × List (List Nat × List Nat) := (true, [([], []), ([], []), ([], []), ([2], [2]), ([0, 0], [0]), ([1, 4, 0, 1, 4], [1]), ([3, 5, 0, 1, 2, 3, 4, 5], [3]), ([6, 0, 1, 2, 3, 4, 5, 6], [])])
def box_Recv.B11 : List Nat := [0, 0, 0, 4, 1, 19, 63, 127]
theorem box_Recv.tab11 : rtab .any (opsOf Try.f16 11) = box_Recv.T11 := by kernel_rfl
theorem box_Recv.bits11 : waitsOk box_Recv.T11.2 box_Recv.B11 = true := by kernel_rfl
set_option maxHeartbeats 8000000 in
set_option maxRecDepth 100000 in
theorem box_Recv.calls (k : Nat) (a0_0 : Int) (P0_1_ : Nat → Prop) (u9000_ : Value) (l0_1 : List Int) (P0_2_ : Nat → Prop) (u9001_ : Value) (l0_2 : List (S65)) (P0_3_ : Nat → Prop) (u9002_ : Value) (l0_3 : List Int) (a1 : Int) (r1 : Int) (r2 : List Int) (r3 : List (S65)) (r4 : List Int) (r5 : Int) (r6 : Int) (r7 : Bool) (w0 w : World) (hB : Below w0.heap.size w0 w) (ho0_1 : Kd.R (Kd.int .i64) 2 w w0.heap.size P0_1_ u9000_ l0_1) (ho0_2 : Kd.R k65 65 w w0.heap.size P0_2_ u9001_ l0_2) (ho0_3 : Kd.R (Kd.int .i64) 3 w w0.heap.size P0_3_ u9002_ l0_3) (h : box_Recv.f k a0_0 l0_1 l0_2 l0_3 a1 = some (r1, r2, r3, r4, r5, r6, r7)) :
    Calls Try.prog 16 #[.agg #[.int .i64 a0_0, u9000_, u9001_, u9002_], .int .i64 a1] w fun e w' => ∃ v1_ v2_ v3_ : Value, e = .returned (.tuple #[.agg #[.int .i64 r1, v1_, v2_, v3_], .int .i64 r5, .int .i64 r6, .bool r7]) ∧ Kd.R (Kd.int .i64) 2 w' w0.heap.size (fun k_ => ((P0_1_ k_ ∨ P0_2_ k_ ∨ P0_3_ k_) ∨ w.heap.size ≤ k_)) v1_ r2 ∧ Kd.R k65 65 w' w0.heap.size (fun k_ => ((P0_1_ k_ ∨ P0_2_ k_ ∨ P0_3_ k_) ∨ w.heap.size ≤ k_)) v2_ r3 ∧ Kd.R (Kd.int .i64) 3 w' w0.heap.size (fun k_ => ((P0_1_ k_ ∨ P0_2_ k_ ∨ P0_3_ k_) ∨ w.heap.size ≤ k_)) v3_ r4 ∧ Below w0.heap.size w0 w' ∧ Kept w w' (fun k_ => P0_1_ k_ ∨ P0_2_ k_ ∨ P0_3_ k_) := by
  have hu27 := Try.underlying27
  have hu65 := Try.underlying65
  have HO0_1 := Aside0.mk (show Kd.R (Kd.int .i64) 2 w w0.heap.size (fun k_ => ((P0_1_ k_ ∨ P0_2_ k_ ∨ P0_3_ k_) ∨ w.heap.size ≤ k_)) u9000_ l0_1 from Kd.R_mono ho0_1 (fun k_ hk => (.inl (.inl hk))))
  have HO0_2 := Aside0.mk (show Kd.R k65 65 w w0.heap.size (fun k_ => ((P0_1_ k_ ∨ P0_2_ k_ ∨ P0_3_ k_) ∨ w.heap.size ≤ k_)) u9001_ l0_2 from Kd.R_mono ho0_2 (fun k_ hk => (.inl (.inr (.inl hk)))))
  have HO0_3 := Aside0.mk (show Kd.R (Kd.int .i64) 3 w w0.heap.size (fun k_ => ((P0_1_ k_ ∨ P0_2_ k_ ∨ P0_3_ k_) ∨ w.heap.size ≤ k_)) u9002_ l0_3 from Kd.R_mono ho0_3 (fun k_ hk => (.inl (.inr (.inr hk)))))
  have HK := Aside0.mk (Kept.refl w (fun k_ => P0_1_ k_ ∨ P0_2_ k_ ∨ P0_3_ k_))
  have HW0 := Aside0.mk hB.size
  have HB := Aside0.mk hB
  clear hB
  have H : (if (l0_1.length : Int) = 0 then (box_Recv.j0 k a1 ((l0_2.length : Int) == 0) a0_0 l0_1 l0_2 l0_3 0 0) else (box_Recv.j0 k a1 false a0_0 l0_1 l0_2 l0_3 0 0)) = some (r1, r2, r3, r4, r5, r6, r7) := h
  clear h
  have HC3 := Aside0.mk H
  clear H
  obtain ⟨Ao4, co4, eo4⟩ := Kd.R_slice HO0_1.out
  subst eo4
  obtain ⟨Ao5, co5, eo5⟩ := Kd.R_slice HO0_2.out
  subst eo5
  obtain ⟨Ao6, co6, eo6⟩ := Kd.R_slice HO0_3.out
  subst eo6
  go_enter Try.func16, Try.ntmps16
  go_upto_region 2 with (first | ((with_reducible refine gate_dst (N := 2) rfl ?_); (try (refine gate_guard (by rfl) ?_; dsimp only)); refine box_event ?hg (N := 2) ?hd (cs := #[.int .i64 a0_0, .slice Ao4 l0_1.length co4, .slice Ao5 l0_2.length co5, .slice Ao6 l0_3.length co6]) (t := 27) ?hr ?_; (case hd => rfl); (case hg => rfl); (case hr => first | (go_simp; done) | (go_simp; rfl)); intro gb156 hg w7 hbox hb; have n0_ := Aside0.mk (Kd.R_below (by (with_reducible repeat (first | apply Kd.R_alloc | apply Kd.R_drewN | apply Kd.R_drew)); exact HO0_1.out) hb); have n1_ := Aside0.mk (Kd.R_below (by (with_reducible repeat (first | apply Kd.R_alloc | apply Kd.R_drewN | apply Kd.R_drew)); exact HO0_2.out) hb); have n2_ := Aside0.mk (Kd.R_below (by (with_reducible repeat (first | apply Kd.R_alloc | apply Kd.R_drewN | apply Kd.R_drew)); exact HO0_3.out) hb); have n3_ := Aside0.mk (Kept.below (S := (fun k_ => P0_1_ k_ ∨ P0_2_ k_ ∨ P0_3_ k_)) (by repeat (first | (with_reducible first | exact HK.out | apply Kept.alloc | apply Kept.drewN | apply Kept.drew) | exact HK.out)) hb); have n4_ := Aside0.mk (below_step (by repeat (first | (with_reducible first | exact HB.out | apply below_alloc | apply pw_below_drewN | apply below_drew1) | exact HB.out)) hb); have n5_ := Aside0.mk (hbox); have n6_ := Aside0.mk ((by rw [hg]; exact (by first | exact HK.out.1 | exact (show Kept w _ (fun k_ => P0_1_ k_ ∨ P0_2_ k_ ∨ P0_3_ k_) from by repeat (first | (with_reducible first | exact HK.out | apply Kept.alloc | apply Kept.drewN | apply Kept.drew) | exact HK.out)).1) : w.heap.size ≤ gb156)); have n7_ := Aside0.mk ((by rw [hg]; exact (below_size (by repeat (first | (with_reducible first | exact HB.out | apply below_alloc | apply pw_below_drewN | apply below_drew1) | exact HB.out))) : w0.heap.size ≤ gb156)); clear HO0_1; clear HO0_2; clear HO0_3; clear HK; clear HB; have HO0_1 := n0_; have HO0_2 := n1_; have HO0_3 := n2_; have HK := n3_; have HB := n4_; have BK156 := n5_; have GW156 := n6_; have GE156 := n7_; clear n0_ n1_ n2_ n3_ n4_ n5_ n6_ n7_; clear hb hbox hg) | ((with_reducible refine gate_dst (N := 4) rfl ?_); (try (refine gate_guard (by rfl) ?_; dsimp only)); refine box_event ?hg (N := 4) ?hd (cs := #[.int .i64 0, .slice none 0 0, .slice none 0 0, .slice none 0 0]) (t := 27) ?hr ?_; (case hd => rfl); (case hg => rfl); (case hr => first | (go_simp; done) | (go_simp; rfl)); intro gb157 hg w8 hbox hb; have n0_ := Aside0.mk (Kd.R_below (by (with_reducible repeat (first | apply Kd.R_alloc | apply Kd.R_drewN | apply Kd.R_drew)); exact HO0_1.out) hb); have n1_ := Aside0.mk (Kd.R_below (by (with_reducible repeat (first | apply Kd.R_alloc | apply Kd.R_drewN | apply Kd.R_drew)); exact HO0_2.out) hb); have n2_ := Aside0.mk (Kd.R_below (by (with_reducible repeat (first | apply Kd.R_alloc | apply Kd.R_drewN | apply Kd.R_drew)); exact HO0_3.out) hb); have n3_ := Aside0.mk (blk_below (g := gb156) (o := .cells #[.int .i64 a0_0, .slice Ao4 l0_1.length co4, .slice Ao5 l0_2.length co5, .slice Ao6 l0_3.length co6] 27 (0, 0)) (by (with_reducible repeat (first | refine blk_drewN ?_ _ | refine blk_drew ?_ | refine blk_alloc ?_ _)); exact BK156.out) hb); have n4_ := Aside0.mk (Kept.below (S := (fun k_ => P0_1_ k_ ∨ P0_2_ k_ ∨ P0_3_ k_)) (by repeat (first | (with_reducible first | exact HK.out | apply Kept.alloc | apply Kept.drewN | apply Kept.drew | refine Kept.setCell ?_ (.inr GW156.out) _) | exact HK.out)) hb); have n5_ := Aside0.mk (below_step (by repeat (first | (with_reducible first | exact HB.out | apply below_alloc | apply pw_below_drewN | apply below_drew1 | refine below_set ?_ GE156.out) | exact HB.out)) hb); have n6_ := Aside0.mk (hbox); have n7_ := Aside0.mk ((by rw [hg]; exact (by first | exact HK.out.1 | exact (show Kept w _ (fun k_ => P0_1_ k_ ∨ P0_2_ k_ ∨ P0_3_ k_) from by repeat (first | (with_reducible first | exact HK.out | apply Kept.alloc | apply Kept.drewN | apply Kept.drew | refine Kept.setCell ?_ (.inr GW156.out) _) | exact HK.out)).1) : w.heap.size ≤ gb157)); have n8_ := Aside0.mk ((by rw [hg]; exact (below_size (by repeat (first | (with_reducible first | exact HB.out | apply below_alloc | apply pw_below_drewN | apply below_drew1 | refine below_set ?_ GE156.out) | exact HB.out))) : w0.heap.size ≤ gb157)); have n9_ := Aside0.mk ((by rw [hg]; exact Nat.ne_of_lt (blk_lt (g := gb156) (o := .cells #[.int .i64 a0_0, .slice Ao4 l0_1.length co4, .slice Ao5 l0_2.length co5, .slice Ao6 l0_3.length co6] 27 (0, 0)) (by (with_reducible repeat (first | refine blk_drewN ?_ _ | refine blk_drew ?_ | refine blk_alloc ?_ _)); exact BK156.out)) : gb156 ≠ gb157)); have n10_ := Aside0.mk ((by rw [hg]; exact Nat.ne_of_gt (blk_lt (g := gb156) (o := .cells #[.int .i64 a0_0, .slice Ao4 l0_1.length co4, .slice Ao5 l0_2.length co5, .slice Ao6 l0_3.length co6] 27 (0, 0)) (by (with_reducible repeat (first | refine blk_drewN ?_ _ | refine blk_drew ?_ | refine blk_alloc ?_ _)); exact BK156.out)) : gb157 ≠ gb156)); clear HO0_1; clear HO0_2; clear HO0_3; clear BK156; clear HK; clear HB; have HO0_1 := n0_; have HO0_2 := n1_; have HO0_3 := n2_; have BK156 := n3_; have HK := n4_; have HB := n5_; have BK157 := n6_; have GW157 := n7_; have GE157 := n8_; have NB156_157 := n9_; have NB157_156 := n10_; clear n0_ n1_ n2_ n3_ n4_ n5_ n6_ n7_ n8_ n9_ n10_; clear hb hbox hg) | ((with_reducible refine gate_dst (N := 8) rfl ?_); (try (refine gate_guard (by rfl) ?_; dsimp only)); refine box_event ?hg (N := 8) ?hd (cs := #[.int .i64 0, .int .i64 0]) (t := 65) ?hr ?_; (case hd => rfl); (case hg => rfl); (case hr => first | (go_simp; done) | (go_simp; rfl)); intro gb158 hg w9 hbox hb; have n0_ := Aside0.mk (Kd.R_below (by (with_reducible repeat (first | apply Kd.R_alloc | apply Kd.R_drewN | apply Kd.R_drew)); exact HO0_1.out) hb); have n1_ := Aside0.mk (Kd.R_below (Kd.R_elderB (by (with_reducible repeat (first | apply Kd.R_alloc | apply Kd.R_drewN | apply Kd.R_drew)); exact HO0_2.out) gb158 (Nat.le_of_eq hg.symm)) hb); have n2_ := Aside0.mk (Kd.R_below (by (with_reducible repeat (first | apply Kd.R_alloc | apply Kd.R_drewN | apply Kd.R_drew)); exact HO0_3.out) hb); have n3_ := Aside0.mk (blk_below (g := gb156) (o := .cells #[.int .i64 a0_0, .slice Ao4 l0_1.length co4, .slice Ao5 l0_2.length co5, .slice Ao6 l0_3.length co6] 27 (0, 0)) (by (with_reducible repeat (first | refine blk_drewN ?_ _ | refine blk_drew ?_ | refine blk_alloc ?_ _)); exact BK156.out) hb); have n4_ := Aside0.mk (blk_below (g := gb157) (o := .cells #[.int .i64 0, .slice none 0 0, .slice none 0 0, .slice none 0 0] 27 (0, 0)) (by (with_reducible repeat (first | refine blk_drewN ?_ _ | refine blk_drew ?_ | refine blk_alloc ?_ _)); exact BK157.out) hb); have n5_ := Aside0.mk (Kept.below (S := (fun k_ => P0_1_ k_ ∨ P0_2_ k_ ∨ P0_3_ k_)) (by repeat (first | (with_reducible first | exact HK.out | apply Kept.alloc | apply Kept.drewN | apply Kept.drew | refine Kept.setCell ?_ (.inr GW156.out) _ | refine Kept.setCell ?_ (.inr GW157.out) _) | exact HK.out)) hb); have n6_ := Aside0.mk (below_step (by repeat (first | (with_reducible first | exact HB.out | apply below_alloc | apply pw_below_drewN | apply below_drew1 | refine below_set ?_ GE156.out | refine below_set ?_ GE157.out) | exact HB.out)) hb); have n7_ := Aside0.mk (hbox); have n8_ := Aside0.mk ((by rw [hg]; exact (by first | exact HK.out.1 | exact (show Kept w _ (fun k_ => P0_1_ k_ ∨ P0_2_ k_ ∨ P0_3_ k_) from by repeat (first | (with_reducible first | exact HK.out | apply Kept.alloc | apply Kept.drewN | apply Kept.drew | refine Kept.setCell ?_ (.inr GW156.out) _ | refine Kept.setCell ?_ (.inr GW157.out) _) | exact HK.out)).1) : w.heap.size ≤ gb158)); have n9_ := Aside0.mk ((by rw [hg]; exact (below_size (by repeat (first | (with_reducible first | exact HB.out | apply below_alloc | apply pw_below_drewN | apply below_drew1 | refine below_set ?_ GE156.out | refine below_set ?_ GE157.out) | exact HB.out))) : w0.heap.size ≤ gb158)); have n10_ := Aside0.mk ((by rw [hg]; exact Nat.ne_of_lt (blk_lt (g := gb156) (o := .cells #[.int .i64 a0_0, .slice Ao4 l0_1.length co4, .slice Ao5 l0_2.length co5, .slice Ao6 l0_3.length co6] 27 (0, 0)) (by (with_reducible repeat (first | refine blk_drewN ?_ _ | refine blk_drew ?_ | refine blk_alloc ?_ _)); exact BK156.out)) : gb156 ≠ gb158)); have n11_ := Aside0.mk ((by rw [hg]; exact Nat.ne_of_gt (blk_lt (g := gb156) (o := .cells #[.int .i64 a0_0, .slice Ao4 l0_1.length co4, .slice Ao5 l0_2.length co5, .slice Ao6 l0_3.length co6] 27 (0, 0)) (by (with_reducible repeat (first | refine blk_drewN ?_ _ | refine blk_drew ?_ | refine blk_alloc ?_ _)); exact BK156.out)) : gb158 ≠ gb156)); have n12_ := Aside0.mk ((by rw [hg]; exact Nat.ne_of_lt (blk_lt (g := gb157) (o := .cells #[.int .i64 0, .slice none 0 0, .slice none 0 0, .slice none 0 0] 27 (0, 0)) (by (with_reducible repeat (first | refine blk_drewN ?_ _ | refine blk_drew ?_ | refine blk_alloc ?_ _)); exact BK157.out)) : gb157 ≠ gb158)); have n13_ := Aside0.mk ((by rw [hg]; exact Nat.ne_of_gt (blk_lt (g := gb157) (o := .cells #[.int .i64 0, .slice none 0 0, .slice none 0 0, .slice none 0 0] 27 (0, 0)) (by (with_reducible repeat (first | refine blk_drewN ?_ _ | refine blk_drew ?_ | refine blk_alloc ?_ _)); exact BK157.out)) : gb158 ≠ gb157)); clear HO0_1; clear HO0_2; clear HO0_3; clear BK156; clear BK157; clear HK; clear HB; have HO0_1 := n0_; have HO0_2 := n1_; have HO0_3 := n2_; have BK156 := n3_; have BK157 := n4_; have HK := n5_; have HB := n6_; have BK158 := n7_; have GW158 := n8_; have GE158 := n9_; have NB156_158 := n10_; have NB158_156 := n11_; have NB157_158 := n12_; have NB158_157 := n13_; clear n0_ n1_ n2_ n3_ n4_ n5_ n6_ n7_ n8_ n9_ n10_ n11_ n12_ n13_; clear hb hbox hg))
  (try simp only [Act.put, List.setIfInBounds_toArray, List.set_cons_zero, List.set_cons_succ])
  go_cut [21] (fun v21 wc => ∃ (kq : Nat) (x21_2 : Bool), v21 = .bool x21_2 ∧ Aside0 (box_Recv.j0 kq a1 x21_2 a0_0 l0_1 l0_2 l0_3 0 0 = some (r1, r2, r3, r4, r5, r6, r7)) ∧ Aside0 (kq ≤ k) ∧ Aside0 (Kd.R (Kd.int .i64) 2 wc w0.heap.size (fun k_ => ((P0_1_ k_ ∨ P0_2_ k_ ∨ P0_3_ k_) ∨ w.heap.size ≤ k_)) (.slice Ao4 l0_1.length co4) l0_1) ∧ Aside0 (Kd.R k65 65 wc w0.heap.size (fun k_ => ((P0_1_ k_ ∨ P0_2_ k_ ∨ P0_3_ k_) ∨ w.heap.size ≤ k_) ∧ k_ ≠ gb158) (.slice Ao5 l0_2.length co5) l0_2) ∧ Aside0 (Kd.R (Kd.int .i64) 3 wc w0.heap.size (fun k_ => ((P0_1_ k_ ∨ P0_2_ k_ ∨ P0_3_ k_) ∨ w.heap.size ≤ k_)) (.slice Ao6 l0_3.length co6) l0_3) ∧ Aside0 (wc.heap[gb156]? = some (.cells #[.int .i64 a0_0, (.slice Ao4 l0_1.length co4), (.slice Ao5 l0_2.length co5), (.slice Ao6 l0_3.length co6)] 27 (0, 0))) ∧ Aside0 (wc.heap[gb157]? = some (.cells #[.int .i64 0, (.slice none 0 0), (.slice none 0 0), (.slice none 0 0)] 27 (0, 0))) ∧ Aside0 (wc.heap[gb158]? = some (.cells #[.int .i64 0, .int .i64 0] 65 (0, 0))) ∧ Aside0 (Kept w wc (fun k_ => P0_1_ k_ ∨ P0_2_ k_ ∨ P0_3_ k_)) ∧ Aside0 (Below w0.heap.size w0 wc))
  case first =>
    have H := HC3.out
    clear HC3
    by_cases c10 : (l0_1.length : Int) = 0
    · rw [if_pos c10] at H
      have c10b0 : ((l0_1.length : Int) == 0) = true := beq_iff_eq.mpr c10
      have c10b1 : ((l0_1.length : Int) != 0) = false := bne_eq_false_iff_eq.mpr c10
      clear c10
      (first | rw [c10b0] | (simp only [i64_w, i32_w]; rw [c10b0]) | skip)
      have H' := Aside0.mk H
      clear H
      have hnb11 := NB156_157.out
      have hnc11 := NB157_156.out
      have hnb12 := NB156_158.out
      have hnc12 := NB158_156.out
      have hcz13_0 : w9.cell? ⟨gb156, 0, none⟩ = some (.int .i64 a0_0) := (blk_cell BK156.out 0).trans rfl
      have hcz13_1 : w9.cell? ⟨gb156, 1, none⟩ = some (.slice Ao4 l0_1.length co4) := (blk_cell BK156.out 1).trans rfl
      have hcz13_2 : w9.cell? ⟨gb156, 2, none⟩ = some (.slice Ao5 l0_2.length co5) := (blk_cell BK156.out 2).trans rfl
      have hcz13_3 : w9.cell? ⟨gb156, 3, none⟩ = some (.slice Ao6 l0_3.length co6) := (blk_cell BK156.out 3).trans rfl
      have hfz13_0 := blk_frozen BK156.out 0
      have hfz13_1 := blk_frozen BK156.out 1
      have hfz13_2 := blk_frozen BK156.out 2
      have hfz13_3 := blk_frozen BK156.out 3
      go_wp2
      go_meet
      case rel => exact ⟨_, (((l0_2.length : Int) == 0)), (by first | rfl | (simp; done) | (simp [*]; done)), H', ⟨by first | omega | exact Nat.le_refl _⟩, ⟨by (with_reducible repeat (first | apply Kd.R_alloc | apply Kd.R_drewN | apply Kd.R_drew)); exact HO0_1.out⟩, ⟨by (with_reducible repeat (first | apply Kd.R_alloc | apply Kd.R_drewN | apply Kd.R_drew)); exact HO0_2.out⟩, ⟨by (with_reducible repeat (first | apply Kd.R_alloc | apply Kd.R_drewN | apply Kd.R_drew)); exact HO0_3.out⟩, ⟨by (with_reducible repeat (first | refine blk_drewN ?_ _ | refine blk_drew ?_ | refine blk_alloc ?_ _)); exact BK156.out⟩, ⟨by (with_reducible repeat (first | refine blk_drewN ?_ _ | refine blk_drew ?_ | refine blk_alloc ?_ _)); exact BK157.out⟩, ⟨by (with_reducible repeat (first | refine blk_drewN ?_ _ | refine blk_drew ?_ | refine blk_alloc ?_ _)); exact BK158.out⟩, ⟨by repeat (first | (with_reducible first | exact HK.out | apply Kept.alloc | apply Kept.drewN | apply Kept.drew | refine Kept.setCell ?_ (.inr GW156.out) _ | refine Kept.setCell ?_ (.inr GW157.out) _ | refine Kept.setCell ?_ (.inr GW158.out) _) | exact HK.out)⟩, ⟨by repeat (first | (with_reducible first | exact HB.out | apply below_alloc | apply pw_below_drewN | apply below_drew1 | refine below_set ?_ GE156.out | refine below_set ?_ GE157.out | refine below_set ?_ GE158.out) | exact HB.out)⟩⟩
    · rw [if_neg c10] at H
      have c10b0 : ((l0_1.length : Int) == 0) = false := beq_eq_false_iff_ne.mpr c10
      have c10b1 : ((l0_1.length : Int) != 0) = true := bne_iff_ne.mpr c10
      have c10b2 : ¬ (l0_1 = []) := fun h_ => c10 (by rw [h_]; rfl)
      (first | rw [c10b0] | (simp only [i64_w, i32_w]; rw [c10b0]) | skip)
      have H' := Aside0.mk H
      clear H
      have hnb14 := NB156_157.out
      have hnc14 := NB157_156.out
      have hnb15 := NB156_158.out
      have hnc15 := NB158_156.out
      have hcz16_0 : w9.cell? ⟨gb156, 0, none⟩ = some (.int .i64 a0_0) := (blk_cell BK156.out 0).trans rfl
      have hcz16_1 : w9.cell? ⟨gb156, 1, none⟩ = some (.slice Ao4 l0_1.length co4) := (blk_cell BK156.out 1).trans rfl
      have hcz16_2 : w9.cell? ⟨gb156, 2, none⟩ = some (.slice Ao5 l0_2.length co5) := (blk_cell BK156.out 2).trans rfl
      have hcz16_3 : w9.cell? ⟨gb156, 3, none⟩ = some (.slice Ao6 l0_3.length co6) := (blk_cell BK156.out 3).trans rfl
      have hfz16_0 := blk_frozen BK156.out 0
      have hfz16_1 := blk_frozen BK156.out 1
      have hfz16_2 := blk_frozen BK156.out 2
      have hfz16_3 := blk_frozen BK156.out 3
      go_wp2
      go_meet
      case rel => exact ⟨_, (false), (by first | rfl | (simp; done) | (simp [*]; done)), H', ⟨by first | omega | exact Nat.le_refl _⟩, ⟨by (with_reducible repeat (first | apply Kd.R_alloc | apply Kd.R_drewN | apply Kd.R_drew)); exact HO0_1.out⟩, ⟨by (with_reducible repeat (first | apply Kd.R_alloc | apply Kd.R_drewN | apply Kd.R_drew)); exact HO0_2.out⟩, ⟨by (with_reducible repeat (first | apply Kd.R_alloc | apply Kd.R_drewN | apply Kd.R_drew)); exact HO0_3.out⟩, ⟨by (with_reducible repeat (first | refine blk_drewN ?_ _ | refine blk_drew ?_ | refine blk_alloc ?_ _)); exact BK156.out⟩, ⟨by (with_reducible repeat (first | refine blk_drewN ?_ _ | refine blk_drew ?_ | refine blk_alloc ?_ _)); exact BK157.out⟩, ⟨by (with_reducible repeat (first | refine blk_drewN ?_ _ | refine blk_drew ?_ | refine blk_alloc ?_ _)); exact BK158.out⟩, ⟨by repeat (first | (with_reducible first | exact HK.out | apply Kept.alloc | apply Kept.drewN | apply Kept.drew | refine Kept.setCell ?_ (.inr GW156.out) _ | refine Kept.setCell ?_ (.inr GW157.out) _ | refine Kept.setCell ?_ (.inr GW158.out) _) | exact HK.out)⟩, ⟨by repeat (first | (with_reducible first | exact HB.out | apply below_alloc | apply pw_below_drewN | apply below_drew1 | refine below_set ?_ GE156.out | refine below_set ?_ GE157.out | refine below_set ?_ GE158.out) | exact HB.out)⟩⟩
  case rest =>
    clear HC3
    try clear c1
    try clear p2
    try clear c10
    try clear c10b0
    try clear c10b1
    try clear c10b2
    try clear c11
    try clear c12
    try clear c14
    try clear c15
    try clear c16
    try clear hcz13_0
    try clear hcz13_1
    try clear hcz13_2
    try clear hcz13_3
    try clear hcz16_0
    try clear hcz16_1
    try clear hcz16_2
    try clear hcz16_3
    try clear hfz13_0
    try clear hfz13_1
    try clear hfz13_2
    try clear hfz13_3
    try clear hfz16_0
    try clear hfz16_1
    try clear hfz16_2
    try clear hfz16_3
    obtain ⟨kq, x21_2, rfl, HA, HJ2, HO_157001, HO_157002, HO_157003, BK156, BK157, BK158, HK, HB⟩ := hcut
    cases kq with
    | zero => exact absurd HA.out (by simp [box_Recv.j0])
    | succ kj2 =>
      have H := HA.out
      clear HA
      simp only [box_Recv.j0] at H
      by_cases c17 : x21_2 = true
      · subst c17
        have H1 : ((slices_Clone_int_int.f l0_3).bind fun t159 => (if t159.length < 17592186044416 then (some (a0_0, l0_1, l0_2, (t159 ++ [a1]), 0, 0, false)) else (none))) = some (r1, r2, r3, r4, r5, r6, r7) := by rw [if_pos rfl] at H; exact H
        clear H
        have H := H1
        clear H1
        replace H := Option.bind_eq_some_iff.mp H
        obtain ⟨t159, A180, H⟩ := H
        replace H : (if t159.length < 17592186044416 then (some (a0_0, l0_1, l0_2, (t159 ++ [a1]), 0, 0, false)) else (none)) = some (r1, r2, r3, r4, r5, r6, r7) := H
        have A18 := Aside0.mk A180
        clear A180
        by_cases c19 : t159.length < 17592186044416
        · rw [if_pos c19] at H
          have LMc19 := Aside0.mk c19
          clear c19
          obtain ⟨y162, hy162⟩ : ∃ y_ : List Int, y_ = (t159 ++ [a1]) := ⟨_, rfl⟩
          replace H : (some (a0_0, l0_1, l0_2, y162, 0, 0, false)) = some (r1, r2, r3, r4, r5, r6, r7) := by first | (rw [hy162]; with_reducible exact H) | (have H2_ := (Option.bind_some _ _).symm.trans H; rw [hy162]; with_reducible exact H2_) | (have H2_ := (Option.bind_some _ _).symm.trans H; with_reducible exact H2_) | with_reducible exact H | (rw [hy162]; exact H) | exact H
          have Ny162 := Aside0.mk hy162
          clear hy162
          simp only [Option.some.injEq, Prod.mk.injEq] at H
          obtain ⟨rfl, rfl, rfl, rfl, rfl, rfl, rfl⟩ := H
          have hnb20 := NB156_157.out
          have hnc20 := NB157_156.out
          have hnb21 := NB156_158.out
          have hnc21 := NB158_156.out
          have hcz22_0 : wc.cell? ⟨gb156, 0, none⟩ = some (.int .i64 a0_0) := (blk_cell BK156.out 0).trans rfl
          have hcz22_1 : wc.cell? ⟨gb156, 1, none⟩ = some (.slice Ao4 l0_1.length co4) := (blk_cell BK156.out 1).trans rfl
          have hcz22_2 : wc.cell? ⟨gb156, 2, none⟩ = some (.slice Ao5 l0_2.length co5) := (blk_cell BK156.out 2).trans rfl
          have hcz22_3 : wc.cell? ⟨gb156, 3, none⟩ = some (.slice Ao6 l0_3.length co6) := (blk_cell BK156.out 3).trans rfl
          have hfz22_0 := blk_frozen BK156.out 0
          have hfz22_1 := blk_frozen BK156.out 1
          have hfz22_2 := blk_frozen BK156.out 2
          have hfz22_3 := blk_frozen BK156.out 3
          go_wp2_with (first | ((with_reducible refine gate_callee (f := 37) rfl ?_); refine goesL_ (some 24) rfl rfl Try.func37 (by kernel_rfl) rfl #[.slice Ao6 l0_3.length co6] rfl (by (try simp only [List.map_toArray, List.map_cons, List.map_nil]); first | done | rfl | (simp only [List.length_drop, List.length_take]; rfl)) ?_; (with_reducible refine (slices_Clone_int_int.calls _ _ l0_3 t159 _ ?side1 ?side2 A18.out).mono ?_); (case side1 => repeat (first | exact (Kd.R_reads' HO_157003.out).2.2 | (with_reducible refine Kd.C_alloc ?_ _) | (with_reducible refine Kd.C_drewN ?_ _) | (with_reducible refine Kd.C_drew ?_))); (case side2 => exact (Kd.R_reads' HO_157003.out).2.1); rintro e w23 ⟨v160, rfl, ho0, hb⟩; refine ⟨_, rfl, ?_⟩; have n0_ := Aside0.mk (Kd.R_below (by (with_reducible repeat (first | apply Kd.R_alloc | apply Kd.R_drewN | apply Kd.R_drew)); exact HO_157001.out) hb); have n1_ := Aside0.mk (Kd.R_below (by (with_reducible repeat (first | apply Kd.R_alloc | apply Kd.R_drewN | apply Kd.R_drew)); exact HO_157002.out) hb); have n2_ := Aside0.mk (Kd.R_elder' (by (with_reducible repeat (first | apply Kd.R_alloc | apply Kd.R_drewN | apply Kd.R_drew)); exact HO_157003.out) (Kd.R_base ho0) hb); have n3_ := Aside0.mk (Kd.R_lower (Kd.R_new' (Kd.R_newM (M := fun k_ => ((P0_1_ k_ ∨ P0_2_ k_ ∨ P0_3_ k_) ∨ w.heap.size ≤ k_)) ho0 (by first | exact HK.out.1 | exact (show Kept w _ (fun k_ => P0_1_ k_ ∨ P0_2_ k_ ∨ P0_3_ k_) from by repeat (first | (with_reducible first | exact HK.out | apply Kept.alloc | apply Kept.drewN | apply Kept.drew | refine Kept.setCell ?_ (.inr GW156.out) _ | refine Kept.setCell ?_ (.inr GW157.out) _ | refine Kept.setCell ?_ (.inr GW158.out) _) | exact HK.out)).1) (fun k_ h_ => .inr h_)) (Kd.R_lt (by (with_reducible repeat (first | apply Kd.R_alloc | apply Kd.R_drewN | apply Kd.R_drew)); exact HO_157003.out))) (below_size (by repeat (first | (with_reducible first | exact HB.out | apply below_alloc | apply pw_below_drewN | apply below_drew1 | refine below_set ?_ GE156.out | refine below_set ?_ GE157.out | refine below_set ?_ GE158.out) | exact HB.out)))); have n4_ := Aside0.mk (blk_below (g := gb156) (o := .cells #[.int .i64 a0_0, .slice Ao4 l0_1.length co4, .slice Ao5 l0_2.length co5, .slice Ao6 l0_3.length co6] 27 (0, 0)) (by (with_reducible repeat (first | refine blk_drewN ?_ _ | refine blk_drew ?_ | refine blk_alloc ?_ _)); exact BK156.out) hb); have n5_ := Aside0.mk (blk_below (g := gb157) (o := .cells #[.int .i64 0, .slice none 0 0, .slice none 0 0, .slice none 0 0] 27 (0, 0)) (by (with_reducible repeat (first | refine blk_drewN ?_ _ | refine blk_drew ?_ | refine blk_alloc ?_ _)); exact BK157.out) hb); have n6_ := Aside0.mk (blk_below (g := gb158) (o := .cells #[.int .i64 0, .int .i64 0] 65 (0, 0)) (by (with_reducible repeat (first | refine blk_drewN ?_ _ | refine blk_drew ?_ | refine blk_alloc ?_ _)); exact BK158.out) hb); have n7_ := Aside0.mk (Kept.below (S := (fun k_ => P0_1_ k_ ∨ P0_2_ k_ ∨ P0_3_ k_)) (by repeat (first | (with_reducible first | exact HK.out | apply Kept.alloc | apply Kept.drewN | apply Kept.drew | refine Kept.setCell ?_ (.inr GW156.out) _ | refine Kept.setCell ?_ (.inr GW157.out) _ | refine Kept.setCell ?_ (.inr GW158.out) _) | exact HK.out)) hb); have n8_ := Aside0.mk (below_step (by repeat (first | (with_reducible first | exact HB.out | apply below_alloc | apply pw_below_drewN | apply below_drew1 | refine below_set ?_ GE156.out | refine below_set ?_ GE157.out | refine below_set ?_ GE158.out) | exact HB.out)) hb); clear HO_157001; clear HO_157002; clear HO_157003; clear BK156; clear BK157; clear BK158; clear HK; clear HB; have HO_157001 := n0_; have HO_157002 := n1_; have HO_157003 := n2_; have HO161 := n3_; have BK156 := n4_; have BK157 := n5_; have BK158 := n6_; have HK := n7_; have HB := n8_; clear n0_ n1_ n2_ n3_ n4_ n5_ n6_ n7_ n8_; (try clear hb); (try clear hb2); (try clear hk); (try clear hi); (try clear ho0)) | ((with_reducible refine gate_builtin (b := .append) (xs := #[.tmp 24, .tmp 26]) rfl ?_); (try (refine gate_guard (by rfl) ?_; dsimp only)); at_builtin; refine Kd.R_append (Kd.int .i64) (w0 := w0) w0.heap.size rfl (.tmp 24) (.tmp 26) 25 3 (.int .i64 0) 8 rfl Try.underlying25 info3 rfl (by decide) (by omega) v160 t159 a1 [.int .i64 a1] (fun k_ => ((P0_1_ k_ ∨ P0_2_ k_ ∨ P0_3_ k_) ∨ w.heap.size ≤ k_) ∧ some k_ ≠ (.slice Ao6 l0_3.length co6 : Value).ownBlock) (fun _ => False) rfl rfl ?aP (fun _ hk => hk.elim) ?aF ?aO ?aB ?aS ?aL ?_; (case aP => exact rfl); (case aB => exact (by repeat (first | (with_reducible first | exact HB.out | apply below_alloc | apply pw_below_drewN | apply below_drew1 | refine below_set ?_ GE156.out | refine below_set ?_ GE157.out | refine below_set ?_ GE158.out) | exact HB.out))); (case aF => exact (fun k_ hk => ⟨(.inr (Nat.le_trans (by first | exact HK.out.1 | exact (show Kept w _ (fun k_ => P0_1_ k_ ∨ P0_2_ k_ ∨ P0_3_ k_) from by repeat (first | (with_reducible first | exact HK.out | apply Kept.alloc | apply Kept.drewN | apply Kept.drew | refine Kept.setCell ?_ (.inr GW156.out) _ | refine Kept.setCell ?_ (.inr GW157.out) _ | refine Kept.setCell ?_ (.inr GW158.out) _) | exact HK.out)).1) hk)), Kd.fresh' (Kd.R_lt (by (with_reducible repeat (first | apply Kd.R_alloc | apply Kd.R_drewN | apply Kd.R_drew)); exact HO_157003.out)) k_ hk⟩)); (case aO => exact (by (with_reducible repeat (first | apply Kd.R_alloc | apply Kd.R_drewN | apply Kd.R_drew)); exact Kd.R_mono HO161.out (fun _ hk => ⟨hk.1.1, hk.2⟩))); (case aS => exact (below_size (by repeat (first | (with_reducible first | exact HB.out | apply below_alloc | apply pw_below_drewN | apply below_drew1 | refine below_set ?_ GE156.out | refine below_set ?_ GE157.out | refine below_set ?_ GE158.out) | exact HB.out)))); (case aL => have := LMc19.out; omega); intro v163 w24 ho hb hg hat; rw [← Ny162.out] at ho; have n0_ := Aside0.mk (Kd.R_over' (by (with_reducible repeat (first | apply Kd.R_alloc | apply Kd.R_drewN | apply Kd.R_drew)); exact HO_157001.out) (Kd.R_typed (by (with_reducible repeat (first | apply Kd.R_alloc | apply Kd.R_drewN | apply Kd.R_drew)); exact HO161.out)) (by decide) hg); have n1_ := Aside0.mk (Kd.R_over' (by (with_reducible repeat (first | apply Kd.R_alloc | apply Kd.R_drewN | apply Kd.R_drew)); exact HO_157002.out) (Kd.R_typed (by (with_reducible repeat (first | apply Kd.R_alloc | apply Kd.R_drewN | apply Kd.R_drew)); exact HO161.out)) (by decide) hg); have n2_ := Aside0.mk (Kd.R_after (ok := (fun k_ => ((P0_1_ k_ ∨ P0_2_ k_ ∨ P0_3_ k_) ∨ w.heap.size ≤ k_))) (by (with_reducible repeat (first | apply Kd.R_alloc | apply Kd.R_drewN | apply Kd.R_drew)); exact HO_157003.out) hg hat); have n3_ := Aside0.mk (blk_grown (g := gb156) (o := .cells #[.int .i64 a0_0, .slice Ao4 l0_1.length co4, .slice Ao5 l0_2.length co5, .slice Ao6 l0_3.length co6] 27 (0, 0)) (by (with_reducible repeat (first | refine blk_drewN ?_ _ | refine blk_drew ?_ | refine blk_alloc ?_ _)); exact BK156.out) hg (Kd.R_ne HO161.out BK156.out (by decide))); have n4_ := Aside0.mk (blk_grown (g := gb157) (o := .cells #[.int .i64 0, .slice none 0 0, .slice none 0 0, .slice none 0 0] 27 (0, 0)) (by (with_reducible repeat (first | refine blk_drewN ?_ _ | refine blk_drew ?_ | refine blk_alloc ?_ _)); exact BK157.out) hg (Kd.R_ne HO161.out BK157.out (by decide))); have n5_ := Aside0.mk (blk_grown (g := gb158) (o := .cells #[.int .i64 0, .int .i64 0] 65 (0, 0)) (by (with_reducible repeat (first | refine blk_drewN ?_ _ | refine blk_drew ?_ | refine blk_alloc ?_ _)); exact BK158.out) hg (Kd.R_ne HO161.out BK158.out (by decide))); have n6_ := Aside0.mk (hb); have n7_ := Aside0.mk (Kept.of_grown (S := (fun k_ => P0_1_ k_ ∨ P0_2_ k_ ∨ P0_3_ k_)) hg (by repeat (first | (with_reducible first | exact HK.out | apply Kept.alloc | apply Kept.drewN | apply Kept.drew | refine Kept.setCell ?_ (.inr GW156.out) _ | refine Kept.setCell ?_ (.inr GW157.out) _ | refine Kept.setCell ?_ (.inr GW158.out) _) | exact HK.out)) (fun k_ e_ => (HO161.out.1 k_ e_).1.1)); have n8_ := Aside0.mk (ho); clear HO_157001; clear HO_157002; clear HO_157003; clear BK156; clear BK157; clear BK158; clear HB; clear HK; clear HO161; have HO_157001 := n0_; have HO_157002 := n1_; have HO_157003 := n2_; have BK156 := n3_; have BK157 := n4_; have BK158 := n5_; have HB := n6_; have HK := n7_; have HO164 := n8_; clear n0_ n1_ n2_ n3_ n4_ n5_ n6_ n7_ n8_; clear ho hb hg hat; obtain ⟨Ao25, co25, eo25⟩ := Kd.R_slice HO164.out; subst eo25; have hcz26_0 : w24.cell? ⟨gb156, 0, none⟩ = some (.int .i64 a0_0) := (blk_cell BK156.out 0).trans rfl; have hcz26_1 : w24.cell? ⟨gb156, 1, none⟩ = some (.slice Ao4 l0_1.length co4) := (blk_cell BK156.out 1).trans rfl; have hcz26_2 : w24.cell? ⟨gb156, 2, none⟩ = some (.slice Ao5 l0_2.length co5) := (blk_cell BK156.out 2).trans rfl; have hcz26_3 : w24.cell? ⟨gb156, 3, none⟩ = some (.slice Ao6 l0_3.length co6) := (blk_cell BK156.out 3).trans rfl; have hfz26_0 := blk_frozen BK156.out 0; have hfz26_1 := blk_frozen BK156.out 1; have hfz26_2 := blk_frozen BK156.out 2; have hfz26_3 := blk_frozen BK156.out 3; have hnb27 := NB157_158.out; have hnc27 := NB158_157.out; have hcz28_0 : w24.cell? ⟨gb157, 0, none⟩ = some (.int .i64 0) := (blk_cell BK157.out 0).trans rfl; have hcz28_1 : w24.cell? ⟨gb157, 1, none⟩ = some (.slice none 0 0) := (blk_cell BK157.out 1).trans rfl; have hcz28_2 : w24.cell? ⟨gb157, 2, none⟩ = some (.slice none 0 0) := (blk_cell BK157.out 2).trans rfl; have hcz28_3 : w24.cell? ⟨gb157, 3, none⟩ = some (.slice none 0 0) := (blk_cell BK157.out 3).trans rfl; have hfz28_0 := blk_frozen BK157.out 0; have hfz28_1 := blk_frozen BK157.out 1; have hfz28_2 := blk_frozen BK157.out 2; have hfz28_3 := blk_frozen BK157.out 3))
          refine bodyPost_ret (results_list (rs := [.cell 4 27, .tmp 5, .tmp 6, .tmp 7]) rfl (by simp) (.cell gb157 27 #[.int .i64 a0_0, .slice Ao4 l0_1.length co4, .slice Ao5 l0_2.length co5, .slice Ao25 y162.length co25] (0, 0) _ rfl (by (with_reducible repeat (first | refine blk_drewN ?_ _ | refine blk_drew ?_ | refine blk_alloc ?_ _)); refine blk_put (cs := #[.int .i64 a0_0, .slice Ao4 l0_1.length co4, .slice Ao5 l0_2.length co5, .slice none 0 0]) ?_ 3 _ rfl; (with_reducible repeat (first | refine blk_drewN ?_ _ | refine blk_drew ?_ | refine blk_alloc ?_ _)); refine blk_put (cs := #[.int .i64 a0_0, .slice Ao4 l0_1.length co4, .slice none 0 0, .slice none 0 0]) ?_ 2 _ rfl; (with_reducible repeat (first | refine blk_drewN ?_ _ | refine blk_drew ?_ | refine blk_alloc ?_ _)); refine blk_put (cs := #[.int .i64 a0_0, .slice none 0 0, .slice none 0 0, .slice none 0 0]) ?_ 1 _ rfl; (with_reducible repeat (first | refine blk_drewN ?_ _ | refine blk_drew ?_ | refine blk_alloc ?_ _)); refine blk_put (cs := #[.int .i64 0, .slice none 0 0, .slice none 0 0, .slice none 0 0]) ?_ 0 _ rfl; (with_reducible repeat (first | refine blk_drewN ?_ _ | refine blk_drew ?_ | refine blk_alloc ?_ _)); refine blk_far ?_ NB157_156.out _; (with_reducible repeat (first | refine blk_drewN ?_ _ | refine blk_drew ?_ | refine blk_alloc ?_ _)); exact BK157.out) Try.underlying27 rfl (by kernel_rfl) (.tmp (.tmp (.tmp .nil))))) rfl ?_
          exact ⟨_, _, _, by first | rfl | (simp [errW_none, errW_some] <;> rfl) | (simp [*, errW_none, errW_some] <;> rfl), by (with_reducible repeat (first | apply Kd.R_alloc | apply Kd.R_drewN | apply Kd.R_drew)); exact Kd.R_mono (Kd.R_far (p := ⟨gb157, 3, none⟩) (Kd.R_far (p := ⟨gb157, 2, none⟩) (Kd.R_far (p := ⟨gb157, 1, none⟩) (Kd.R_far (p := ⟨gb157, 0, none⟩) (Kd.R_far (p := ⟨gb156, 3, none⟩) (Kd.R_types (Kd.R_types HO_157001.out BK156.out (by decide)) BK157.out (by decide)) (fun _ hk => hk.1.2) (.slice Ao25 y162.length co25)) (fun _ hk => hk.2) (.int .i64 a0_0)) (fun _ hk => hk.2) (.slice Ao4 l0_1.length co4)) (fun _ hk => hk.2) (.slice Ao5 l0_2.length co5)) (fun _ hk => hk.2) (.slice Ao25 y162.length co25)) (fun _ hk => hk.1.1), by (with_reducible repeat (first | apply Kd.R_alloc | apply Kd.R_drewN | apply Kd.R_drew)); exact Kd.R_mono (Kd.R_far (p := ⟨gb157, 3, none⟩) (Kd.R_far (p := ⟨gb157, 2, none⟩) (Kd.R_far (p := ⟨gb157, 1, none⟩) (Kd.R_far (p := ⟨gb157, 0, none⟩) (Kd.R_far (p := ⟨gb156, 3, none⟩) (Kd.R_types (Kd.R_types HO_157002.out BK156.out (by decide)) BK157.out (by decide)) (fun _ hk => hk.1.2) (.slice Ao25 y162.length co25)) (fun _ hk => hk.2) (.int .i64 a0_0)) (fun _ hk => hk.2) (.slice Ao4 l0_1.length co4)) (fun _ hk => hk.2) (.slice Ao5 l0_2.length co5)) (fun _ hk => hk.2) (.slice Ao25 y162.length co25)) (fun _ hk => hk.1.1.1), by (with_reducible repeat (first | apply Kd.R_alloc | apply Kd.R_drewN | apply Kd.R_drew)); exact Kd.R_mono (Kd.R_far (p := ⟨gb157, 3, none⟩) (Kd.R_far (p := ⟨gb157, 2, none⟩) (Kd.R_far (p := ⟨gb157, 1, none⟩) (Kd.R_far (p := ⟨gb157, 0, none⟩) (Kd.R_far (p := ⟨gb156, 3, none⟩) (Kd.R_types (Kd.R_types HO164.out BK156.out (by decide)) BK157.out (by decide)) (fun _ hk => hk.1.2) (.slice Ao25 y162.length co25)) (fun _ hk => hk.2) (.int .i64 a0_0)) (fun _ hk => hk.2) (.slice Ao4 l0_1.length co4)) (fun _ hk => hk.2) (.slice Ao5 l0_2.length co5)) (fun _ hk => hk.2) (.slice Ao25 y162.length co25)) (fun _ hk => hk.1.1.1), by repeat (first | (with_reducible first | exact HB.out | apply below_alloc | apply pw_below_drewN | apply below_drew1 | refine below_set ?_ GE156.out | refine below_set ?_ GE157.out | refine below_set ?_ GE158.out) | exact HB.out), by repeat (first | (with_reducible first | exact HK.out | apply Kept.alloc | apply Kept.drewN | apply Kept.drew | refine Kept.setCell ?_ (.inr GW156.out) _ | refine Kept.setCell ?_ (.inr GW157.out) _ | refine Kept.setCell ?_ (.inr GW158.out) _) | exact HK.out)⟩
        · rw [if_neg c19] at H
          exact absurd H (by simp)
      · replace c17 := Bool.eq_false_iff.mpr c17
        subst c17
        have H1 : ((slices_Clone_int64_int64.f l0_1).bind fun t165 => (if (l0_2.length : Int) > 0 then ((box_Mail_38.f l0_2).bind fun bt168 => (if t165.length < 17592186044416 then ((box_first_int64.f (t165 ++ [bt168.2.1])).bind fun bt176 => (some (a0_0, bt176.2, bt168.2.2, l0_3, bt176.1, bt168.1, true))) else (none))) else ((box_first_int64.f t165).bind fun bt180 => (some (a0_0, bt180.2, l0_2, l0_3, bt180.1, 0, true))))) = some (r1, r2, r3, r4, r5, r6, r7) := by rw [if_neg (show ¬ (false = true) by decide)] at H; exact H
        clear H
        have H := H1
        clear H1
        replace H := Option.bind_eq_some_iff.mp H
        obtain ⟨t165, A290, H⟩ := H
        replace H : (if (l0_2.length : Int) > 0 then ((box_Mail_38.f l0_2).bind fun bt168 => (if t165.length < 17592186044416 then ((box_first_int64.f (t165 ++ [bt168.2.1])).bind fun bt176 => (some (a0_0, bt176.2, bt168.2.2, l0_3, bt176.1, bt168.1, true))) else (none))) else ((box_first_int64.f t165).bind fun bt180 => (some (a0_0, bt180.2, l0_2, l0_3, bt180.1, 0, true)))) = some (r1, r2, r3, r4, r5, r6, r7) := H
        have A29 := Aside0.mk A290
        clear A290
        by_cases c30 : (l0_2.length : Int) > 0
        · rw [if_pos c30] at H
          have c30b0 : decide (0 < (l0_2.length : Int)) = true := decide_eq_true c30
          have c30b1 : decide (0 < l0_2.length) = true := decide_eq_true (by omega)
          clear c30
          replace H := Option.bind_eq_some_iff.mp H
          obtain ⟨⟨t168, t169, t170⟩, A310, H⟩ := H
          replace H : (if t165.length < 17592186044416 then ((box_first_int64.f (t165 ++ [t169])).bind fun bt176 => (some (a0_0, bt176.2, t170, l0_3, bt176.1, t168, true))) else (none)) = some (r1, r2, r3, r4, r5, r6, r7) := H
          have A31 := Aside0.mk A310
          clear A310
          by_cases c32 : t165.length < 17592186044416
          · rw [if_pos c32] at H
            have LMc32 := Aside0.mk c32
            clear c32
            obtain ⟨y173, hy173⟩ : ∃ y_ : List Int, y_ = (t165 ++ [t169]) := ⟨_, rfl⟩
            replace H : ((box_first_int64.f y173).bind fun bt176 => (some (a0_0, bt176.2, t170, l0_3, bt176.1, t168, true))) = some (r1, r2, r3, r4, r5, r6, r7) := by first | (rw [hy173]; with_reducible exact H) | (have H2_ := (Option.bind_some _ _).symm.trans H; rw [hy173]; with_reducible exact H2_) | (have H2_ := (Option.bind_some _ _).symm.trans H; with_reducible exact H2_) | with_reducible exact H | (rw [hy173]; exact H) | exact H
            have Ny173 := Aside0.mk hy173
            clear hy173
            replace H := Option.bind_eq_some_iff.mp H
            obtain ⟨⟨t176, t177⟩, A330, H⟩ := H
            replace H : (some (a0_0, t177, t170, l0_3, t176, t168, true)) = some (r1, r2, r3, r4, r5, r6, r7) := H
            have A33 := Aside0.mk A330
            clear A330
            simp only [Option.some.injEq, Prod.mk.injEq] at H
            obtain ⟨rfl, rfl, rfl, rfl, rfl, rfl, rfl⟩ := H
            have hnb34 := NB156_157.out
            have hnc34 := NB157_156.out
            have hnb35 := NB156_158.out
            have hnc35 := NB158_156.out
            have hcz36_0 : wc.cell? ⟨gb156, 0, none⟩ = some (.int .i64 a0_0) := (blk_cell BK156.out 0).trans rfl
            have hcz36_1 : wc.cell? ⟨gb156, 1, none⟩ = some (.slice Ao4 l0_1.length co4) := (blk_cell BK156.out 1).trans rfl
            have hcz36_2 : wc.cell? ⟨gb156, 2, none⟩ = some (.slice Ao5 l0_2.length co5) := (blk_cell BK156.out 2).trans rfl
            have hcz36_3 : wc.cell? ⟨gb156, 3, none⟩ = some (.slice Ao6 l0_3.length co6) := (blk_cell BK156.out 3).trans rfl
            have hfz36_0 := blk_frozen BK156.out 0
            have hfz36_1 := blk_frozen BK156.out 1
            have hfz36_2 := blk_frozen BK156.out 2
            have hfz36_3 := blk_frozen BK156.out 3
            try go_wp2_with (first | ((with_reducible refine gate_callee (f := 35) rfl ?_); refine goesL_ (some 32) rfl rfl Try.func35 (by kernel_rfl) rfl #[.slice Ao4 l0_1.length co4] rfl (by (try simp only [List.map_toArray, List.map_cons, List.map_nil]); first | done | rfl | (simp only [List.length_drop, List.length_take]; rfl)) ?_; (with_reducible refine (slices_Clone_int64_int64.calls _ _ l0_1 t165 _ ?side1 ?side2 A29.out).mono ?_); (case side1 => repeat (first | exact (Kd.R_reads' HO_157001.out).2.2 | (with_reducible refine Kd.C_alloc ?_ _) | (with_reducible refine Kd.C_drewN ?_ _) | (with_reducible refine Kd.C_drew ?_))); (case side2 => exact (Kd.R_reads' HO_157001.out).2.1); rintro e w37 ⟨v166, rfl, ho0, hb⟩; refine ⟨_, rfl, ?_⟩; have n0_ := Aside0.mk (Kd.R_elder' (by (with_reducible repeat (first | apply Kd.R_alloc | apply Kd.R_drewN | apply Kd.R_drew)); exact HO_157001.out) (Kd.R_base ho0) hb); have n1_ := Aside0.mk (Kd.R_below (by (with_reducible repeat (first | apply Kd.R_alloc | apply Kd.R_drewN | apply Kd.R_drew)); exact HO_157002.out) hb); have n2_ := Aside0.mk (Kd.R_below (by (with_reducible repeat (first | apply Kd.R_alloc | apply Kd.R_drewN | apply Kd.R_drew)); exact HO_157003.out) hb); have n3_ := Aside0.mk (Kd.R_lower (Kd.R_new' (Kd.R_newM (M := fun k_ => ((P0_1_ k_ ∨ P0_2_ k_ ∨ P0_3_ k_) ∨ w.heap.size ≤ k_)) ho0 (by first | exact HK.out.1 | exact (show Kept w _ (fun k_ => P0_1_ k_ ∨ P0_2_ k_ ∨ P0_3_ k_) from by repeat (first | (with_reducible first | exact HK.out | apply Kept.alloc | apply Kept.drewN | apply Kept.drew | refine Kept.setCell ?_ (.inr GW156.out) _ | refine Kept.setCell ?_ (.inr GW157.out) _ | refine Kept.setCell ?_ (.inr GW158.out) _) | exact HK.out)).1) (fun k_ h_ => .inr h_)) (Kd.R_lt (by (with_reducible repeat (first | apply Kd.R_alloc | apply Kd.R_drewN | apply Kd.R_drew)); exact HO_157001.out))) (below_size (by repeat (first | (with_reducible first | exact HB.out | apply below_alloc | apply pw_below_drewN | apply below_drew1 | refine below_set ?_ GE156.out | refine below_set ?_ GE157.out | refine below_set ?_ GE158.out) | exact HB.out)))); have n4_ := Aside0.mk (blk_below (g := gb156) (o := .cells #[.int .i64 a0_0, .slice Ao4 l0_1.length co4, .slice Ao5 l0_2.length co5, .slice Ao6 l0_3.length co6] 27 (0, 0)) (by (with_reducible repeat (first | refine blk_drewN ?_ _ | refine blk_drew ?_ | refine blk_alloc ?_ _)); exact BK156.out) hb); have n5_ := Aside0.mk (blk_below (g := gb157) (o := .cells #[.int .i64 0, .slice none 0 0, .slice none 0 0, .slice none 0 0] 27 (0, 0)) (by (with_reducible repeat (first | refine blk_drewN ?_ _ | refine blk_drew ?_ | refine blk_alloc ?_ _)); exact BK157.out) hb); have n6_ := Aside0.mk (blk_below (g := gb158) (o := .cells #[.int .i64 0, .int .i64 0] 65 (0, 0)) (by (with_reducible repeat (first | refine blk_drewN ?_ _ | refine blk_drew ?_ | refine blk_alloc ?_ _)); exact BK158.out) hb); have n7_ := Aside0.mk (Kept.below (S := (fun k_ => P0_1_ k_ ∨ P0_2_ k_ ∨ P0_3_ k_)) (by repeat (first | (with_reducible first | exact HK.out | apply Kept.alloc | apply Kept.drewN | apply Kept.drew | refine Kept.setCell ?_ (.inr GW156.out) _ | refine Kept.setCell ?_ (.inr GW157.out) _ | refine Kept.setCell ?_ (.inr GW158.out) _) | exact HK.out)) hb); have n8_ := Aside0.mk (below_step (by repeat (first | (with_reducible first | exact HB.out | apply below_alloc | apply pw_below_drewN | apply below_drew1 | refine below_set ?_ GE156.out | refine below_set ?_ GE157.out | refine below_set ?_ GE158.out) | exact HB.out)) hb); clear HO_157001; clear HO_157002; clear HO_157003; clear BK156; clear BK157; clear BK158; clear HK; clear HB; have HO_157001 := n0_; have HO_157002 := n1_; have HO_157003 := n2_; have HO167 := n3_; have BK156 := n4_; have BK157 := n5_; have BK158 := n6_; have HK := n7_; have HB := n8_; clear n0_ n1_ n2_ n3_ n4_ n5_ n6_ n7_ n8_; (try clear hb); (try clear hb2); (try clear hk); (try clear hi); (try clear ho0); have hcz38_0 : w37.cell? ⟨gb156, 0, none⟩ = some (.int .i64 a0_0) := (blk_cell BK156.out 0).trans rfl; have hcz38_1 : w37.cell? ⟨gb156, 1, none⟩ = some (.slice Ao4 l0_1.length co4) := (blk_cell BK156.out 1).trans rfl; have hcz38_2 : w37.cell? ⟨gb156, 2, none⟩ = some (.slice Ao5 l0_2.length co5) := (blk_cell BK156.out 2).trans rfl; have hcz38_3 : w37.cell? ⟨gb156, 3, none⟩ = some (.slice Ao6 l0_3.length co6) := (blk_cell BK156.out 3).trans rfl; have hfz38_0 := blk_frozen BK156.out 0; have hfz38_1 := blk_frozen BK156.out 1; have hfz38_2 := blk_frozen BK156.out 2; have hfz38_3 := blk_frozen BK156.out 3) | ((with_reducible refine gate_callee (f := 38) rfl ?_); refine goesL_ (some 40) rfl rfl Try.func38 (by kernel_rfl) rfl #[.slice Ao5 l0_2.length co5] rfl (by (try simp only [List.map_toArray, List.map_cons, List.map_nil]); first | done | rfl | (simp only [List.length_drop, List.length_take]; rfl)) ?_; (with_reducible refine (box_Mail_38.calls _ _ l0_2 t168 t169 t170 _ ?side1 ?side2 A31.out).mono ?_); (case side1 => repeat (first | exact (Kd.R_reads' HO_157002.out).2.2 | (with_reducible refine Kd.C_alloc ?_ _) | (with_reducible refine Kd.C_drewN ?_ _) | (with_reducible refine Kd.C_drew ?_))); (case side2 => exact (Kd.R_reads' HO_157002.out).2.1); rintro e w39 ⟨v171, rfl, ho0, hb⟩; refine ⟨_, rfl, ?_⟩; have n0_ := Aside0.mk (Kd.R_below (by (with_reducible repeat (first | apply Kd.R_alloc | apply Kd.R_drewN | apply Kd.R_drew)); exact HO_157001.out) hb); have n1_ := Aside0.mk (Kd.R_elder' (by (with_reducible repeat (first | apply Kd.R_alloc | apply Kd.R_drewN | apply Kd.R_drew)); exact HO_157002.out) (Kd.R_base ho0) hb); have n2_ := Aside0.mk (Kd.R_below (by (with_reducible repeat (first | apply Kd.R_alloc | apply Kd.R_drewN | apply Kd.R_drew)); exact HO_157003.out) hb); have n3_ := Aside0.mk (Kd.R_below (by (with_reducible repeat (first | apply Kd.R_alloc | apply Kd.R_drewN | apply Kd.R_drew)); exact HO167.out) hb); have n4_ := Aside0.mk (Kd.R_lower (Kd.R_newB (Kd.R_new' (Kd.R_newM (M := fun k_ => ((P0_1_ k_ ∨ P0_2_ k_ ∨ P0_3_ k_) ∨ w.heap.size ≤ k_)) ho0 (by first | exact HK.out.1 | exact (show Kept w _ (fun k_ => P0_1_ k_ ∨ P0_2_ k_ ∨ P0_3_ k_) from by repeat (first | (with_reducible first | exact HK.out | apply Kept.alloc | apply Kept.drewN | apply Kept.drew | refine Kept.setCell ?_ (.inr GW156.out) _ | refine Kept.setCell ?_ (.inr GW157.out) _ | refine Kept.setCell ?_ (.inr GW158.out) _) | exact HK.out)).1) (fun k_ h_ => .inr h_)) (Kd.R_lt (by (with_reducible repeat (first | apply Kd.R_alloc | apply Kd.R_drewN | apply Kd.R_drew)); exact HO_157002.out))) (g := gb158) (o := .cells #[.int .i64 0, .int .i64 0] 65 (0, 0)) (by (with_reducible repeat (first | refine blk_drewN ?_ _ | refine blk_drew ?_ | refine blk_alloc ?_ _)); exact BK158.out)) (below_size (by repeat (first | (with_reducible first | exact HB.out | apply below_alloc | apply pw_below_drewN | apply below_drew1 | refine below_set ?_ GE156.out | refine below_set ?_ GE157.out | refine below_set ?_ GE158.out) | exact HB.out)))); have n5_ := Aside0.mk (blk_below (g := gb156) (o := .cells #[.int .i64 a0_0, .slice Ao4 l0_1.length co4, .slice Ao5 l0_2.length co5, .slice Ao6 l0_3.length co6] 27 (0, 0)) (by (with_reducible repeat (first | refine blk_drewN ?_ _ | refine blk_drew ?_ | refine blk_alloc ?_ _)); exact BK156.out) hb); have n6_ := Aside0.mk (blk_below (g := gb157) (o := .cells #[.int .i64 0, .slice none 0 0, .slice none 0 0, .slice none 0 0] 27 (0, 0)) (by (with_reducible repeat (first | refine blk_drewN ?_ _ | refine blk_drew ?_ | refine blk_alloc ?_ _)); exact BK157.out) hb); have n7_ := Aside0.mk (blk_below (g := gb158) (o := .cells #[.int .i64 0, .int .i64 0] 65 (0, 0)) (by (with_reducible repeat (first | refine blk_drewN ?_ _ | refine blk_drew ?_ | refine blk_alloc ?_ _)); exact BK158.out) hb); have n8_ := Aside0.mk (Kept.below (S := (fun k_ => P0_1_ k_ ∨ P0_2_ k_ ∨ P0_3_ k_)) (by repeat (first | (with_reducible first | exact HK.out | apply Kept.alloc | apply Kept.drewN | apply Kept.drew | refine Kept.setCell ?_ (.inr GW156.out) _ | refine Kept.setCell ?_ (.inr GW157.out) _ | refine Kept.setCell ?_ (.inr GW158.out) _) | exact HK.out)) hb); have n9_ := Aside0.mk (below_step (by repeat (first | (with_reducible first | exact HB.out | apply below_alloc | apply pw_below_drewN | apply below_drew1 | refine below_set ?_ GE156.out | refine below_set ?_ GE157.out | refine below_set ?_ GE158.out) | exact HB.out)) hb); clear HO_157001; clear HO_157002; clear HO_157003; clear HO167; clear BK156; clear BK157; clear BK158; clear HK; clear HB; have HO_157001 := n0_; have HO_157002 := n1_; have HO_157003 := n2_; have HO167 := n3_; have HO172 := n4_; have BK156 := n5_; have BK157 := n6_; have BK158 := n7_; have HK := n8_; have HB := n9_; clear n0_ n1_ n2_ n3_ n4_ n5_ n6_ n7_ n8_ n9_; (try clear hb); (try clear hb2); (try clear hk); (try clear hi); (try clear ho0); have hnb40 := NB158_157.out; have hnc40 := NB157_158.out; have hcz41_0 : w39.cell? ⟨gb158, 0, none⟩ = some (.int .i64 0) := (blk_cell BK158.out 0).trans rfl; have hcz41_1 : w39.cell? ⟨gb158, 1, none⟩ = some (.int .i64 0) := (blk_cell BK158.out 1).trans rfl; have hfz41_0 := blk_frozen BK158.out 0; have hfz41_1 := blk_frozen BK158.out 1; obtain ⟨Ao42, co42, eo42⟩ := Kd.R_slice HO172.out; subst eo42; have hcz43_0 : w39.cell? ⟨gb156, 0, none⟩ = some (.int .i64 a0_0) := (blk_cell BK156.out 0).trans rfl; have hcz43_1 : w39.cell? ⟨gb156, 1, none⟩ = some (.slice Ao4 l0_1.length co4) := (blk_cell BK156.out 1).trans rfl; have hcz43_2 : w39.cell? ⟨gb156, 2, none⟩ = some (.slice Ao5 l0_2.length co5) := (blk_cell BK156.out 2).trans rfl; have hcz43_3 : w39.cell? ⟨gb156, 3, none⟩ = some (.slice Ao6 l0_3.length co6) := (blk_cell BK156.out 3).trans rfl; have hfz43_0 := blk_frozen BK156.out 0; have hfz43_1 := blk_frozen BK156.out 1; have hfz43_2 := blk_frozen BK156.out 2; have hfz43_3 := blk_frozen BK156.out 3) | ((with_reducible refine gate_builtin (b := .append) (xs := #[.tmp 44, .tmp 47]) rfl ?_); (try (refine gate_guard (by rfl) ?_; dsimp only)); at_builtin; refine Kd.R_append (Kd.int .i64) (w0 := w0) w0.heap.size rfl (.tmp 44) (.tmp 47) 23 2 (.int .i64 0) 8 rfl Try.underlying23 info2 rfl (by decide) (by omega) v166 t165 t169 [.int .i64 t169] (fun k_ => ((P0_1_ k_ ∨ P0_2_ k_ ∨ P0_3_ k_) ∨ w.heap.size ≤ k_) ∧ some k_ ≠ (.slice Ao4 l0_1.length co4 : Value).ownBlock) (fun _ => False) rfl (by first | (go_simp; done) | (go_simp; rfl)) ?aP (fun _ hk => hk.elim) ?aF ?aO ?aB ?aS ?aL ?_; (case aP => exact rfl); (case aB => exact (by repeat (first | (with_reducible first | exact HB.out | apply below_alloc | apply pw_below_drewN | apply below_drew1 | refine below_set ?_ GE156.out | refine below_set ?_ GE157.out | refine below_set ?_ GE158.out) | exact HB.out))); (case aF => exact (fun k_ hk => ⟨(.inr (Nat.le_trans (show Kept w _ (fun k_ => P0_1_ k_ ∨ P0_2_ k_ ∨ P0_3_ k_) from by repeat (first | (with_reducible first | exact HK.out | apply Kept.alloc | apply Kept.drewN | apply Kept.drew | refine Kept.setCell ?_ (.inr GW156.out) _ | refine Kept.setCell ?_ (.inr GW157.out) _ | refine Kept.setCell ?_ (.inr GW158.out) _) | exact HK.out)).1 hk)), Kd.fresh' (Kd.R_lt (by (with_reducible repeat (first | apply Kd.R_alloc | apply Kd.R_drewN | apply Kd.R_drew)); exact (Kd.R_mono (Kd.R_mono (Kd.R_far (p := ⟨gb156, 2, none⟩) (Kd.R_far (p := ⟨gb158, 1, none⟩) (Kd.R_far (p := ⟨gb158, 0, none⟩) (Kd.R_types (Kd.R_types HO_157001.out BK158.out (by decide)) BK156.out (by decide)) (fun _ hk => hk.1.2) (.int .i64 t168)) (fun _ hk => hk.1.2) (.int .i64 t169)) (fun _ hk => hk.2) (.slice Ao42 t170.length co42)) (fun _ h_ => h_.1)) (fun _ h_ => h_.1)))) k_ hk⟩)); (case aO => exact (by (with_reducible repeat (first | apply Kd.R_alloc | apply Kd.R_drewN | apply Kd.R_drew)); exact Kd.R_mono (Kd.R_far (p := ⟨gb156, 2, none⟩) (Kd.R_far (p := ⟨gb158, 1, none⟩) (Kd.R_far (p := ⟨gb158, 0, none⟩) (Kd.R_types (Kd.R_types HO167.out BK158.out (by decide)) BK156.out (by decide)) (fun _ hk => hk.1.2) (.int .i64 t168)) (fun _ hk => hk.1.2) (.int .i64 t169)) (fun _ hk => hk.2) (.slice Ao42 t170.length co42)) (fun _ hk => ⟨hk.1.1.1.1, hk.1.1.2⟩))); (case aS => exact (below_size (by repeat (first | (with_reducible first | exact HB.out | apply below_alloc | apply pw_below_drewN | apply below_drew1 | refine below_set ?_ GE156.out | refine below_set ?_ GE157.out | refine below_set ?_ GE158.out) | exact HB.out)))); (case aL => have := LMc32.out; omega); intro v174 w44 ho hb hg hat; rw [← Ny173.out] at ho; have n0_ := Aside0.mk (Kd.R_after (ok := (fun k_ => ((P0_1_ k_ ∨ P0_2_ k_ ∨ P0_3_ k_) ∨ w.heap.size ≤ k_))) (by (with_reducible repeat (first | apply Kd.R_alloc | apply Kd.R_drewN | apply Kd.R_drew)); exact Kd.R_mono (Kd.R_far (p := ⟨gb156, 2, none⟩) (Kd.R_far (p := ⟨gb158, 1, none⟩) (Kd.R_far (p := ⟨gb158, 0, none⟩) (Kd.R_types (Kd.R_types HO_157001.out BK158.out (by decide)) BK156.out (by decide)) (fun _ hk => hk.1.2) (.int .i64 t168)) (fun _ hk => hk.1.2) (.int .i64 t169)) (fun _ hk => hk.2) (.slice Ao42 t170.length co42)) (fun _ hk => ⟨hk.1.1.1, hk.1.1.2⟩)) hg hat); have n1_ := Aside0.mk (Kd.R_over' (by (with_reducible repeat (first | apply Kd.R_alloc | apply Kd.R_drewN | apply Kd.R_drew)); exact (Kd.R_mono (Kd.R_mono (Kd.R_far (p := ⟨gb156, 2, none⟩) (Kd.R_far (p := ⟨gb158, 1, none⟩) (Kd.R_far (p := ⟨gb158, 0, none⟩) (Kd.R_types (Kd.R_mono HO_157002.out (fun k_ hk => (⟨hk, hk.1.2⟩ : _ ∧ k_ ≠ gb158))) BK156.out (by decide)) (fun _ hk => hk.1.2) (.int .i64 t168)) (fun _ hk => hk.1.2) (.int .i64 t169)) (fun _ hk => hk.2) (.slice Ao42 t170.length co42)) (fun _ h_ => h_.1)) (fun _ h_ => h_.1))) (Kd.R_typed (by (with_reducible repeat (first | apply Kd.R_alloc | apply Kd.R_drewN | apply Kd.R_drew)); exact (Kd.R_mono (Kd.R_mono (Kd.R_far (p := ⟨gb156, 2, none⟩) (Kd.R_far (p := ⟨gb158, 1, none⟩) (Kd.R_far (p := ⟨gb158, 0, none⟩) (Kd.R_types (Kd.R_types HO167.out BK158.out (by decide)) BK156.out (by decide)) (fun _ hk => hk.1.2) (.int .i64 t168)) (fun _ hk => hk.1.2) (.int .i64 t169)) (fun _ hk => hk.2) (.slice Ao42 t170.length co42)) (fun _ h_ => h_.1)) (fun _ h_ => h_.1)))) (by decide) hg); have n2_ := Aside0.mk (Kd.R_over' (by (with_reducible repeat (first | apply Kd.R_alloc | apply Kd.R_drewN | apply Kd.R_drew)); exact (Kd.R_mono (Kd.R_mono (Kd.R_far (p := ⟨gb156, 2, none⟩) (Kd.R_far (p := ⟨gb158, 1, none⟩) (Kd.R_far (p := ⟨gb158, 0, none⟩) (Kd.R_types (Kd.R_types HO_157003.out BK158.out (by decide)) BK156.out (by decide)) (fun _ hk => hk.1.2) (.int .i64 t168)) (fun _ hk => hk.1.2) (.int .i64 t169)) (fun _ hk => hk.2) (.slice Ao42 t170.length co42)) (fun _ h_ => h_.1)) (fun _ h_ => h_.1))) (Kd.R_typed (by (with_reducible repeat (first | apply Kd.R_alloc | apply Kd.R_drewN | apply Kd.R_drew)); exact (Kd.R_mono (Kd.R_mono (Kd.R_far (p := ⟨gb156, 2, none⟩) (Kd.R_far (p := ⟨gb158, 1, none⟩) (Kd.R_far (p := ⟨gb158, 0, none⟩) (Kd.R_types (Kd.R_types HO167.out BK158.out (by decide)) BK156.out (by decide)) (fun _ hk => hk.1.2) (.int .i64 t168)) (fun _ hk => hk.1.2) (.int .i64 t169)) (fun _ hk => hk.2) (.slice Ao42 t170.length co42)) (fun _ h_ => h_.1)) (fun _ h_ => h_.1)))) (by decide) hg); have n3_ := Aside0.mk (blk_grown (g := gb156) (o := .cells #[.int .i64 a0_0, .slice Ao4 l0_1.length co4, .slice Ao42 t170.length co42, .slice Ao6 l0_3.length co6] 27 (0, 0)) (by (with_reducible repeat (first | refine blk_drewN ?_ _ | refine blk_drew ?_ | refine blk_alloc ?_ _)); refine blk_put (cs := #[.int .i64 a0_0, .slice Ao4 l0_1.length co4, .slice Ao5 l0_2.length co5, .slice Ao6 l0_3.length co6]) ?_ 2 _ rfl; (with_reducible repeat (first | refine blk_drewN ?_ _ | refine blk_drew ?_ | refine blk_alloc ?_ _)); refine blk_far ?_ NB156_158.out _; (with_reducible repeat (first | refine blk_drewN ?_ _ | refine blk_drew ?_ | refine blk_alloc ?_ _)); refine blk_far ?_ NB156_158.out _; (with_reducible repeat (first | refine blk_drewN ?_ _ | refine blk_drew ?_ | refine blk_alloc ?_ _)); exact BK156.out) hg (Kd.R_ne HO167.out BK156.out (by decide))); have n4_ := Aside0.mk (blk_grown (g := gb157) (o := .cells #[.int .i64 0, .slice none 0 0, .slice none 0 0, .slice none 0 0] 27 (0, 0)) (by (with_reducible repeat (first | refine blk_drewN ?_ _ | refine blk_drew ?_ | refine blk_alloc ?_ _)); refine blk_far ?_ NB157_156.out _; (with_reducible repeat (first | refine blk_drewN ?_ _ | refine blk_drew ?_ | refine blk_alloc ?_ _)); refine blk_far ?_ NB157_158.out _; (with_reducible repeat (first | refine blk_drewN ?_ _ | refine blk_drew ?_ | refine blk_alloc ?_ _)); refine blk_far ?_ NB157_158.out _; (with_reducible repeat (first | refine blk_drewN ?_ _ | refine blk_drew ?_ | refine blk_alloc ?_ _)); exact BK157.out) hg (Kd.R_ne HO167.out BK157.out (by decide))); have n5_ := Aside0.mk (blk_grown (g := gb158) (o := .cells #[.int .i64 t168, .int .i64 t169] 65 (0, 0)) (by (with_reducible repeat (first | refine blk_drewN ?_ _ | refine blk_drew ?_ | refine blk_alloc ?_ _)); refine blk_far ?_ NB158_156.out _; (with_reducible repeat (first | refine blk_drewN ?_ _ | refine blk_drew ?_ | refine blk_alloc ?_ _)); refine blk_put (cs := #[.int .i64 t168, .int .i64 0]) ?_ 1 _ rfl; (with_reducible repeat (first | refine blk_drewN ?_ _ | refine blk_drew ?_ | refine blk_alloc ?_ _)); refine blk_put (cs := #[.int .i64 0, .int .i64 0]) ?_ 0 _ rfl; (with_reducible repeat (first | refine blk_drewN ?_ _ | refine blk_drew ?_ | refine blk_alloc ?_ _)); exact BK158.out) hg (Kd.R_ne HO167.out BK158.out (by decide))); have n6_ := Aside0.mk (Kd.R_over' (by (with_reducible repeat (first | apply Kd.R_alloc | apply Kd.R_drewN | apply Kd.R_drew)); exact (Kd.R_mono (Kd.R_mono (Kd.R_far (p := ⟨gb156, 2, none⟩) (Kd.R_far (p := ⟨gb158, 1, none⟩) (Kd.R_far (p := ⟨gb158, 0, none⟩) (Kd.R_types (Kd.R_mono HO172.out (fun k_ hk => (⟨hk, hk.2⟩ : _ ∧ k_ ≠ gb158))) BK156.out (by decide)) (fun _ hk => hk.1.2) (.int .i64 t168)) (fun _ hk => hk.1.2) (.int .i64 t169)) (fun _ hk => hk.2) (.slice Ao42 t170.length co42)) (fun _ h_ => h_.1)) (fun _ h_ => h_.1))) (Kd.R_typed (by (with_reducible repeat (first | apply Kd.R_alloc | apply Kd.R_drewN | apply Kd.R_drew)); exact (Kd.R_mono (Kd.R_mono (Kd.R_far (p := ⟨gb156, 2, none⟩) (Kd.R_far (p := ⟨gb158, 1, none⟩) (Kd.R_far (p := ⟨gb158, 0, none⟩) (Kd.R_types (Kd.R_types HO167.out BK158.out (by decide)) BK156.out (by decide)) (fun _ hk => hk.1.2) (.int .i64 t168)) (fun _ hk => hk.1.2) (.int .i64 t169)) (fun _ hk => hk.2) (.slice Ao42 t170.length co42)) (fun _ h_ => h_.1)) (fun _ h_ => h_.1)))) (by decide) hg); have n7_ := Aside0.mk (hb); have n8_ := Aside0.mk (Kept.of_grown (S := (fun k_ => P0_1_ k_ ∨ P0_2_ k_ ∨ P0_3_ k_)) hg (by repeat (first | (with_reducible first | exact HK.out | apply Kept.alloc | apply Kept.drewN | apply Kept.drew | refine Kept.setCell ?_ (.inr GW156.out) _ | refine Kept.setCell ?_ (.inr GW157.out) _ | refine Kept.setCell ?_ (.inr GW158.out) _) | exact HK.out)) (fun k_ e_ => (HO167.out.1 k_ e_).1.1)); have n9_ := Aside0.mk (ho); clear HO_157001; clear HO_157002; clear HO_157003; clear BK156; clear BK157; clear BK158; clear HO172; clear HB; clear HK; clear HO167; have HO_157001 := n0_; have HO_157002 := n1_; have HO_157003 := n2_; have BK156 := n3_; have BK157 := n4_; have BK158 := n5_; have HO172 := n6_; have HB := n7_; have HK := n8_; have HO175 := n9_; clear n0_ n1_ n2_ n3_ n4_ n5_ n6_ n7_ n8_ n9_; clear ho hb hg hat; obtain ⟨Ao45, co45, eo45⟩ := Kd.R_slice HO175.out; subst eo45) | ((with_reducible refine gate_callee (f := 39) rfl ?_); refine goesL_ (some 51) rfl rfl Try.func39 (by kernel_rfl) rfl #[.slice Ao45 y173.length co45] rfl (by (try simp only [List.map_toArray, List.map_cons, List.map_nil]); first | done | rfl | (simp only [List.length_drop, List.length_take]; rfl)) ?_; (with_reducible refine (box_first_int64.calls _ _ y173 t176 t177 _ ?side1 ?side2 A33.out).mono ?_); (case side1 => repeat (first | exact (Kd.R_reads' HO175.out).2.2 | (with_reducible refine Kd.C_alloc ?_ _) | (with_reducible refine Kd.C_drewN ?_ _) | (with_reducible refine Kd.C_drew ?_))); (case side2 => exact (Kd.R_reads' HO175.out).2.1); rintro e w46 ⟨v178, rfl, ho0, hb⟩; refine ⟨_, rfl, ?_⟩; have n0_ := Aside0.mk (Kd.R_elder' (by (with_reducible repeat (first | apply Kd.R_alloc | apply Kd.R_drewN | apply Kd.R_drew)); exact HO_157001.out) (Kd.R_base ho0) hb); have n1_ := Aside0.mk (Kd.R_below (by (with_reducible repeat (first | apply Kd.R_alloc | apply Kd.R_drewN | apply Kd.R_drew)); exact HO_157002.out) hb); have n2_ := Aside0.mk (Kd.R_below (by (with_reducible repeat (first | apply Kd.R_alloc | apply Kd.R_drewN | apply Kd.R_drew)); exact HO_157003.out) hb); have n3_ := Aside0.mk (Kd.R_below (by (with_reducible repeat (first | apply Kd.R_alloc | apply Kd.R_drewN | apply Kd.R_drew)); exact HO172.out) hb); have n4_ := Aside0.mk (Kd.R_elder' (by (with_reducible repeat (first | apply Kd.R_alloc | apply Kd.R_drewN | apply Kd.R_drew)); exact HO175.out) (Kd.R_base ho0) hb); have n5_ := Aside0.mk (Kd.R_lower (Kd.R_new' (Kd.R_new' (Kd.R_newM (M := fun k_ => ((P0_1_ k_ ∨ P0_2_ k_ ∨ P0_3_ k_) ∨ w.heap.size ≤ k_)) ho0 (by first | exact HK.out.1 | exact (show Kept w _ (fun k_ => P0_1_ k_ ∨ P0_2_ k_ ∨ P0_3_ k_) from by repeat (first | (with_reducible first | exact HK.out | apply Kept.alloc | apply Kept.drewN | apply Kept.drew | refine Kept.setCell ?_ (.inr GW156.out) _ | refine Kept.setCell ?_ (.inr GW157.out) _ | refine Kept.setCell ?_ (.inr GW158.out) _) | exact HK.out)).1) (fun k_ h_ => .inr h_)) (Kd.R_lt (by (with_reducible repeat (first | apply Kd.R_alloc | apply Kd.R_drewN | apply Kd.R_drew)); exact HO_157001.out))) (Kd.R_lt (by (with_reducible repeat (first | apply Kd.R_alloc | apply Kd.R_drewN | apply Kd.R_drew)); exact HO175.out))) (below_size (by repeat (first | (with_reducible first | exact HB.out | apply below_alloc | apply pw_below_drewN | apply below_drew1 | refine below_set ?_ GE156.out | refine below_set ?_ GE157.out | refine below_set ?_ GE158.out) | exact HB.out)))); have n6_ := Aside0.mk (blk_below (g := gb156) (o := .cells #[.int .i64 a0_0, .slice Ao4 l0_1.length co4, .slice Ao42 t170.length co42, .slice Ao6 l0_3.length co6] 27 (0, 0)) (by (with_reducible repeat (first | refine blk_drewN ?_ _ | refine blk_drew ?_ | refine blk_alloc ?_ _)); exact BK156.out) hb); have n7_ := Aside0.mk (blk_below (g := gb157) (o := .cells #[.int .i64 0, .slice none 0 0, .slice none 0 0, .slice none 0 0] 27 (0, 0)) (by (with_reducible repeat (first | refine blk_drewN ?_ _ | refine blk_drew ?_ | refine blk_alloc ?_ _)); exact BK157.out) hb); have n8_ := Aside0.mk (blk_below (g := gb158) (o := .cells #[.int .i64 t168, .int .i64 t169] 65 (0, 0)) (by (with_reducible repeat (first | refine blk_drewN ?_ _ | refine blk_drew ?_ | refine blk_alloc ?_ _)); exact BK158.out) hb); have n9_ := Aside0.mk (Kept.below (S := (fun k_ => P0_1_ k_ ∨ P0_2_ k_ ∨ P0_3_ k_)) (by repeat (first | (with_reducible first | exact HK.out | apply Kept.alloc | apply Kept.drewN | apply Kept.drew | refine Kept.setCell ?_ (.inr GW156.out) _ | refine Kept.setCell ?_ (.inr GW157.out) _ | refine Kept.setCell ?_ (.inr GW158.out) _) | exact HK.out)) hb); have n10_ := Aside0.mk (below_step (by repeat (first | (with_reducible first | exact HB.out | apply below_alloc | apply pw_below_drewN | apply below_drew1 | refine below_set ?_ GE156.out | refine below_set ?_ GE157.out | refine below_set ?_ GE158.out) | exact HB.out)) hb); clear HO_157001; clear HO_157002; clear HO_157003; clear HO172; clear HO175; clear BK156; clear BK157; clear BK158; clear HK; clear HB; have HO_157001 := n0_; have HO_157002 := n1_; have HO_157003 := n2_; have HO172 := n3_; have HO175 := n4_; have HO179 := n5_; have BK156 := n6_; have BK157 := n7_; have BK158 := n8_; have HK := n9_; have HB := n10_; clear n0_ n1_ n2_ n3_ n4_ n5_ n6_ n7_ n8_ n9_ n10_; (try clear hb); (try clear hb2); (try clear hk); (try clear hi); (try clear ho0); obtain ⟨Ao47, co47, eo47⟩ := Kd.R_slice HO179.out; subst eo47; have hcz48_0 : w46.cell? ⟨gb156, 0, none⟩ = some (.int .i64 a0_0) := (blk_cell BK156.out 0).trans rfl; have hcz48_1 : w46.cell? ⟨gb156, 1, none⟩ = some (.slice Ao4 l0_1.length co4) := (blk_cell BK156.out 1).trans rfl; have hcz48_2 : w46.cell? ⟨gb156, 2, none⟩ = some (.slice Ao42 t170.length co42) := (blk_cell BK156.out 2).trans rfl; have hcz48_3 : w46.cell? ⟨gb156, 3, none⟩ = some (.slice Ao6 l0_3.length co6) := (blk_cell BK156.out 3).trans rfl; have hfz48_0 := blk_frozen BK156.out 0; have hfz48_1 := blk_frozen BK156.out 1; have hfz48_2 := blk_frozen BK156.out 2; have hfz48_3 := blk_frozen BK156.out 3))
            have n0_ : Aside0 (Kd.R (Kd.int .i64) 2 (w46.setCell ⟨gb156, 1, none⟩ (.slice Ao47 t177.length co47)) w0.heap.size (fun k_ => ((P0_1_ k_ ∨ P0_2_ k_ ∨ P0_3_ k_) ∨ w.heap.size ≤ k_) ∧ some k_ ≠ (.slice Ao45 y173.length co45 : Value).ownBlock ∧ some k_ ≠ (.slice Ao47 t177.length co47 : Value).ownBlock) (.slice Ao4 l0_1.length co4) l0_1) := ⟨by (with_reducible repeat (first | apply Kd.R_alloc | apply Kd.R_drewN | apply Kd.R_drew)); exact Kd.R_mono (Kd.R_far (p := ⟨gb156, 1, none⟩) (Kd.R_types HO_157001.out BK156.out (by decide)) (fun _ hk => hk.2) (.slice Ao47 t177.length co47)) (fun _ hk => ⟨hk.1.1.1, ⟨hk.1.1.2, hk.1.2⟩⟩)⟩
            have n1_ : Aside0 (Kd.R k65 65 (w46.setCell ⟨gb156, 1, none⟩ (.slice Ao47 t177.length co47)) w0.heap.size (fun k_ => ((P0_1_ k_ ∨ P0_2_ k_ ∨ P0_3_ k_) ∨ w.heap.size ≤ k_) ∧ some k_ ≠ (.slice Ao42 t170.length co42 : Value).ownBlock ∧ k_ ≠ gb158) (.slice Ao5 l0_2.length co5) l0_2) := ⟨by (with_reducible repeat (first | apply Kd.R_alloc | apply Kd.R_drewN | apply Kd.R_drew)); exact Kd.R_mono (Kd.R_far (p := ⟨gb156, 1, none⟩) (Kd.R_types HO_157002.out BK156.out (by decide)) (fun _ hk => hk.2) (.slice Ao47 t177.length co47)) (fun _ hk => ⟨hk.1.1.1, ⟨hk.1.2, hk.1.1.2⟩⟩)⟩
            have n2_ : Aside0 (Kd.R (Kd.int .i64) 3 (w46.setCell ⟨gb156, 1, none⟩ (.slice Ao47 t177.length co47)) w0.heap.size (fun k_ => ((P0_1_ k_ ∨ P0_2_ k_ ∨ P0_3_ k_) ∨ w.heap.size ≤ k_)) (.slice Ao6 l0_3.length co6) l0_3) := ⟨by (with_reducible repeat (first | apply Kd.R_alloc | apply Kd.R_drewN | apply Kd.R_drew)); exact Kd.R_mono (Kd.R_far (p := ⟨gb156, 1, none⟩) (Kd.R_types HO_157003.out BK156.out (by decide)) (fun _ hk => hk.2) (.slice Ao47 t177.length co47)) (fun _ hk => hk.1)⟩
            have n3_ : Aside0 (Kd.R k65 65 (w46.setCell ⟨gb156, 1, none⟩ (.slice Ao47 t177.length co47)) w0.heap.size (fun k_ => ((P0_1_ k_ ∨ P0_2_ k_ ∨ P0_3_ k_) ∨ w.heap.size ≤ k_) ∧ some k_ ≠ (.slice Ao5 l0_2.length co5 : Value).ownBlock ∧ k_ ≠ gb158) (.slice Ao42 t170.length co42) t170) := ⟨by (with_reducible repeat (first | apply Kd.R_alloc | apply Kd.R_drewN | apply Kd.R_drew)); exact Kd.R_mono (Kd.R_far (p := ⟨gb156, 1, none⟩) (Kd.R_types HO172.out BK156.out (by decide)) (fun _ hk => hk.2) (.slice Ao47 t177.length co47)) (fun _ hk => ⟨hk.1.1.1.1, ⟨hk.1.1.2, hk.1.2⟩⟩)⟩
            have n4_ : Aside0 (Kd.R (Kd.int .i64) 2 (w46.setCell ⟨gb156, 1, none⟩ (.slice Ao47 t177.length co47)) w0.heap.size (fun k_ => ((P0_1_ k_ ∨ P0_2_ k_ ∨ P0_3_ k_) ∨ w.heap.size ≤ k_) ∧ some k_ ≠ (.slice Ao4 l0_1.length co4 : Value).ownBlock ∧ some k_ ≠ (.slice Ao47 t177.length co47 : Value).ownBlock) (.slice Ao45 y173.length co45) y173) := ⟨by (with_reducible repeat (first | apply Kd.R_alloc | apply Kd.R_drewN | apply Kd.R_drew)); exact Kd.R_mono (Kd.R_far (p := ⟨gb156, 1, none⟩) (Kd.R_types HO175.out BK156.out (by decide)) (fun _ hk => hk.2) (.slice Ao47 t177.length co47)) (fun _ hk => ⟨hk.1.1.1, ⟨hk.1.1.2, hk.1.2⟩⟩)⟩
            have n5_ : Aside0 (Kd.R (Kd.int .i64) 2 (w46.setCell ⟨gb156, 1, none⟩ (.slice Ao47 t177.length co47)) w0.heap.size (fun k_ => ((P0_1_ k_ ∨ P0_2_ k_ ∨ P0_3_ k_) ∨ w.heap.size ≤ k_) ∧ some k_ ≠ (.slice Ao4 l0_1.length co4 : Value).ownBlock ∧ some k_ ≠ (.slice Ao45 y173.length co45 : Value).ownBlock) (.slice Ao47 t177.length co47) t177) := ⟨by (with_reducible repeat (first | apply Kd.R_alloc | apply Kd.R_drewN | apply Kd.R_drew)); exact Kd.R_mono (Kd.R_far (p := ⟨gb156, 1, none⟩) (Kd.R_types HO179.out BK156.out (by decide)) (fun _ hk => hk.2) (.slice Ao47 t177.length co47)) (fun _ hk => ⟨hk.1.1.1.1, ⟨hk.1.1.2, hk.1.2⟩⟩)⟩
            have n6_ : Aside0 ((w46.setCell ⟨gb156, 1, none⟩ (.slice Ao47 t177.length co47)).heap[gb156]? = some (.cells #[.int .i64 a0_0, .slice Ao47 t177.length co47, .slice Ao42 t170.length co42, .slice Ao6 l0_3.length co6] 27 (0, 0))) := ⟨by (with_reducible repeat (first | refine blk_drewN ?_ _ | refine blk_drew ?_ | refine blk_alloc ?_ _)); refine blk_put (cs := #[.int .i64 a0_0, .slice Ao4 l0_1.length co4, .slice Ao42 t170.length co42, .slice Ao6 l0_3.length co6]) ?_ 1 _ rfl; (with_reducible repeat (first | refine blk_drewN ?_ _ | refine blk_drew ?_ | refine blk_alloc ?_ _)); exact BK156.out⟩
            have n7_ : Aside0 ((w46.setCell ⟨gb156, 1, none⟩ (.slice Ao47 t177.length co47)).heap[gb157]? = some (.cells #[.int .i64 0, .slice none 0 0, .slice none 0 0, .slice none 0 0] 27 (0, 0))) := ⟨by (with_reducible repeat (first | refine blk_drewN ?_ _ | refine blk_drew ?_ | refine blk_alloc ?_ _)); refine blk_far ?_ NB157_156.out _; (with_reducible repeat (first | refine blk_drewN ?_ _ | refine blk_drew ?_ | refine blk_alloc ?_ _)); exact BK157.out⟩
            have n8_ : Aside0 ((w46.setCell ⟨gb156, 1, none⟩ (.slice Ao47 t177.length co47)).heap[gb158]? = some (.cells #[.int .i64 t168, .int .i64 t169] 65 (0, 0))) := ⟨by (with_reducible repeat (first | refine blk_drewN ?_ _ | refine blk_drew ?_ | refine blk_alloc ?_ _)); refine blk_far ?_ NB158_156.out _; (with_reducible repeat (first | refine blk_drewN ?_ _ | refine blk_drew ?_ | refine blk_alloc ?_ _)); exact BK158.out⟩
            have n9_ : Aside0 (Kept w (w46.setCell ⟨gb156, 1, none⟩ (.slice Ao47 t177.length co47)) (fun k_ => P0_1_ k_ ∨ P0_2_ k_ ∨ P0_3_ k_)) := ⟨by repeat (first | (with_reducible first | exact HK.out | apply Kept.alloc | apply Kept.drewN | apply Kept.drew | refine Kept.setCell ?_ (.inr GW156.out) _ | refine Kept.setCell ?_ (.inr GW157.out) _ | refine Kept.setCell ?_ (.inr GW158.out) _) | exact HK.out)⟩
            have n10_ : Aside0 (Below w0.heap.size w0 (w46.setCell ⟨gb156, 1, none⟩ (.slice Ao47 t177.length co47))) := ⟨by repeat (first | (with_reducible first | exact HB.out | apply below_alloc | apply pw_below_drewN | apply below_drew1 | refine below_set ?_ GE156.out | refine below_set ?_ GE157.out | refine below_set ?_ GE158.out) | exact HB.out)⟩
            (try clear HO_157001)
            (try clear HO_157002)
            (try clear HO_157003)
            (try clear HO172)
            (try clear HO175)
            (try clear HO179)
            (try clear BK156)
            (try clear BK157)
            (try clear BK158)
            (try clear HK)
            (try clear HB)
            generalize (w46.setCell ⟨gb156, 1, none⟩ (.slice Ao47 t177.length co47)) = w49 at n0_ n1_ n2_ n3_ n4_ n5_ n6_ n7_ n8_ n9_ n10_ ⊢
            have HO_157001 := n0_
            have HO_157002 := n1_
            have HO_157003 := n2_
            have HO172 := n3_
            have HO175 := n4_
            have HO179 := n5_
            have BK156 := n6_
            have BK157 := n7_
            have BK158 := n8_
            have HK := n9_
            have HB := n10_
            clear n0_ n1_ n2_ n3_ n4_ n5_ n6_ n7_ n8_ n9_ n10_
            have n0_ := Aside0.mk (Kd.R_drew HO_157001.out)
            have n1_ := Aside0.mk (Kd.R_drew HO_157002.out)
            have n2_ := Aside0.mk (Kd.R_drew HO_157003.out)
            have n3_ := Aside0.mk (Kd.R_drew HO172.out)
            have n4_ := Aside0.mk (Kd.R_drew HO175.out)
            have n5_ := Aside0.mk (Kd.R_drew HO179.out)
            have n6_ := Aside0.mk (blk_drew BK156.out)
            have n7_ := Aside0.mk (blk_drew BK157.out)
            have n8_ := Aside0.mk (blk_drew BK158.out)
            have n9_ := Aside0.mk (Kept.drew HK.out)
            have n10_ := Aside0.mk (below_drew1 HB.out)
            clear HO_157001
            clear HO_157002
            clear HO_157003
            clear HO172
            clear HO175
            clear HO179
            clear BK156
            clear BK157
            clear BK158
            clear HK
            clear HB
            have HO_157001 := n0_
            have HO_157002 := n1_
            have HO_157003 := n2_
            have HO172 := n3_
            have HO175 := n4_
            have HO179 := n5_
            have BK156 := n6_
            have BK157 := n7_
            have BK158 := n8_
            have HK := n9_
            have HB := n10_
            clear n0_ n1_ n2_ n3_ n4_ n5_ n6_ n7_ n8_ n9_ n10_
            refine start_ (n := 8) (S := fun w' => w'.cell? ⟨gb156, 0, none⟩ = some (.int .i64 a0_0) ∧ w'.cell? ⟨gb156, 1, none⟩ = some (.slice Ao47 t177.length co47) ∧ w'.cell? ⟨gb156, 2, none⟩ = some (.slice Ao42 t170.length co42) ∧ w'.cell? ⟨gb156, 3, none⟩ = some (.slice Ao6 l0_3.length co6) ∧ w'.cell? ⟨gb158, 0, none⟩ = some (.int .i64 t168) ∧ w'.cell? ⟨gb158, 1, none⟩ = some (.int .i64 t169)) (ds := []) #[false, false, false, false, false, false, false, false] (by kernel_rfl) rfl rfl ⟨(blk_cell BK156.out 0).trans rfl, (blk_cell BK156.out 1).trans rfl, (blk_cell BK156.out 2).trans rfl, (blk_cell BK156.out 3).trans rfl, (blk_cell BK158.out 0).trans rfl, (blk_cell BK158.out 1).trans rfl⟩ (fun hHeld => ?_); refine with_tabW box_Recv.tab11 box_Recv.bits11 (fun HT_ HW_ => ?_)
            generalize w49.drew = w50 at HO_157001 HO_157002 HO_157003 HO172 HO175 HO179 BK156 BK157 BK158 HK HB hHeld ⊢
            refine pure_ (i := 1) (N := some 57) (v := ?_) (a' := ?_) #[false, true, false, false, false, false, false, false] rfl rfl (any_of HT_.out (by kernel_rfl)) (fun _ _ _ h => h) (Or.inl ⟨by rfl, ?_⟩) ?_ ?_
            rotate_left
            · intro w'
              go_simp
              with_reducible rfl
            rotate_left
            · simp only [Act.put, List.setIfInBounds_toArray, List.set_cons_zero, List.set_cons_succ, i64_w, i32_w]
              rfl
            refine pure_ (i := 2) (N := some 58) (v := ?_) (a' := ?_) #[false, true, true, false, false, false, false, false] rfl rfl (any_of HT_.out (by kernel_rfl)) (fun _ _ _ h => h) (Or.inl ⟨by rfl, ?_⟩) ?_ ?_
            rotate_left
            · intro w'
              go_simp
              with_reducible rfl
            rotate_left
            · simp only [Act.put, List.setIfInBounds_toArray, List.set_cons_zero, List.set_cons_succ, i64_w, i32_w]
              rfl
            refine take_ (i := 0) (N := some 56) (v := ?_) (a' := ?_) #[true, true, true, false, false, false, false, false] rfl rfl (take_ofW HT_.out HW_.out (by kernel_rfl)) (fun _ _ _ h => h) (Or.inl ⟨by rfl, ?_⟩) hHeld ?_ ?_
            rotate_left
            · rintro w' ⟨s0, s1, s2, s3, s4, s5⟩
              go_simp
              with_reducible rfl
            rotate_left
            · simp only [Act.put, List.setIfInBounds_toArray, List.set_cons_zero, List.set_cons_succ, i64_w, i32_w]
              rfl
            refine take_ (i := 3) (N := some 59) (v := ?_) (a' := ?_) #[true, true, true, true, false, false, false, false] rfl rfl (take_ofW HT_.out HW_.out (by kernel_rfl)) (fun _ _ _ h => h) (Or.inl ⟨by rfl, ?_⟩) hHeld ?_ ?_
            rotate_left
            · rintro w' ⟨s0, s1, s2, s3, s4, s5⟩
              go_simp
              with_reducible rfl
            rotate_left
            · simp only [Act.put, List.setIfInBounds_toArray, List.set_cons_zero, List.set_cons_succ, i64_w, i32_w]
              rfl
            refine one_ (i := 4) (N := none) #[true, true, true, true, true, false, false, false] rfl rfl (one_of HT_.out (by kernel_rfl)) (by decide) (fun K hK => ?_)
            have hs51 : w50.cell? ⟨gb157, 0, none⟩ = some (.int .i64 0) := (blk_cell BK157.out 0).trans rfl
            have hfs51 := blk_frozen BK157.out 0
            have hns51_0 := NB156_157.out
            have hns51_2 := NB158_157.out
            have hms51_0 := NB157_156.out
            have hms51_2 := NB157_158.out
            have hs52 : w50.cell? ⟨gb157, 1, none⟩ = some (.slice none 0 0) := (blk_cell BK157.out 1).trans rfl
            have hfs52 := blk_frozen BK157.out 1
            have hns52_0 := NB156_157.out
            have hns52_2 := NB158_157.out
            have hms52_0 := NB157_156.out
            have hms52_2 := NB157_158.out
            have hs53 : w50.cell? ⟨gb157, 2, none⟩ = some (.slice none 0 0) := (blk_cell BK157.out 2).trans rfl
            have hfs53 := blk_frozen BK157.out 2
            have hns53_0 := NB156_157.out
            have hns53_2 := NB158_157.out
            have hms53_0 := NB157_156.out
            have hms53_2 := NB157_158.out
            have hs54 : w50.cell? ⟨gb157, 3, none⟩ = some (.slice none 0 0) := (blk_cell BK157.out 3).trans rfl
            have hfs54 := blk_frozen BK157.out 3
            have hns54_0 := NB156_157.out
            have hns54_2 := NB158_157.out
            have hms54_0 := NB157_156.out
            have hms54_2 := NB157_158.out
            refine skip_ (w1 := ?_) (by rfl) rfl ?_ ?_
            rotate_left
            · go_simp
              rfl
            refine hK.out _ _ ⟨((cell_far (p := ⟨gb157, _, none⟩) NB156_157.out _).trans (((cell_far (p := ⟨gb157, _, none⟩) NB156_157.out _).trans (((cell_far (p := ⟨gb157, _, none⟩) NB156_157.out _).trans (((cell_far (p := ⟨gb157, _, none⟩) NB156_157.out _).trans (hHeld.1)))))))), ((cell_far (p := ⟨gb157, _, none⟩) NB156_157.out _).trans (((cell_far (p := ⟨gb157, _, none⟩) NB156_157.out _).trans (((cell_far (p := ⟨gb157, _, none⟩) NB156_157.out _).trans (((cell_far (p := ⟨gb157, _, none⟩) NB156_157.out _).trans (hHeld.2.1)))))))), ((cell_far (p := ⟨gb157, _, none⟩) NB156_157.out _).trans (((cell_far (p := ⟨gb157, _, none⟩) NB156_157.out _).trans (((cell_far (p := ⟨gb157, _, none⟩) NB156_157.out _).trans (((cell_far (p := ⟨gb157, _, none⟩) NB156_157.out _).trans (hHeld.2.2.1)))))))), ((cell_far (p := ⟨gb157, _, none⟩) NB156_157.out _).trans (((cell_far (p := ⟨gb157, _, none⟩) NB156_157.out _).trans (((cell_far (p := ⟨gb157, _, none⟩) NB156_157.out _).trans (((cell_far (p := ⟨gb157, _, none⟩) NB156_157.out _).trans (hHeld.2.2.2.1)))))))), ((cell_far (p := ⟨gb157, _, none⟩) NB158_157.out _).trans (((cell_far (p := ⟨gb157, _, none⟩) NB158_157.out _).trans (((cell_far (p := ⟨gb157, _, none⟩) NB158_157.out _).trans (((cell_far (p := ⟨gb157, _, none⟩) NB158_157.out _).trans (hHeld.2.2.2.2.1)))))))), ((cell_far (p := ⟨gb157, _, none⟩) NB158_157.out _).trans (((cell_far (p := ⟨gb157, _, none⟩) NB158_157.out _).trans (((cell_far (p := ⟨gb157, _, none⟩) NB158_157.out _).trans (((cell_far (p := ⟨gb157, _, none⟩) NB158_157.out _).trans (hHeld.2.2.2.2.2))))))))⟩ (fun hHeld => ?_)
            clear hK K
            refine pure_ (i := 5) (N := some 5) (v := ?_) (a' := ?_) #[true, true, true, true, true, true, false, false] rfl rfl (any_of HT_.out (by kernel_rfl)) (fun _ _ _ h => h) (Or.inl ⟨by rfl, ?_⟩) ?_ ?_
            rotate_left
            · intro w'
              go_simp
              with_reducible rfl
            rotate_left
            · simp only [Act.put, List.setIfInBounds_toArray, List.set_cons_zero, List.set_cons_succ, i64_w, i32_w]
              rfl
            refine pure_ (i := 6) (N := some 6) (v := ?_) (a' := ?_) #[true, true, true, true, true, true, true, false] rfl rfl (any_of HT_.out (by kernel_rfl)) (fun _ _ _ h => h) (Or.inl ⟨by rfl, ?_⟩) ?_ ?_
            rotate_left
            · intro w'
              go_simp
              with_reducible rfl
            rotate_left
            · simp only [Act.put, List.setIfInBounds_toArray, List.set_cons_zero, List.set_cons_succ, i64_w, i32_w]
              rfl
            refine pure_ (i := 7) (N := some 7) (v := ?_) (a' := ?_) #[true, true, true, true, true, true, true, true] rfl rfl (any_of HT_.out (by kernel_rfl)) (fun _ _ _ h => h) (Or.inl ⟨by rfl, ?_⟩) ?_ ?_
            rotate_left
            · intro w'
              go_simp
              with_reducible rfl
            rotate_left
            · simp only [Act.put, List.setIfInBounds_toArray, List.set_cons_zero, List.set_cons_succ, i64_w, i32_w]
              rfl
            refine done_ (done_of HT_.out (by kernel_rfl)) ?_
            try go_wp2
            refine bodyPost_ret (results_list (rs := [.cell 4 27, .tmp 5, .tmp 6, .tmp 7]) rfl (by simp) (.cell gb157 27 #[.int .i64 a0_0, .slice Ao47 t177.length co47, .slice Ao42 t170.length co42, .slice Ao6 l0_3.length co6] (0, 0) _ rfl (by (with_reducible repeat (first | refine blk_drewN ?_ _ | refine blk_drew ?_ | refine blk_alloc ?_ _)); refine blk_put (cs := #[.int .i64 a0_0, .slice Ao47 t177.length co47, .slice Ao42 t170.length co42, .slice none 0 0]) ?_ 3 _ rfl; (with_reducible repeat (first | refine blk_drewN ?_ _ | refine blk_drew ?_ | refine blk_alloc ?_ _)); refine blk_put (cs := #[.int .i64 a0_0, .slice Ao47 t177.length co47, .slice none 0 0, .slice none 0 0]) ?_ 2 _ rfl; (with_reducible repeat (first | refine blk_drewN ?_ _ | refine blk_drew ?_ | refine blk_alloc ?_ _)); refine blk_put (cs := #[.int .i64 a0_0, .slice none 0 0, .slice none 0 0, .slice none 0 0]) ?_ 1 _ rfl; (with_reducible repeat (first | refine blk_drewN ?_ _ | refine blk_drew ?_ | refine blk_alloc ?_ _)); refine blk_put (cs := #[.int .i64 0, .slice none 0 0, .slice none 0 0, .slice none 0 0]) ?_ 0 _ rfl; (with_reducible repeat (first | refine blk_drewN ?_ _ | refine blk_drew ?_ | refine blk_alloc ?_ _)); exact BK157.out) Try.underlying27 rfl (by kernel_rfl) (.tmp (.tmp (.tmp .nil))))) rfl ?_
            exact ⟨_, _, _, by first | rfl | (simp [errW_none, errW_some] <;> rfl) | (simp [*, errW_none, errW_some] <;> rfl), by (with_reducible repeat (first | apply Kd.R_alloc | apply Kd.R_drewN | apply Kd.R_drew)); exact Kd.R_mono (Kd.R_far (p := ⟨gb157, 3, none⟩) (Kd.R_far (p := ⟨gb157, 2, none⟩) (Kd.R_far (p := ⟨gb157, 1, none⟩) (Kd.R_far (p := ⟨gb157, 0, none⟩) (Kd.R_types HO179.out BK157.out (by decide)) (fun _ hk => hk.2) (.int .i64 a0_0)) (fun _ hk => hk.2) (.slice Ao47 t177.length co47)) (fun _ hk => hk.2) (.slice Ao42 t170.length co42)) (fun _ hk => hk.2) (.slice Ao6 l0_3.length co6)) (fun _ hk => hk.1.1), by (with_reducible repeat (first | apply Kd.R_alloc | apply Kd.R_drewN | apply Kd.R_drew)); exact Kd.R_mono (Kd.R_far (p := ⟨gb157, 3, none⟩) (Kd.R_far (p := ⟨gb157, 2, none⟩) (Kd.R_far (p := ⟨gb157, 1, none⟩) (Kd.R_far (p := ⟨gb157, 0, none⟩) (Kd.R_types HO172.out BK157.out (by decide)) (fun _ hk => hk.2) (.int .i64 a0_0)) (fun _ hk => hk.2) (.slice Ao47 t177.length co47)) (fun _ hk => hk.2) (.slice Ao42 t170.length co42)) (fun _ hk => hk.2) (.slice Ao6 l0_3.length co6)) (fun _ hk => hk.1.1), by (with_reducible repeat (first | apply Kd.R_alloc | apply Kd.R_drewN | apply Kd.R_drew)); exact Kd.R_mono (Kd.R_far (p := ⟨gb157, 3, none⟩) (Kd.R_far (p := ⟨gb157, 2, none⟩) (Kd.R_far (p := ⟨gb157, 1, none⟩) (Kd.R_far (p := ⟨gb157, 0, none⟩) (Kd.R_types HO_157003.out BK157.out (by decide)) (fun _ hk => hk.2) (.int .i64 a0_0)) (fun _ hk => hk.2) (.slice Ao47 t177.length co47)) (fun _ hk => hk.2) (.slice Ao42 t170.length co42)) (fun _ hk => hk.2) (.slice Ao6 l0_3.length co6)) (fun _ hk => hk.1), by repeat (first | (with_reducible first | exact HB.out | apply below_alloc | apply pw_below_drewN | apply below_drew1 | refine below_set ?_ GE156.out | refine below_set ?_ GE157.out | refine below_set ?_ GE158.out) | exact HB.out), by repeat (first | (with_reducible first | exact HK.out | apply Kept.alloc | apply Kept.drewN | apply Kept.drew | refine Kept.setCell ?_ (.inr GW156.out) _ | refine Kept.setCell ?_ (.inr GW157.out) _ | refine Kept.setCell ?_ (.inr GW158.out) _) | exact HK.out)⟩
          · rw [if_neg c32] at H
            exact absurd H (by simp)
        · rw [if_neg c30] at H
          have c30b0 : decide (0 < (l0_2.length : Int)) = false := decide_eq_false c30
          have c30b1 : decide (0 < l0_2.length) = false := decide_eq_false (by omega)
          clear c30
          replace H := Option.bind_eq_some_iff.mp H
          obtain ⟨⟨t180, t181⟩, A550, H⟩ := H
          replace H : (some (a0_0, t181, l0_2, l0_3, t180, 0, true)) = some (r1, r2, r3, r4, r5, r6, r7) := H
          have A55 := Aside0.mk A550
          clear A550
          simp only [Option.some.injEq, Prod.mk.injEq] at H
          obtain ⟨rfl, rfl, rfl, rfl, rfl, rfl, rfl⟩ := H
          have hnb56 := NB156_157.out
          have hnc56 := NB157_156.out
          have hnb57 := NB156_158.out
          have hnc57 := NB158_156.out
          have hcz58_0 : wc.cell? ⟨gb156, 0, none⟩ = some (.int .i64 a0_0) := (blk_cell BK156.out 0).trans rfl
          have hcz58_1 : wc.cell? ⟨gb156, 1, none⟩ = some (.slice Ao4 l0_1.length co4) := (blk_cell BK156.out 1).trans rfl
          have hcz58_2 : wc.cell? ⟨gb156, 2, none⟩ = some (.slice Ao5 l0_2.length co5) := (blk_cell BK156.out 2).trans rfl
          have hcz58_3 : wc.cell? ⟨gb156, 3, none⟩ = some (.slice Ao6 l0_3.length co6) := (blk_cell BK156.out 3).trans rfl
          have hfz58_0 := blk_frozen BK156.out 0
          have hfz58_1 := blk_frozen BK156.out 1
          have hfz58_2 := blk_frozen BK156.out 2
          have hfz58_3 := blk_frozen BK156.out 3
          try go_wp2_with (first | ((with_reducible refine gate_callee (f := 35) rfl ?_); refine goesL_ (some 32) rfl rfl Try.func35 (by kernel_rfl) rfl #[.slice Ao4 l0_1.length co4] rfl (by (try simp only [List.map_toArray, List.map_cons, List.map_nil]); first | done | rfl | (simp only [List.length_drop, List.length_take]; rfl)) ?_; (with_reducible refine (slices_Clone_int64_int64.calls _ _ l0_1 t165 _ ?side1 ?side2 A29.out).mono ?_); (case side1 => repeat (first | exact (Kd.R_reads' HO_157001.out).2.2 | (with_reducible refine Kd.C_alloc ?_ _) | (with_reducible refine Kd.C_drewN ?_ _) | (with_reducible refine Kd.C_drew ?_))); (case side2 => exact (Kd.R_reads' HO_157001.out).2.1); rintro e w59 ⟨v166, rfl, ho0, hb⟩; refine ⟨_, rfl, ?_⟩; have n0_ := Aside0.mk (Kd.R_elder' (by (with_reducible repeat (first | apply Kd.R_alloc | apply Kd.R_drewN | apply Kd.R_drew)); exact HO_157001.out) (Kd.R_base ho0) hb); have n1_ := Aside0.mk (Kd.R_below (by (with_reducible repeat (first | apply Kd.R_alloc | apply Kd.R_drewN | apply Kd.R_drew)); exact HO_157002.out) hb); have n2_ := Aside0.mk (Kd.R_below (by (with_reducible repeat (first | apply Kd.R_alloc | apply Kd.R_drewN | apply Kd.R_drew)); exact HO_157003.out) hb); have n3_ := Aside0.mk (Kd.R_lower (Kd.R_new' (Kd.R_newM (M := fun k_ => ((P0_1_ k_ ∨ P0_2_ k_ ∨ P0_3_ k_) ∨ w.heap.size ≤ k_)) ho0 (by first | exact HK.out.1 | exact (show Kept w _ (fun k_ => P0_1_ k_ ∨ P0_2_ k_ ∨ P0_3_ k_) from by repeat (first | (with_reducible first | exact HK.out | apply Kept.alloc | apply Kept.drewN | apply Kept.drew | refine Kept.setCell ?_ (.inr GW156.out) _ | refine Kept.setCell ?_ (.inr GW157.out) _ | refine Kept.setCell ?_ (.inr GW158.out) _) | exact HK.out)).1) (fun k_ h_ => .inr h_)) (Kd.R_lt (by (with_reducible repeat (first | apply Kd.R_alloc | apply Kd.R_drewN | apply Kd.R_drew)); exact HO_157001.out))) (below_size (by repeat (first | (with_reducible first | exact HB.out | apply below_alloc | apply pw_below_drewN | apply below_drew1 | refine below_set ?_ GE156.out | refine below_set ?_ GE157.out | refine below_set ?_ GE158.out) | exact HB.out)))); have n4_ := Aside0.mk (blk_below (g := gb156) (o := .cells #[.int .i64 a0_0, .slice Ao4 l0_1.length co4, .slice Ao5 l0_2.length co5, .slice Ao6 l0_3.length co6] 27 (0, 0)) (by (with_reducible repeat (first | refine blk_drewN ?_ _ | refine blk_drew ?_ | refine blk_alloc ?_ _)); exact BK156.out) hb); have n5_ := Aside0.mk (blk_below (g := gb157) (o := .cells #[.int .i64 0, .slice none 0 0, .slice none 0 0, .slice none 0 0] 27 (0, 0)) (by (with_reducible repeat (first | refine blk_drewN ?_ _ | refine blk_drew ?_ | refine blk_alloc ?_ _)); exact BK157.out) hb); have n6_ := Aside0.mk (blk_below (g := gb158) (o := .cells #[.int .i64 0, .int .i64 0] 65 (0, 0)) (by (with_reducible repeat (first | refine blk_drewN ?_ _ | refine blk_drew ?_ | refine blk_alloc ?_ _)); exact BK158.out) hb); have n7_ := Aside0.mk (Kept.below (S := (fun k_ => P0_1_ k_ ∨ P0_2_ k_ ∨ P0_3_ k_)) (by repeat (first | (with_reducible first | exact HK.out | apply Kept.alloc | apply Kept.drewN | apply Kept.drew | refine Kept.setCell ?_ (.inr GW156.out) _ | refine Kept.setCell ?_ (.inr GW157.out) _ | refine Kept.setCell ?_ (.inr GW158.out) _) | exact HK.out)) hb); have n8_ := Aside0.mk (below_step (by repeat (first | (with_reducible first | exact HB.out | apply below_alloc | apply pw_below_drewN | apply below_drew1 | refine below_set ?_ GE156.out | refine below_set ?_ GE157.out | refine below_set ?_ GE158.out) | exact HB.out)) hb); clear HO_157001; clear HO_157002; clear HO_157003; clear BK156; clear BK157; clear BK158; clear HK; clear HB; have HO_157001 := n0_; have HO_157002 := n1_; have HO_157003 := n2_; have HO167 := n3_; have BK156 := n4_; have BK157 := n5_; have BK158 := n6_; have HK := n7_; have HB := n8_; clear n0_ n1_ n2_ n3_ n4_ n5_ n6_ n7_ n8_; (try clear hb); (try clear hb2); (try clear hk); (try clear hi); (try clear ho0); have hcz60_0 : w59.cell? ⟨gb156, 0, none⟩ = some (.int .i64 a0_0) := (blk_cell BK156.out 0).trans rfl; have hcz60_1 : w59.cell? ⟨gb156, 1, none⟩ = some (.slice Ao4 l0_1.length co4) := (blk_cell BK156.out 1).trans rfl; have hcz60_2 : w59.cell? ⟨gb156, 2, none⟩ = some (.slice Ao5 l0_2.length co5) := (blk_cell BK156.out 2).trans rfl; have hcz60_3 : w59.cell? ⟨gb156, 3, none⟩ = some (.slice Ao6 l0_3.length co6) := (blk_cell BK156.out 3).trans rfl; have hfz60_0 := blk_frozen BK156.out 0; have hfz60_1 := blk_frozen BK156.out 1; have hfz60_2 := blk_frozen BK156.out 2; have hfz60_3 := blk_frozen BK156.out 3; obtain ⟨Ao61, co61, eo61⟩ := Kd.R_slice HO167.out; subst eo61) | ((with_reducible refine gate_callee (f := 39) rfl ?_); refine goesL_ (some 51) rfl rfl Try.func39 (by kernel_rfl) rfl #[.slice Ao61 t165.length co61] rfl (by (try simp only [List.map_toArray, List.map_cons, List.map_nil]); first | done | rfl | (simp only [List.length_drop, List.length_take]; rfl)) ?_; (with_reducible refine (box_first_int64.calls _ _ t165 t180 t181 _ ?side1 ?side2 A55.out).mono ?_); (case side1 => repeat (first | exact (Kd.R_reads' HO167.out).2.2 | (with_reducible refine Kd.C_alloc ?_ _) | (with_reducible refine Kd.C_drewN ?_ _) | (with_reducible refine Kd.C_drew ?_))); (case side2 => exact (Kd.R_reads' HO167.out).2.1); rintro e w62 ⟨v182, rfl, ho0, hb⟩; refine ⟨_, rfl, ?_⟩; have n0_ := Aside0.mk (Kd.R_elder' (by (with_reducible repeat (first | apply Kd.R_alloc | apply Kd.R_drewN | apply Kd.R_drew)); exact HO_157001.out) (Kd.R_base ho0) hb); have n1_ := Aside0.mk (Kd.R_below (by (with_reducible repeat (first | apply Kd.R_alloc | apply Kd.R_drewN | apply Kd.R_drew)); exact HO_157002.out) hb); have n2_ := Aside0.mk (Kd.R_below (by (with_reducible repeat (first | apply Kd.R_alloc | apply Kd.R_drewN | apply Kd.R_drew)); exact HO_157003.out) hb); have n3_ := Aside0.mk (Kd.R_elder' (by (with_reducible repeat (first | apply Kd.R_alloc | apply Kd.R_drewN | apply Kd.R_drew)); exact HO167.out) (Kd.R_base ho0) hb); have n4_ := Aside0.mk (Kd.R_lower (Kd.R_new' (Kd.R_new' (Kd.R_newM (M := fun k_ => ((P0_1_ k_ ∨ P0_2_ k_ ∨ P0_3_ k_) ∨ w.heap.size ≤ k_)) ho0 (by first | exact HK.out.1 | exact (show Kept w _ (fun k_ => P0_1_ k_ ∨ P0_2_ k_ ∨ P0_3_ k_) from by repeat (first | (with_reducible first | exact HK.out | apply Kept.alloc | apply Kept.drewN | apply Kept.drew | refine Kept.setCell ?_ (.inr GW156.out) _ | refine Kept.setCell ?_ (.inr GW157.out) _ | refine Kept.setCell ?_ (.inr GW158.out) _) | exact HK.out)).1) (fun k_ h_ => .inr h_)) (Kd.R_lt (by (with_reducible repeat (first | apply Kd.R_alloc | apply Kd.R_drewN | apply Kd.R_drew)); exact HO_157001.out))) (Kd.R_lt (by (with_reducible repeat (first | apply Kd.R_alloc | apply Kd.R_drewN | apply Kd.R_drew)); exact HO167.out))) (below_size (by repeat (first | (with_reducible first | exact HB.out | apply below_alloc | apply pw_below_drewN | apply below_drew1 | refine below_set ?_ GE156.out | refine below_set ?_ GE157.out | refine below_set ?_ GE158.out) | exact HB.out)))); have n5_ := Aside0.mk (blk_below (g := gb156) (o := .cells #[.int .i64 a0_0, .slice Ao4 l0_1.length co4, .slice Ao5 l0_2.length co5, .slice Ao6 l0_3.length co6] 27 (0, 0)) (by (with_reducible repeat (first | refine blk_drewN ?_ _ | refine blk_drew ?_ | refine blk_alloc ?_ _)); exact BK156.out) hb); have n6_ := Aside0.mk (blk_below (g := gb157) (o := .cells #[.int .i64 0, .slice none 0 0, .slice none 0 0, .slice none 0 0] 27 (0, 0)) (by (with_reducible repeat (first | refine blk_drewN ?_ _ | refine blk_drew ?_ | refine blk_alloc ?_ _)); exact BK157.out) hb); have n7_ := Aside0.mk (blk_below (g := gb158) (o := .cells #[.int .i64 0, .int .i64 0] 65 (0, 0)) (by (with_reducible repeat (first | refine blk_drewN ?_ _ | refine blk_drew ?_ | refine blk_alloc ?_ _)); exact BK158.out) hb); have n8_ := Aside0.mk (Kept.below (S := (fun k_ => P0_1_ k_ ∨ P0_2_ k_ ∨ P0_3_ k_)) (by repeat (first | (with_reducible first | exact HK.out | apply Kept.alloc | apply Kept.drewN | apply Kept.drew | refine Kept.setCell ?_ (.inr GW156.out) _ | refine Kept.setCell ?_ (.inr GW157.out) _ | refine Kept.setCell ?_ (.inr GW158.out) _) | exact HK.out)) hb); have n9_ := Aside0.mk (below_step (by repeat (first | (with_reducible first | exact HB.out | apply below_alloc | apply pw_below_drewN | apply below_drew1 | refine below_set ?_ GE156.out | refine below_set ?_ GE157.out | refine below_set ?_ GE158.out) | exact HB.out)) hb); clear HO_157001; clear HO_157002; clear HO_157003; clear HO167; clear BK156; clear BK157; clear BK158; clear HK; clear HB; have HO_157001 := n0_; have HO_157002 := n1_; have HO_157003 := n2_; have HO167 := n3_; have HO183 := n4_; have BK156 := n5_; have BK157 := n6_; have BK158 := n7_; have HK := n8_; have HB := n9_; clear n0_ n1_ n2_ n3_ n4_ n5_ n6_ n7_ n8_ n9_; (try clear hb); (try clear hb2); (try clear hk); (try clear hi); (try clear ho0); obtain ⟨Ao63, co63, eo63⟩ := Kd.R_slice HO183.out; subst eo63; have hcz64_0 : w62.cell? ⟨gb156, 0, none⟩ = some (.int .i64 a0_0) := (blk_cell BK156.out 0).trans rfl; have hcz64_1 : w62.cell? ⟨gb156, 1, none⟩ = some (.slice Ao4 l0_1.length co4) := (blk_cell BK156.out 1).trans rfl; have hcz64_2 : w62.cell? ⟨gb156, 2, none⟩ = some (.slice Ao5 l0_2.length co5) := (blk_cell BK156.out 2).trans rfl; have hcz64_3 : w62.cell? ⟨gb156, 3, none⟩ = some (.slice Ao6 l0_3.length co6) := (blk_cell BK156.out 3).trans rfl; have hfz64_0 := blk_frozen BK156.out 0; have hfz64_1 := blk_frozen BK156.out 1; have hfz64_2 := blk_frozen BK156.out 2; have hfz64_3 := blk_frozen BK156.out 3))
          have n0_ : Aside0 (Kd.R (Kd.int .i64) 2 (w62.setCell ⟨gb156, 1, none⟩ (.slice Ao63 t181.length co63)) w0.heap.size (fun k_ => ((P0_1_ k_ ∨ P0_2_ k_ ∨ P0_3_ k_) ∨ w.heap.size ≤ k_) ∧ some k_ ≠ (.slice Ao61 t165.length co61 : Value).ownBlock ∧ some k_ ≠ (.slice Ao63 t181.length co63 : Value).ownBlock) (.slice Ao4 l0_1.length co4) l0_1) := ⟨by (with_reducible repeat (first | apply Kd.R_alloc | apply Kd.R_drewN | apply Kd.R_drew)); exact Kd.R_mono (Kd.R_far (p := ⟨gb156, 1, none⟩) (Kd.R_types HO_157001.out BK156.out (by decide)) (fun _ hk => hk.2) (.slice Ao63 t181.length co63)) (fun _ hk => ⟨hk.1.1.1, ⟨hk.1.1.2, hk.1.2⟩⟩)⟩
          have n1_ : Aside0 (Kd.R k65 65 (w62.setCell ⟨gb156, 1, none⟩ (.slice Ao63 t181.length co63)) w0.heap.size (fun k_ => ((P0_1_ k_ ∨ P0_2_ k_ ∨ P0_3_ k_) ∨ w.heap.size ≤ k_) ∧ k_ ≠ gb158) (.slice Ao5 l0_2.length co5) l0_2) := ⟨by (with_reducible repeat (first | apply Kd.R_alloc | apply Kd.R_drewN | apply Kd.R_drew)); exact Kd.R_mono (Kd.R_far (p := ⟨gb156, 1, none⟩) (Kd.R_types HO_157002.out BK156.out (by decide)) (fun _ hk => hk.2) (.slice Ao63 t181.length co63)) (fun _ hk => ⟨hk.1.1, hk.1.2⟩)⟩
          have n2_ : Aside0 (Kd.R (Kd.int .i64) 3 (w62.setCell ⟨gb156, 1, none⟩ (.slice Ao63 t181.length co63)) w0.heap.size (fun k_ => ((P0_1_ k_ ∨ P0_2_ k_ ∨ P0_3_ k_) ∨ w.heap.size ≤ k_)) (.slice Ao6 l0_3.length co6) l0_3) := ⟨by (with_reducible repeat (first | apply Kd.R_alloc | apply Kd.R_drewN | apply Kd.R_drew)); exact Kd.R_mono (Kd.R_far (p := ⟨gb156, 1, none⟩) (Kd.R_types HO_157003.out BK156.out (by decide)) (fun _ hk => hk.2) (.slice Ao63 t181.length co63)) (fun _ hk => hk.1)⟩
          have n3_ : Aside0 (Kd.R (Kd.int .i64) 2 (w62.setCell ⟨gb156, 1, none⟩ (.slice Ao63 t181.length co63)) w0.heap.size (fun k_ => ((P0_1_ k_ ∨ P0_2_ k_ ∨ P0_3_ k_) ∨ w.heap.size ≤ k_) ∧ some k_ ≠ (.slice Ao4 l0_1.length co4 : Value).ownBlock ∧ some k_ ≠ (.slice Ao63 t181.length co63 : Value).ownBlock) (.slice Ao61 t165.length co61) t165) := ⟨by (with_reducible repeat (first | apply Kd.R_alloc | apply Kd.R_drewN | apply Kd.R_drew)); exact Kd.R_mono (Kd.R_far (p := ⟨gb156, 1, none⟩) (Kd.R_types HO167.out BK156.out (by decide)) (fun _ hk => hk.2) (.slice Ao63 t181.length co63)) (fun _ hk => ⟨hk.1.1.1.1, ⟨hk.1.1.2, hk.1.2⟩⟩)⟩
          have n4_ : Aside0 (Kd.R (Kd.int .i64) 2 (w62.setCell ⟨gb156, 1, none⟩ (.slice Ao63 t181.length co63)) w0.heap.size (fun k_ => ((P0_1_ k_ ∨ P0_2_ k_ ∨ P0_3_ k_) ∨ w.heap.size ≤ k_) ∧ some k_ ≠ (.slice Ao4 l0_1.length co4 : Value).ownBlock ∧ some k_ ≠ (.slice Ao61 t165.length co61 : Value).ownBlock) (.slice Ao63 t181.length co63) t181) := ⟨by (with_reducible repeat (first | apply Kd.R_alloc | apply Kd.R_drewN | apply Kd.R_drew)); exact Kd.R_mono (Kd.R_far (p := ⟨gb156, 1, none⟩) (Kd.R_types HO183.out BK156.out (by decide)) (fun _ hk => hk.2) (.slice Ao63 t181.length co63)) (fun _ hk => ⟨hk.1.1.1.1, ⟨hk.1.1.2, hk.1.2⟩⟩)⟩
          have n5_ : Aside0 ((w62.setCell ⟨gb156, 1, none⟩ (.slice Ao63 t181.length co63)).heap[gb156]? = some (.cells #[.int .i64 a0_0, .slice Ao63 t181.length co63, .slice Ao5 l0_2.length co5, .slice Ao6 l0_3.length co6] 27 (0, 0))) := ⟨by (with_reducible repeat (first | refine blk_drewN ?_ _ | refine blk_drew ?_ | refine blk_alloc ?_ _)); refine blk_put (cs := #[.int .i64 a0_0, .slice Ao4 l0_1.length co4, .slice Ao5 l0_2.length co5, .slice Ao6 l0_3.length co6]) ?_ 1 _ rfl; (with_reducible repeat (first | refine blk_drewN ?_ _ | refine blk_drew ?_ | refine blk_alloc ?_ _)); exact BK156.out⟩
          have n6_ : Aside0 ((w62.setCell ⟨gb156, 1, none⟩ (.slice Ao63 t181.length co63)).heap[gb157]? = some (.cells #[.int .i64 0, .slice none 0 0, .slice none 0 0, .slice none 0 0] 27 (0, 0))) := ⟨by (with_reducible repeat (first | refine blk_drewN ?_ _ | refine blk_drew ?_ | refine blk_alloc ?_ _)); refine blk_far ?_ NB157_156.out _; (with_reducible repeat (first | refine blk_drewN ?_ _ | refine blk_drew ?_ | refine blk_alloc ?_ _)); exact BK157.out⟩
          have n7_ : Aside0 ((w62.setCell ⟨gb156, 1, none⟩ (.slice Ao63 t181.length co63)).heap[gb158]? = some (.cells #[.int .i64 0, .int .i64 0] 65 (0, 0))) := ⟨by (with_reducible repeat (first | refine blk_drewN ?_ _ | refine blk_drew ?_ | refine blk_alloc ?_ _)); refine blk_far ?_ NB158_156.out _; (with_reducible repeat (first | refine blk_drewN ?_ _ | refine blk_drew ?_ | refine blk_alloc ?_ _)); exact BK158.out⟩
          have n8_ : Aside0 (Kept w (w62.setCell ⟨gb156, 1, none⟩ (.slice Ao63 t181.length co63)) (fun k_ => P0_1_ k_ ∨ P0_2_ k_ ∨ P0_3_ k_)) := ⟨by repeat (first | (with_reducible first | exact HK.out | apply Kept.alloc | apply Kept.drewN | apply Kept.drew | refine Kept.setCell ?_ (.inr GW156.out) _ | refine Kept.setCell ?_ (.inr GW157.out) _ | refine Kept.setCell ?_ (.inr GW158.out) _) | exact HK.out)⟩
          have n9_ : Aside0 (Below w0.heap.size w0 (w62.setCell ⟨gb156, 1, none⟩ (.slice Ao63 t181.length co63))) := ⟨by repeat (first | (with_reducible first | exact HB.out | apply below_alloc | apply pw_below_drewN | apply below_drew1 | refine below_set ?_ GE156.out | refine below_set ?_ GE157.out | refine below_set ?_ GE158.out) | exact HB.out)⟩
          (try clear HO_157001)
          (try clear HO_157002)
          (try clear HO_157003)
          (try clear HO167)
          (try clear HO183)
          (try clear BK156)
          (try clear BK157)
          (try clear BK158)
          (try clear HK)
          (try clear HB)
          generalize (w62.setCell ⟨gb156, 1, none⟩ (.slice Ao63 t181.length co63)) = w65 at n0_ n1_ n2_ n3_ n4_ n5_ n6_ n7_ n8_ n9_ ⊢
          have HO_157001 := n0_
          have HO_157002 := n1_
          have HO_157003 := n2_
          have HO167 := n3_
          have HO183 := n4_
          have BK156 := n5_
          have BK157 := n6_
          have BK158 := n7_
          have HK := n8_
          have HB := n9_
          clear n0_ n1_ n2_ n3_ n4_ n5_ n6_ n7_ n8_ n9_
          have n0_ := Aside0.mk (Kd.R_drew HO_157001.out)
          have n1_ := Aside0.mk (Kd.R_drew HO_157002.out)
          have n2_ := Aside0.mk (Kd.R_drew HO_157003.out)
          have n3_ := Aside0.mk (Kd.R_drew HO167.out)
          have n4_ := Aside0.mk (Kd.R_drew HO183.out)
          have n5_ := Aside0.mk (blk_drew BK156.out)
          have n6_ := Aside0.mk (blk_drew BK157.out)
          have n7_ := Aside0.mk (blk_drew BK158.out)
          have n8_ := Aside0.mk (Kept.drew HK.out)
          have n9_ := Aside0.mk (below_drew1 HB.out)
          clear HO_157001
          clear HO_157002
          clear HO_157003
          clear HO167
          clear HO183
          clear BK156
          clear BK157
          clear BK158
          clear HK
          clear HB
          have HO_157001 := n0_
          have HO_157002 := n1_
          have HO_157003 := n2_
          have HO167 := n3_
          have HO183 := n4_
          have BK156 := n5_
          have BK157 := n6_
          have BK158 := n7_
          have HK := n8_
          have HB := n9_
          clear n0_ n1_ n2_ n3_ n4_ n5_ n6_ n7_ n8_ n9_
          refine start_ (n := 8) (S := fun w' => w'.cell? ⟨gb156, 0, none⟩ = some (.int .i64 a0_0) ∧ w'.cell? ⟨gb156, 1, none⟩ = some (.slice Ao63 t181.length co63) ∧ w'.cell? ⟨gb156, 2, none⟩ = some (.slice Ao5 l0_2.length co5) ∧ w'.cell? ⟨gb156, 3, none⟩ = some (.slice Ao6 l0_3.length co6) ∧ w'.cell? ⟨gb158, 0, none⟩ = some (.int .i64 0) ∧ w'.cell? ⟨gb158, 1, none⟩ = some (.int .i64 0)) (ds := []) #[false, false, false, false, false, false, false, false] (by kernel_rfl) rfl rfl ⟨(blk_cell BK156.out 0).trans rfl, (blk_cell BK156.out 1).trans rfl, (blk_cell BK156.out 2).trans rfl, (blk_cell BK156.out 3).trans rfl, (blk_cell BK158.out 0).trans rfl, (blk_cell BK158.out 1).trans rfl⟩ (fun hHeld => ?_); refine with_tabW box_Recv.tab11 box_Recv.bits11 (fun HT_ HW_ => ?_)
          generalize w65.drew = w66 at HO_157001 HO_157002 HO_157003 HO167 HO183 BK156 BK157 BK158 HK HB hHeld ⊢
          refine pure_ (i := 1) (N := some 57) (v := ?_) (a' := ?_) #[false, true, false, false, false, false, false, false] rfl rfl (any_of HT_.out (by kernel_rfl)) (fun _ _ _ h => h) (Or.inl ⟨by rfl, ?_⟩) ?_ ?_
          rotate_left
          · intro w'
            go_simp
            with_reducible rfl
          rotate_left
          · simp only [Act.put, List.setIfInBounds_toArray, List.set_cons_zero, List.set_cons_succ, i64_w, i32_w]
            rfl
          refine pure_ (i := 2) (N := some 58) (v := ?_) (a' := ?_) #[false, true, true, false, false, false, false, false] rfl rfl (any_of HT_.out (by kernel_rfl)) (fun _ _ _ h => h) (Or.inl ⟨by rfl, ?_⟩) ?_ ?_
          rotate_left
          · intro w'
            go_simp
            with_reducible rfl
          rotate_left
          · simp only [Act.put, List.setIfInBounds_toArray, List.set_cons_zero, List.set_cons_succ, i64_w, i32_w]
            rfl
          refine take_ (i := 0) (N := some 56) (v := ?_) (a' := ?_) #[true, true, true, false, false, false, false, false] rfl rfl (take_ofW HT_.out HW_.out (by kernel_rfl)) (fun _ _ _ h => h) (Or.inl ⟨by rfl, ?_⟩) hHeld ?_ ?_
          rotate_left
          · rintro w' ⟨s0, s1, s2, s3, s4, s5⟩
            go_simp
            with_reducible rfl
          rotate_left
          · simp only [Act.put, List.setIfInBounds_toArray, List.set_cons_zero, List.set_cons_succ, i64_w, i32_w]
            rfl
          refine take_ (i := 3) (N := some 59) (v := ?_) (a' := ?_) #[true, true, true, true, false, false, false, false] rfl rfl (take_ofW HT_.out HW_.out (by kernel_rfl)) (fun _ _ _ h => h) (Or.inl ⟨by rfl, ?_⟩) hHeld ?_ ?_
          rotate_left
          · rintro w' ⟨s0, s1, s2, s3, s4, s5⟩
            go_simp
            with_reducible rfl
          rotate_left
          · simp only [Act.put, List.setIfInBounds_toArray, List.set_cons_zero, List.set_cons_succ, i64_w, i32_w]
            rfl
          refine one_ (i := 4) (N := none) #[true, true, true, true, true, false, false, false] rfl rfl (one_of HT_.out (by kernel_rfl)) (by decide) (fun K hK => ?_)
          have hs67 : w66.cell? ⟨gb157, 0, none⟩ = some (.int .i64 0) := (blk_cell BK157.out 0).trans rfl
          have hfs67 := blk_frozen BK157.out 0
          have hns67_0 := NB156_157.out
          have hns67_2 := NB158_157.out
          have hms67_0 := NB157_156.out
          have hms67_2 := NB157_158.out
          have hs68 : w66.cell? ⟨gb157, 1, none⟩ = some (.slice none 0 0) := (blk_cell BK157.out 1).trans rfl
          have hfs68 := blk_frozen BK157.out 1
          have hns68_0 := NB156_157.out
          have hns68_2 := NB158_157.out
          have hms68_0 := NB157_156.out
          have hms68_2 := NB157_158.out
          have hs69 : w66.cell? ⟨gb157, 2, none⟩ = some (.slice none 0 0) := (blk_cell BK157.out 2).trans rfl
          have hfs69 := blk_frozen BK157.out 2
          have hns69_0 := NB156_157.out
          have hns69_2 := NB158_157.out
          have hms69_0 := NB157_156.out
          have hms69_2 := NB157_158.out
          have hs70 : w66.cell? ⟨gb157, 3, none⟩ = some (.slice none 0 0) := (blk_cell BK157.out 3).trans rfl
          have hfs70 := blk_frozen BK157.out 3
          have hns70_0 := NB156_157.out
          have hns70_2 := NB158_157.out
          have hms70_0 := NB157_156.out
          have hms70_2 := NB157_158.out
          refine skip_ (w1 := ?_) (by rfl) rfl ?_ ?_
          rotate_left
          · go_simp
            rfl
          refine hK.out _ _ ⟨((cell_far (p := ⟨gb157, _, none⟩) NB156_157.out _).trans (((cell_far (p := ⟨gb157, _, none⟩) NB156_157.out _).trans (((cell_far (p := ⟨gb157, _, none⟩) NB156_157.out _).trans (((cell_far (p := ⟨gb157, _, none⟩) NB156_157.out _).trans (hHeld.1)))))))), ((cell_far (p := ⟨gb157, _, none⟩) NB156_157.out _).trans (((cell_far (p := ⟨gb157, _, none⟩) NB156_157.out _).trans (((cell_far (p := ⟨gb157, _, none⟩) NB156_157.out _).trans (((cell_far (p := ⟨gb157, _, none⟩) NB156_157.out _).trans (hHeld.2.1)))))))), ((cell_far (p := ⟨gb157, _, none⟩) NB156_157.out _).trans (((cell_far (p := ⟨gb157, _, none⟩) NB156_157.out _).trans (((cell_far (p := ⟨gb157, _, none⟩) NB156_157.out _).trans (((cell_far (p := ⟨gb157, _, none⟩) NB156_157.out _).trans (hHeld.2.2.1)))))))), ((cell_far (p := ⟨gb157, _, none⟩) NB156_157.out _).trans (((cell_far (p := ⟨gb157, _, none⟩) NB156_157.out _).trans (((cell_far (p := ⟨gb157, _, none⟩) NB156_157.out _).trans (((cell_far (p := ⟨gb157, _, none⟩) NB156_157.out _).trans (hHeld.2.2.2.1)))))))), ((cell_far (p := ⟨gb157, _, none⟩) NB158_157.out _).trans (((cell_far (p := ⟨gb157, _, none⟩) NB158_157.out _).trans (((cell_far (p := ⟨gb157, _, none⟩) NB158_157.out _).trans (((cell_far (p := ⟨gb157, _, none⟩) NB158_157.out _).trans (hHeld.2.2.2.2.1)))))))), ((cell_far (p := ⟨gb157, _, none⟩) NB158_157.out _).trans (((cell_far (p := ⟨gb157, _, none⟩) NB158_157.out _).trans (((cell_far (p := ⟨gb157, _, none⟩) NB158_157.out _).trans (((cell_far (p := ⟨gb157, _, none⟩) NB158_157.out _).trans (hHeld.2.2.2.2.2))))))))⟩ (fun hHeld => ?_)
          clear hK K
          refine pure_ (i := 5) (N := some 5) (v := ?_) (a' := ?_) #[true, true, true, true, true, true, false, false] rfl rfl (any_of HT_.out (by kernel_rfl)) (fun _ _ _ h => h) (Or.inl ⟨by rfl, ?_⟩) ?_ ?_
          rotate_left
          · intro w'
            go_simp
            with_reducible rfl
          rotate_left
          · simp only [Act.put, List.setIfInBounds_toArray, List.set_cons_zero, List.set_cons_succ, i64_w, i32_w]
            rfl
          refine pure_ (i := 6) (N := some 6) (v := ?_) (a' := ?_) #[true, true, true, true, true, true, true, false] rfl rfl (any_of HT_.out (by kernel_rfl)) (fun _ _ _ h => h) (Or.inl ⟨by rfl, ?_⟩) ?_ ?_
          rotate_left
          · intro w'
            go_simp
            with_reducible rfl
          rotate_left
          · simp only [Act.put, List.setIfInBounds_toArray, List.set_cons_zero, List.set_cons_succ, i64_w, i32_w]
            rfl
          refine pure_ (i := 7) (N := some 7) (v := ?_) (a' := ?_) #[true, true, true, true, true, true, true, true] rfl rfl (any_of HT_.out (by kernel_rfl)) (fun _ _ _ h => h) (Or.inl ⟨by rfl, ?_⟩) ?_ ?_
          rotate_left
          · intro w'
            go_simp
            with_reducible rfl
          rotate_left
          · simp only [Act.put, List.setIfInBounds_toArray, List.set_cons_zero, List.set_cons_succ, i64_w, i32_w]
            rfl
          refine done_ (done_of HT_.out (by kernel_rfl)) ?_
          try go_wp2
          refine bodyPost_ret (results_list (rs := [.cell 4 27, .tmp 5, .tmp 6, .tmp 7]) rfl (by simp) (.cell gb157 27 #[.int .i64 a0_0, .slice Ao63 t181.length co63, .slice Ao5 l0_2.length co5, .slice Ao6 l0_3.length co6] (0, 0) _ rfl (by (with_reducible repeat (first | refine blk_drewN ?_ _ | refine blk_drew ?_ | refine blk_alloc ?_ _)); refine blk_put (cs := #[.int .i64 a0_0, .slice Ao63 t181.length co63, .slice Ao5 l0_2.length co5, .slice none 0 0]) ?_ 3 _ rfl; (with_reducible repeat (first | refine blk_drewN ?_ _ | refine blk_drew ?_ | refine blk_alloc ?_ _)); refine blk_put (cs := #[.int .i64 a0_0, .slice Ao63 t181.length co63, .slice none 0 0, .slice none 0 0]) ?_ 2 _ rfl; (with_reducible repeat (first | refine blk_drewN ?_ _ | refine blk_drew ?_ | refine blk_alloc ?_ _)); refine blk_put (cs := #[.int .i64 a0_0, .slice none 0 0, .slice none 0 0, .slice none 0 0]) ?_ 1 _ rfl; (with_reducible repeat (first | refine blk_drewN ?_ _ | refine blk_drew ?_ | refine blk_alloc ?_ _)); refine blk_put (cs := #[.int .i64 0, .slice none 0 0, .slice none 0 0, .slice none 0 0]) ?_ 0 _ rfl; (with_reducible repeat (first | refine blk_drewN ?_ _ | refine blk_drew ?_ | refine blk_alloc ?_ _)); exact BK157.out) Try.underlying27 rfl (by kernel_rfl) (.tmp (.tmp (.tmp .nil))))) rfl ?_
          exact ⟨_, _, _, by first | rfl | (simp [errW_none, errW_some] <;> rfl) | (simp [*, errW_none, errW_some] <;> rfl), by (with_reducible repeat (first | apply Kd.R_alloc | apply Kd.R_drewN | apply Kd.R_drew)); exact Kd.R_mono (Kd.R_far (p := ⟨gb157, 3, none⟩) (Kd.R_far (p := ⟨gb157, 2, none⟩) (Kd.R_far (p := ⟨gb157, 1, none⟩) (Kd.R_far (p := ⟨gb157, 0, none⟩) (Kd.R_types HO183.out BK157.out (by decide)) (fun _ hk => hk.2) (.int .i64 a0_0)) (fun _ hk => hk.2) (.slice Ao63 t181.length co63)) (fun _ hk => hk.2) (.slice Ao5 l0_2.length co5)) (fun _ hk => hk.2) (.slice Ao6 l0_3.length co6)) (fun _ hk => hk.1.1), by (with_reducible repeat (first | apply Kd.R_alloc | apply Kd.R_drewN | apply Kd.R_drew)); exact Kd.R_mono (Kd.R_far (p := ⟨gb157, 3, none⟩) (Kd.R_far (p := ⟨gb157, 2, none⟩) (Kd.R_far (p := ⟨gb157, 1, none⟩) (Kd.R_far (p := ⟨gb157, 0, none⟩) (Kd.R_types HO_157002.out BK157.out (by decide)) (fun _ hk => hk.2) (.int .i64 a0_0)) (fun _ hk => hk.2) (.slice Ao63 t181.length co63)) (fun _ hk => hk.2) (.slice Ao5 l0_2.length co5)) (fun _ hk => hk.2) (.slice Ao6 l0_3.length co6)) (fun _ hk => hk.1.1), by (with_reducible repeat (first | apply Kd.R_alloc | apply Kd.R_drewN | apply Kd.R_drew)); exact Kd.R_mono (Kd.R_far (p := ⟨gb157, 3, none⟩) (Kd.R_far (p := ⟨gb157, 2, none⟩) (Kd.R_far (p := ⟨gb157, 1, none⟩) (Kd.R_far (p := ⟨gb157, 0, none⟩) (Kd.R_types HO_157003.out BK157.out (by decide)) (fun _ hk => hk.2) (.int .i64 a0_0)) (fun _ hk => hk.2) (.slice Ao63 t181.length co63)) (fun _ hk => hk.2) (.slice Ao5 l0_2.length co5)) (fun _ hk => hk.2) (.slice Ao6 l0_3.length co6)) (fun _ hk => hk.1), by repeat (first | (with_reducible first | exact HB.out | apply below_alloc | apply pw_below_drewN | apply below_drew1 | refine below_set ?_ GE156.out | refine below_set ?_ GE157.out | refine below_set ?_ GE158.out) | exact HB.out), by repeat (first | (with_reducible first | exact HK.out | apply Kept.alloc | apply Kept.drewN | apply Kept.drew | refine Kept.setCell ?_ (.inr GW156.out) _ | refine Kept.setCell ?_ (.inr GW157.out) _ | refine Kept.setCell ?_ (.inr GW158.out) _) | exact HK.out)⟩

end Go.Proofs.Ytibkpacjijbblaa.QPlays
