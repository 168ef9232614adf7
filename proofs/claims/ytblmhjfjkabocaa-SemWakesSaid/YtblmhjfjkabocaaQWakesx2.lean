/- Printed by a program of this session (over the kit's print): functions in plain form, and what their calls come to. -/
import Derived.Test.YtblmhjfjkabocaaQWakesx0
import Derived.Test.YtblmhjfjkabocaaQWakesx1
namespace Go.Proofs.Ytblmhjfjkabocaa.QWakes
open Go.RowKit Go.Proofs.YtblmhjfjkabocaaW.PrintWords Go.Proofs.YtblmhjfjkabocaaW.PrintLast Go.Proofs.YtblmhjfjkabocaaW.PrintMore
attribute [local go_sem] max2_int min2_int max_two min_two max_three min_three max_four min_four   -- for this text's walks alone
set_option linter.unusedVariables false
set_option linter.unusedSimpArgs false

/-! ### catafalquelaw10_SemWakes: function 4 -/
mutual
def catafalquelaw10_SemWakes.l0 : Nat → Bool → Int → Int → Int → Int → List Int → Option (Bool)
  | 0, _, _, _, _, _, _ => none
  | k + 1, x5, x6, x7, x9, x151000, x151001 => if x9 ≤ x7 then ((sem_Acquire.f x151000 x151001 x9).bind fun bt151 => (if (bt151.2.2 != (decide (x9 ≤ x6))) = true then (some false) else (catafalquelaw10_SemWakes.l0 k x5 x6 x7 (wrap64 (x9 + 1)) bt151.1 bt151.2.1))) else (catafalquelaw10_SemWakes.l1 k x5 x6 x7 (wrap64 (x6 + 1)) x151000 x151001)
def catafalquelaw10_SemWakes.l1 : Nat → Bool → Int → Int → Int → Int → List Int → Option (Bool)
  | 0, _, _, _, _, _, _ => none
  | k + 1, x5, x6, x7, x12, x151000, x151001 => if x12 ≤ x7 then ((sem_Release.f x151000 x151001).bind fun bt157 => (if bt157.2.2 = x12 then (catafalquelaw10_SemWakes.l1 k x5 x6 x7 (wrap64 (x12 + 1)) bt157.1 bt157.2.1) else (some false))) else ((sem_Release.f x151000 x151001).bind fun bt163 => (if x5 = true then (if bt163.2.2 = 0 then (if (bt163.2.1.length : Int) = 0 then (some (bt163.1 == (wrap64 ((mx (wrap64 (x6 - x7)) 0) + 1)))) else (some false)) else (some false)) else (some false)))
end
def catafalquelaw10_SemWakes.f (k : Nat) (a0 : Int) (a1 : Int) : Option (Bool) := (catafalquelaw10_shown.f).bind fun t149 => (catafalquelaw10_SemWakes.l0 k t149 (wrap64 (Int.tmod a0 6)) (wrap64 (Int.tmod a1 40)) 1 (wrap64 (Int.tmod a0 6)) ([] : List Int))
theorem catafalquelaw10_SemWakes.mono_l : ∀ k, (∀ y0 y1 y2 y3 y4 y5, LeO (catafalquelaw10_SemWakes.l0 k y0 y1 y2 y3 y4 y5) (catafalquelaw10_SemWakes.l0 (k + 1) y0 y1 y2 y3 y4 y5)) ∧ (∀ y0 y1 y2 y3 y4 y5, LeO (catafalquelaw10_SemWakes.l1 k y0 y1 y2 y3 y4 y5) (catafalquelaw10_SemWakes.l1 (k + 1) y0 y1 y2 y3 y4 y5))
  | 0 => ⟨fun _ _ _ _ _ _ r h => by simp [catafalquelaw10_SemWakes.l0] at h, fun _ _ _ _ _ _ r h => by simp [catafalquelaw10_SemWakes.l1] at h⟩
  | k + 1 => by
    obtain ⟨ih0, ih1⟩ := catafalquelaw10_SemWakes.mono_l k
    refine ⟨?_, ?_⟩
    · intro y0 y1 y2 y3 y4 y5
      unfold catafalquelaw10_SemWakes.l0
      repeat' first
      | (with_reducible exact ih0 _ _ _ _ _ _)
      | (with_reducible exact ih1 _ _ _ _ _ _)
      | (with_reducible exact LeO.refl _)
      | (with_reducible exact LeO.none _)
      | (with_reducible refine LeO.ite ?_ ?_)
      | (with_reducible refine LeO.bind ?_ (fun _ => ?_))
      | exact ih0 _ _ _ _ _ _
      | exact ih1 _ _ _ _ _ _
      | exact LeO.none _
      | refine LeO.ite ?_ ?_
      | refine LeO.bind ?_ (fun _ => ?_)
    · intro y0 y1 y2 y3 y4 y5
      unfold catafalquelaw10_SemWakes.l1
      repeat' first
      | (with_reducible exact ih0 _ _ _ _ _ _)
      | (with_reducible exact ih1 _ _ _ _ _ _)
      | (with_reducible exact LeO.refl _)
      | (with_reducible exact LeO.none _)
      | (with_reducible refine LeO.ite ?_ ?_)
      | (with_reducible refine LeO.bind ?_ (fun _ => ?_))
      | exact ih0 _ _ _ _ _ _
      | exact ih1 _ _ _ _ _ _
      | exact LeO.none _
      | refine LeO.ite ?_ ?_
      | refine LeO.bind ?_ (fun _ => ?_)
theorem catafalquelaw10_SemWakes.mono : ∀ a0 a1 k, LeO (catafalquelaw10_SemWakes.f k a0 a1) (catafalquelaw10_SemWakes.f (k + 1) a0 a1) := by
  intro a0 a1 k
  obtain ⟨ih0, ih1⟩ := catafalquelaw10_SemWakes.mono_l k
  unfold catafalquelaw10_SemWakes.f
  repeat' first
      | (with_reducible exact ih0 _ _ _ _ _ _)
      | (with_reducible exact ih1 _ _ _ _ _ _)
      | (with_reducible exact LeO.refl _)
      | (with_reducible exact LeO.none _)
      | (with_reducible refine LeO.ite ?_ ?_)
      | (with_reducible refine LeO.bind ?_ (fun _ => ?_))
      | exact ih0 _ _ _ _ _ _
      | exact ih1 _ _ _ _ _ _
      | exact LeO.none _
      | refine LeO.ite ?_ ?_
      | refine LeO.bind ?_ (fun _ => ?_)
set_option maxHeartbeats 8000000 in
set_option maxRecDepth 100000 in
theorem catafalquelaw10_SemWakes.calls (k : Nat) (a0 : Int) (a1 : Int) (r : Bool) (w : World) (h : catafalquelaw10_SemWakes.f k a0 a1 = some r) :
    Calls Try.prog 4 #[.int .u8 a0, .int .u8 a1] w fun e w' => e = .returned (.bool r) ∧ Below w.heap.size w w' := by
  have hu27 := Try.underlying27
  have HB := Aside0.mk (Below.refl w.heap.size w)
  have H : ((catafalquelaw10_shown.f).bind fun t149 => (catafalquelaw10_SemWakes.l0 k t149 (wrap64 (Int.tmod a0 6)) (wrap64 (Int.tmod a1 40)) 1 (wrap64 (Int.tmod a0 6)) ([] : List Int))) = some r := h
  clear h
  replace H := Option.bind_eq_some_iff.mp H
  obtain ⟨t149, A30, H⟩ := H
  replace H : (catafalquelaw10_SemWakes.l0 k t149 (wrap64 (Int.tmod a0 6)) (wrap64 (Int.tmod a1 40)) 1 (wrap64 (Int.tmod a0 6)) ([] : List Int)) = some r := H
  have A3 := Aside0.mk A30
  clear A30
  have H' := Aside0.mk H
  clear H
  go_enter Try.func4, Try.ntmps4
  go_wp2_with (first | ((with_reducible refine gate_callee (f := 13) rfl ?_); refine goesL_ (some 17) rfl rfl Try.func13 (by kernel_rfl) rfl #[] rfl (by (try simp only [List.map_toArray, List.map_cons, List.map_nil]); first | done | rfl | (simp only [List.length_drop, List.length_take]; rfl)) ?_; (with_reducible refine (catafalquelaw10_shown.calls  t149 _ A3.out).mono ?_); rintro e w4 ⟨rfl, hb⟩; refine ⟨_, rfl, ?_⟩; have n0_ := Aside0.mk (below_step (by repeat (first | (with_reducible first | exact HB.out | apply below_alloc | apply pw_below_drewN | apply below_drew1) | exact HB.out)) hb); clear HB; have HB := n0_; clear n0_; (try clear hb); (try clear hb2); (try clear hk); (try clear hi)) | ((with_reducible refine gate_dst (N := 8) rfl ?_); (try (refine gate_guard (by rfl) ?_; dsimp only)); refine box_event ?hg (N := 8) ?hd (cs := #[.int .i64 0, .slice none 0 0]) (t := 27) ?hr ?_; (case hd => rfl); (case hg => rfl); (case hr => first | (go_simp; done) | (go_simp; rfl)); intro gb150 hg w5 hbox hb; have n0_ := Aside0.mk (below_step (by repeat (first | (with_reducible first | exact HB.out | apply below_alloc | apply pw_below_drewN | apply below_drew1) | exact HB.out)) hb); have n1_ := Aside0.mk (hbox); have n2_ := Aside0.mk ((by rw [hg]; exact (below_size (by repeat (first | (with_reducible first | exact HB.out | apply below_alloc | apply pw_below_drewN | apply below_drew1) | exact HB.out))) : w.heap.size ≤ gb150)); have n3_ := Aside0.mk ((by rw [hg]; exact (below_size (by repeat (first | (with_reducible first | exact HB.out | apply below_alloc | apply pw_below_drewN | apply below_drew1) | exact HB.out))) : w.heap.size ≤ gb150)); clear HB; have HB := n0_; have BK150 := n1_; have GW150 := n2_; have GE150 := n3_; clear n0_ n1_ n2_ n3_; clear hb hbox hg; have hcz6_0 : w5.cell? ⟨gb150, 0, none⟩ = some (.int .i64 0) := (blk_cell BK150.out 0).trans rfl; have hcz6_1 : w5.cell? ⟨gb150, 1, none⟩ = some (.slice none 0 0) := (blk_cell BK150.out 1).trans rfl; have hfz6_0 := blk_frozen BK150.out 0; have hfz6_1 := blk_frozen BK150.out 1))
  go_loopg [9] k (fun kq v9 w' => ∃ (x9_1 : Int) (x151000_1 : Int) (x151001_1 : List Int) (u151001 : Value), v9 = .int .i64 x9_1 ∧ Aside0 (catafalquelaw10_SemWakes.l0 kq t149 (wrap64 (Int.tmod a0 6)) (wrap64 (Int.tmod a1 40)) x9_1 x151000_1 x151001_1 = some r) ∧ Aside0 (kq ≤ k) ∧ Aside0 (Kd.R (Kd.int .i64) 3 w' w.heap.size (fun _ => True) u151001 x151001_1) ∧ Aside0 (w'.heap[gb150]? = some (.cells #[.int .i64 x151000_1, u151001] 27 (0, 0))) ∧ Aside0 (Below w.heap.size w w'))
  case atStart => exact ⟨(1), (wrap64 (Int.tmod a0 6)), (([] : List Int)), (.slice none 0 0), (by first | rfl | (simp; done) | (simp [*]; done)), H', ⟨Nat.le_refl _⟩, ⟨by first | exact Kd.R_nil _ _ _ _ _ | exact Kd.N_nil _ _ _ _ _ | exact Kd.V_nil _ _ _ _ _ | exact Kd.Q_nil _ _ _ _ _ | exact Kd.S_nil _ _ _ _ _⟩, ⟨by (with_reducible repeat (first | refine blk_drewN ?_ _ | refine blk_drew ?_ | refine blk_alloc ?_ _)); refine blk_put (cs := #[.int .i64 (wrap64 (Int.tmod a0 6)), .slice none 0 0]) ?_ 1 _ rfl; (with_reducible repeat (first | refine blk_drewN ?_ _ | refine blk_drew ?_ | refine blk_alloc ?_ _)); refine blk_put (cs := #[.int .i64 0, .slice none 0 0]) ?_ 0 _ rfl; (with_reducible repeat (first | refine blk_drewN ?_ _ | refine blk_drew ?_ | refine blk_alloc ?_ _)); exact BK150.out⟩, ⟨by repeat (first | (with_reducible first | exact HB.out | apply below_alloc | apply pw_below_drewN | apply below_drew1 | refine below_set ?_ GE150.out) | exact HB.out)⟩⟩
  case round =>
    clear H'
    try clear c1
    try clear p2
    try clear c4
    try clear p6
    try clear hcz6_0
    try clear hcz6_1
    try clear hfz6_0
    try clear hfz6_1
    obtain ⟨x9_1, x151000_1, x151001_1, u151001, rfl, HA, HK1, HO_151001, BK150, HB⟩ := hrel
    cases gk with
    | zero => exact absurd HA.out (by simp [catafalquelaw10_SemWakes.l0])
    | succ k1 =>
      have H := HA.out
      clear HA
      simp only [catafalquelaw10_SemWakes.l0] at H
      by_cases c7 : x9_1 ≤ (wrap64 (Int.tmod a1 40))
      · rw [if_pos c7] at H
        have c7b0 : decide (x9_1 ≤ (wrap64 (Int.tmod a1 40))) = true := decide_eq_true c7
        clear c7
        replace H := Option.bind_eq_some_iff.mp H
        obtain ⟨⟨t151, t152, t155⟩, A80, H⟩ := H
        replace H : (if (t155 != (decide (x9_1 ≤ (wrap64 (Int.tmod a0 6))))) = true then (some false) else (catafalquelaw10_SemWakes.l0 k1 t149 (wrap64 (Int.tmod a0 6)) (wrap64 (Int.tmod a1 40)) (wrap64 (x9_1 + 1)) t151 t152)) = some r := H
        have A8 := Aside0.mk A80
        clear A80
        by_cases c9 : (t155 != (decide (x9_1 ≤ (wrap64 (Int.tmod a0 6))))) = true
        · rw [if_pos c9] at H
          have c9b0 : (t155 != (decide (x9_1 ≤ (wrap64 (Int.tmod a0 6))))) = true := c9
          (try (have c9b1 : decide (t155 = (decide (x9_1 ≤ (wrap64 (Int.tmod a0 6))))) = false := by simpa using c9))
          (try (have c9b2 : (t155 == (decide (x9_1 ≤ (wrap64 (Int.tmod a0 6))))) = false := by simpa using c9))
          (try (have c9b3 : ¬ (t155 = (decide (x9_1 ≤ (wrap64 (Int.tmod a0 6))))) := by simpa using c9))
          clear c9
          obtain rfl := Option.some.inj H
          have hcz10_0 : wr.cell? ⟨gb150, 0, none⟩ = some (.int .i64 x151000_1) := (blk_cell BK150.out 0).trans rfl
          have hcz10_1 : wr.cell? ⟨gb150, 1, none⟩ = some (u151001) := (blk_cell BK150.out 1).trans rfl
          have hfz10_0 := blk_frozen BK150.out 0
          have hfz10_1 := blk_frozen BK150.out 1
          obtain ⟨Ao11, co11, eo11⟩ := Kd.R_slice HO_151001.out
          subst eo11
          go_wp2_with (first | ((with_reducible refine gate_callee (f := 16) rfl ?_); refine goesL_ (some 34) rfl rfl Try.func16 (by kernel_rfl) rfl #[.agg #[.int .i64 x151000_1, .slice Ao11 x151001_1.length co11], .int .i64 x9_1] rfl (by (try simp only [List.map_toArray, List.map_cons, List.map_nil]); first | done | rfl | (simp only [List.length_drop, List.length_take]; rfl)) ?_; (with_reducible refine (sem_Acquire.calls x151000_1 _ _ x151001_1 x9_1 t151 t152 t155 _ ?side1 ?side2 A8.out).mono ?_); (case side1 => repeat (first | exact (Kd.R_reads' HO_151001.out).2.2 | (with_reducible refine Kd.C_alloc ?_ _) | (with_reducible refine Kd.C_drewN ?_ _) | (with_reducible refine Kd.C_drew ?_))); (case side2 => exact (Kd.R_reads' HO_151001.out).2.1); rintro e w12 ⟨v153, rfl, ho0, hb⟩; refine ⟨_, rfl, ?_⟩; have n0_ := Aside0.mk (Kd.R_elder' (by (with_reducible repeat (first | apply Kd.R_alloc | apply Kd.R_drewN | apply Kd.R_drew)); exact HO_151001.out) (Kd.R_base ho0) hb); have n1_ := Aside0.mk (Kd.R_lower (Kd.R_new' ho0 (Kd.R_lt (by (with_reducible repeat (first | apply Kd.R_alloc | apply Kd.R_drewN | apply Kd.R_drew)); exact HO_151001.out))) (below_size (by repeat (first | (with_reducible first | exact HB.out | apply below_alloc | apply pw_below_drewN | apply below_drew1 | refine below_set ?_ GE150.out) | exact HB.out)))); have n2_ := Aside0.mk (blk_below (g := gb150) (o := .cells #[.int .i64 x151000_1, .slice Ao11 x151001_1.length co11] 27 (0, 0)) (by (with_reducible repeat (first | refine blk_drewN ?_ _ | refine blk_drew ?_ | refine blk_alloc ?_ _)); exact BK150.out) hb); have n3_ := Aside0.mk (below_step (by repeat (first | (with_reducible first | exact HB.out | apply below_alloc | apply pw_below_drewN | apply below_drew1 | refine below_set ?_ GE150.out) | exact HB.out)) hb); clear HO_151001; clear BK150; clear HB; have HO_151001 := n0_; have HO154 := n1_; have BK150 := n2_; have HB := n3_; clear n0_ n1_ n2_ n3_; (try clear hb); (try clear hb2); (try clear hk); (try clear hi); (try clear ho0)) | ((with_reducible refine gate_dst (N := 10) rfl ?_); (try (refine gate_guard (by rfl) ?_; dsimp only)); refine box_event ?hg (N := 10) ?hd (cs := #[.int .i64 0, .slice none 0 0]) (t := 27) ?hr ?_; (case hd => rfl); (case hg => rfl); (case hr => first | (go_simp; done) | (go_simp; rfl)); intro gb156 hg w13 hbox hb; have n0_ := Aside0.mk (Kd.R_below (by (with_reducible repeat (first | apply Kd.R_alloc | apply Kd.R_drewN | apply Kd.R_drew)); exact HO_151001.out) hb); have n1_ := Aside0.mk (Kd.R_below (by (with_reducible repeat (first | apply Kd.R_alloc | apply Kd.R_drewN | apply Kd.R_drew)); exact HO154.out) hb); have n2_ := Aside0.mk (blk_below (g := gb150) (o := .cells #[.int .i64 x151000_1, .slice Ao11 x151001_1.length co11] 27 (0, 0)) (by (with_reducible repeat (first | refine blk_drewN ?_ _ | refine blk_drew ?_ | refine blk_alloc ?_ _)); exact BK150.out) hb); have n3_ := Aside0.mk (below_step (by repeat (first | (with_reducible first | exact HB.out | apply below_alloc | apply pw_below_drewN | apply below_drew1 | refine below_set ?_ GE150.out) | exact HB.out)) hb); have n4_ := Aside0.mk (hbox); have n5_ := Aside0.mk ((by rw [hg]; exact (below_size (by repeat (first | (with_reducible first | exact HB.out | apply below_alloc | apply pw_below_drewN | apply below_drew1 | refine below_set ?_ GE150.out) | exact HB.out))) : w.heap.size ≤ gb156)); have n6_ := Aside0.mk ((by rw [hg]; exact (below_size (by repeat (first | (with_reducible first | exact HB.out | apply below_alloc | apply pw_below_drewN | apply below_drew1 | refine below_set ?_ GE150.out) | exact HB.out))) : w.heap.size ≤ gb156)); have n7_ := Aside0.mk ((by rw [hg]; exact Nat.ne_of_lt (blk_lt (g := gb150) (o := .cells #[.int .i64 x151000_1, .slice Ao11 x151001_1.length co11] 27 (0, 0)) (by (with_reducible repeat (first | refine blk_drewN ?_ _ | refine blk_drew ?_ | refine blk_alloc ?_ _)); exact BK150.out)) : gb150 ≠ gb156)); have n8_ := Aside0.mk ((by rw [hg]; exact Nat.ne_of_gt (blk_lt (g := gb150) (o := .cells #[.int .i64 x151000_1, .slice Ao11 x151001_1.length co11] 27 (0, 0)) (by (with_reducible repeat (first | refine blk_drewN ?_ _ | refine blk_drew ?_ | refine blk_alloc ?_ _)); exact BK150.out)) : gb156 ≠ gb150)); clear HO_151001; clear HO154; clear BK150; clear HB; have HO_151001 := n0_; have HO154 := n1_; have BK150 := n2_; have HB := n3_; have BK156 := n4_; have GW156 := n5_; have GE156 := n6_; have NB150_156 := n7_; have NB156_150 := n8_; clear n0_ n1_ n2_ n3_ n4_ n5_ n6_ n7_ n8_; clear hb hbox hg; have hnb14 := NB156_150.out; have hnc14 := NB150_156.out; have hcz15_0 : w13.cell? ⟨gb156, 0, none⟩ = some (.int .i64 0) := (blk_cell BK156.out 0).trans rfl; have hcz15_1 : w13.cell? ⟨gb156, 1, none⟩ = some (.slice none 0 0) := (blk_cell BK156.out 1).trans rfl; have hfz15_0 := blk_frozen BK156.out 0; have hfz15_1 := blk_frozen BK156.out 1; obtain ⟨Ao16, co16, eo16⟩ := Kd.R_slice HO154.out; subst eo16; have hcz17_0 : w13.cell? ⟨gb150, 0, none⟩ = some (.int .i64 x151000_1) := (blk_cell BK150.out 0).trans rfl; have hcz17_1 : w13.cell? ⟨gb150, 1, none⟩ = some (.slice Ao11 x151001_1.length co11) := (blk_cell BK150.out 1).trans rfl; have hfz17_0 := blk_frozen BK150.out 0; have hfz17_1 := blk_frozen BK150.out 1))
          go_ret
          exact ⟨by first | rfl | (simp [errW_none, errW_some] <;> rfl) | (simp [*, errW_none, errW_some] <;> rfl), by repeat (first | (with_reducible first | exact HB.out | apply below_alloc | apply pw_below_drewN | apply below_drew1 | refine below_set ?_ GE150.out | refine below_set ?_ GE156.out) | exact HB.out)⟩
        · rw [if_neg c9] at H
          have c9b0 : (t155 != (decide (x9_1 ≤ (wrap64 (Int.tmod a0 6))))) = false := by simpa using c9
          (try (have c9b1 : decide (t155 = (decide (x9_1 ≤ (wrap64 (Int.tmod a0 6))))) = true := by simpa using c9))
          (try (have c9b2 : (t155 == (decide (x9_1 ≤ (wrap64 (Int.tmod a0 6))))) = true := by simpa using c9))
          clear c9
          have H' := Aside0.mk H
          clear H
          have hcz18_0 : wr.cell? ⟨gb150, 0, none⟩ = some (.int .i64 x151000_1) := (blk_cell BK150.out 0).trans rfl
          have hcz18_1 : wr.cell? ⟨gb150, 1, none⟩ = some (u151001) := (blk_cell BK150.out 1).trans rfl
          have hfz18_0 := blk_frozen BK150.out 0
          have hfz18_1 := blk_frozen BK150.out 1
          obtain ⟨Ao19, co19, eo19⟩ := Kd.R_slice HO_151001.out
          subst eo19
          go_wp2_with (first | ((with_reducible refine gate_callee (f := 16) rfl ?_); refine goesL_ (some 34) rfl rfl Try.func16 (by kernel_rfl) rfl #[.agg #[.int .i64 x151000_1, .slice Ao19 x151001_1.length co19], .int .i64 x9_1] rfl (by (try simp only [List.map_toArray, List.map_cons, List.map_nil]); first | done | rfl | (simp only [List.length_drop, List.length_take]; rfl)) ?_; (with_reducible refine (sem_Acquire.calls x151000_1 _ _ x151001_1 x9_1 t151 t152 t155 _ ?side1 ?side2 A8.out).mono ?_); (case side1 => repeat (first | exact (Kd.R_reads' HO_151001.out).2.2 | (with_reducible refine Kd.C_alloc ?_ _) | (with_reducible refine Kd.C_drewN ?_ _) | (with_reducible refine Kd.C_drew ?_))); (case side2 => exact (Kd.R_reads' HO_151001.out).2.1); rintro e w20 ⟨v153, rfl, ho0, hb⟩; refine ⟨_, rfl, ?_⟩; have n0_ := Aside0.mk (Kd.R_elder' (by (with_reducible repeat (first | apply Kd.R_alloc | apply Kd.R_drewN | apply Kd.R_drew)); exact HO_151001.out) (Kd.R_base ho0) hb); have n1_ := Aside0.mk (Kd.R_lower (Kd.R_new' ho0 (Kd.R_lt (by (with_reducible repeat (first | apply Kd.R_alloc | apply Kd.R_drewN | apply Kd.R_drew)); exact HO_151001.out))) (below_size (by repeat (first | (with_reducible first | exact HB.out | apply below_alloc | apply pw_below_drewN | apply below_drew1 | refine below_set ?_ GE150.out) | exact HB.out)))); have n2_ := Aside0.mk (blk_below (g := gb150) (o := .cells #[.int .i64 x151000_1, .slice Ao19 x151001_1.length co19] 27 (0, 0)) (by (with_reducible repeat (first | refine blk_drewN ?_ _ | refine blk_drew ?_ | refine blk_alloc ?_ _)); exact BK150.out) hb); have n3_ := Aside0.mk (below_step (by repeat (first | (with_reducible first | exact HB.out | apply below_alloc | apply pw_below_drewN | apply below_drew1 | refine below_set ?_ GE150.out) | exact HB.out)) hb); clear HO_151001; clear BK150; clear HB; have HO_151001 := n0_; have HO154 := n1_; have BK150 := n2_; have HB := n3_; clear n0_ n1_ n2_ n3_; (try clear hb); (try clear hb2); (try clear hk); (try clear hi); (try clear ho0)) | ((with_reducible refine gate_dst (N := 10) rfl ?_); (try (refine gate_guard (by rfl) ?_; dsimp only)); refine box_event ?hg (N := 10) ?hd (cs := #[.int .i64 0, .slice none 0 0]) (t := 27) ?hr ?_; (case hd => rfl); (case hg => rfl); (case hr => first | (go_simp; done) | (go_simp; rfl)); intro gb156 hg w21 hbox hb; have n0_ := Aside0.mk (Kd.R_below (by (with_reducible repeat (first | apply Kd.R_alloc | apply Kd.R_drewN | apply Kd.R_drew)); exact HO_151001.out) hb); have n1_ := Aside0.mk (Kd.R_below (by (with_reducible repeat (first | apply Kd.R_alloc | apply Kd.R_drewN | apply Kd.R_drew)); exact HO154.out) hb); have n2_ := Aside0.mk (blk_below (g := gb150) (o := .cells #[.int .i64 x151000_1, .slice Ao19 x151001_1.length co19] 27 (0, 0)) (by (with_reducible repeat (first | refine blk_drewN ?_ _ | refine blk_drew ?_ | refine blk_alloc ?_ _)); exact BK150.out) hb); have n3_ := Aside0.mk (below_step (by repeat (first | (with_reducible first | exact HB.out | apply below_alloc | apply pw_below_drewN | apply below_drew1 | refine below_set ?_ GE150.out) | exact HB.out)) hb); have n4_ := Aside0.mk (hbox); have n5_ := Aside0.mk ((by rw [hg]; exact (below_size (by repeat (first | (with_reducible first | exact HB.out | apply below_alloc | apply pw_below_drewN | apply below_drew1 | refine below_set ?_ GE150.out) | exact HB.out))) : w.heap.size ≤ gb156)); have n6_ := Aside0.mk ((by rw [hg]; exact (below_size (by repeat (first | (with_reducible first | exact HB.out | apply below_alloc | apply pw_below_drewN | apply below_drew1 | refine below_set ?_ GE150.out) | exact HB.out))) : w.heap.size ≤ gb156)); have n7_ := Aside0.mk ((by rw [hg]; exact Nat.ne_of_lt (blk_lt (g := gb150) (o := .cells #[.int .i64 x151000_1, .slice Ao19 x151001_1.length co19] 27 (0, 0)) (by (with_reducible repeat (first | refine blk_drewN ?_ _ | refine blk_drew ?_ | refine blk_alloc ?_ _)); exact BK150.out)) : gb150 ≠ gb156)); have n8_ := Aside0.mk ((by rw [hg]; exact Nat.ne_of_gt (blk_lt (g := gb150) (o := .cells #[.int .i64 x151000_1, .slice Ao19 x151001_1.length co19] 27 (0, 0)) (by (with_reducible repeat (first | refine blk_drewN ?_ _ | refine blk_drew ?_ | refine blk_alloc ?_ _)); exact BK150.out)) : gb156 ≠ gb150)); clear HO_151001; clear HO154; clear BK150; clear HB; have HO_151001 := n0_; have HO154 := n1_; have BK150 := n2_; have HB := n3_; have BK156 := n4_; have GW156 := n5_; have GE156 := n6_; have NB150_156 := n7_; have NB156_150 := n8_; clear n0_ n1_ n2_ n3_ n4_ n5_ n6_ n7_ n8_; clear hb hbox hg; have hnb22 := NB156_150.out; have hnc22 := NB150_156.out; have hcz23_0 : w21.cell? ⟨gb156, 0, none⟩ = some (.int .i64 0) := (blk_cell BK156.out 0).trans rfl; have hcz23_1 : w21.cell? ⟨gb156, 1, none⟩ = some (.slice none 0 0) := (blk_cell BK156.out 1).trans rfl; have hfz23_0 := blk_frozen BK156.out 0; have hfz23_1 := blk_frozen BK156.out 1; obtain ⟨Ao24, co24, eo24⟩ := Kd.R_slice HO154.out; subst eo24; have hcz25_0 : w21.cell? ⟨gb150, 0, none⟩ = some (.int .i64 x151000_1) := (blk_cell BK150.out 0).trans rfl; have hcz25_1 : w21.cell? ⟨gb150, 1, none⟩ = some (.slice Ao19 x151001_1.length co19) := (blk_cell BK150.out 1).trans rfl; have hfz25_0 := blk_frozen BK150.out 0; have hfz25_1 := blk_frozen BK150.out 1))
          go_roundg k1
          case measure => have := HK1.out; omega
          case rel => exact ⟨(wrap64 (x9_1 + 1)), (t151), (t152), (.slice Ao24 t152.length co24), (by first | rfl | (simp; done) | (simp [*]; done)), H', ⟨by have := HK1.out; omega⟩, ⟨by (with_reducible repeat (first | apply Kd.R_alloc | apply Kd.R_drewN | apply Kd.R_drew)); exact Kd.R_mono (Kd.R_far (p := ⟨gb150, 1, none⟩) (Kd.R_far (p := ⟨gb150, 0, none⟩) (Kd.R_far (p := ⟨gb156, 1, none⟩) (Kd.R_far (p := ⟨gb156, 0, none⟩) (Kd.R_types (Kd.R_types HO154.out BK156.out (by decide)) BK150.out (by decide)) (fun _ hk => hk.1.2) (.int .i64 t151)) (fun _ hk => hk.1.2) (.slice Ao24 t152.length co24)) (fun _ hk => hk.2) (.int .i64 t151)) (fun _ hk => hk.2) (.slice Ao24 t152.length co24)) (fun _ hk => trivial)⟩, ⟨by (with_reducible repeat (first | refine blk_drewN ?_ _ | refine blk_drew ?_ | refine blk_alloc ?_ _)); refine blk_put (cs := #[.int .i64 t151, .slice Ao19 x151001_1.length co19]) ?_ 1 _ rfl; (with_reducible repeat (first | refine blk_drewN ?_ _ | refine blk_drew ?_ | refine blk_alloc ?_ _)); refine blk_put (cs := #[.int .i64 x151000_1, .slice Ao19 x151001_1.length co19]) ?_ 0 _ rfl; (with_reducible repeat (first | refine blk_drewN ?_ _ | refine blk_drew ?_ | refine blk_alloc ?_ _)); refine blk_far ?_ NB150_156.out _; (with_reducible repeat (first | refine blk_drewN ?_ _ | refine blk_drew ?_ | refine blk_alloc ?_ _)); refine blk_far ?_ NB150_156.out _; (with_reducible repeat (first | refine blk_drewN ?_ _ | refine blk_drew ?_ | refine blk_alloc ?_ _)); exact BK150.out⟩, ⟨by repeat (first | (with_reducible first | exact HB.out | apply below_alloc | apply pw_below_drewN | apply below_drew1 | refine below_set ?_ GE150.out | refine below_set ?_ GE156.out) | exact HB.out)⟩⟩
      · rw [if_neg c7] at H
        have c7b0 : decide (x9_1 ≤ (wrap64 (Int.tmod a1 40))) = false := decide_eq_false c7
        clear c7
        have H' := Aside0.mk H
        clear H
        go_wp2
        go_loopg [12] k1 (fun kq v12 w' => ∃ (x12_2 : Int) (x151000_2 : Int) (x151001_2 : List Int) (u151001 : Value), v12 = .int .i64 x12_2 ∧ Aside0 (catafalquelaw10_SemWakes.l1 kq t149 (wrap64 (Int.tmod a0 6)) (wrap64 (Int.tmod a1 40)) x12_2 x151000_2 x151001_2 = some r) ∧ Aside0 (kq ≤ k1) ∧ Aside0 (Kd.R (Kd.int .i64) 3 w' w.heap.size (fun _ => True) u151001 x151001_2) ∧ Aside0 (w'.heap[gb150]? = some (.cells #[.int .i64 x151000_2, u151001] 27 (0, 0))) ∧ Aside0 (Below w.heap.size w w'))
        case atStart => exact ⟨(wrap64 ((wrap64 (Int.tmod a0 6)) + 1)), (x151000_1), (x151001_1), (u151001), (by first | rfl | (simp; done) | (simp [*]; done)), H', ⟨Nat.le_refl _⟩, ⟨by (with_reducible repeat (first | apply Kd.R_alloc | apply Kd.R_drewN | apply Kd.R_drew)); exact HO_151001.out⟩, ⟨by (with_reducible repeat (first | refine blk_drewN ?_ _ | refine blk_drew ?_ | refine blk_alloc ?_ _)); exact BK150.out⟩, ⟨by repeat (first | (with_reducible first | exact HB.out | apply below_alloc | apply pw_below_drewN | apply below_drew1 | refine below_set ?_ GE150.out) | exact HB.out)⟩⟩
        case round =>
          clear H'
          try clear c1
          try clear c2
          try clear p2
          try clear c4
          try clear p6
          try clear c7
          try clear c7b0
          try clear c9
          try clear c9b0
          try clear c9b1
          try clear c9b2
          try clear c13
          try clear c14
          try clear c16
          try clear c22
          try clear hcz10_0
          try clear hcz10_1
          try clear hcz15_0
          try clear hcz15_1
          try clear hcz17_0
          try clear hcz17_1
          try clear hcz18_0
          try clear hcz18_1
          try clear hcz23_0
          try clear hcz23_1
          try clear hcz25_0
          try clear hcz25_1
          try clear hcz6_0
          try clear hcz6_1
          try clear hfz10_0
          try clear hfz10_1
          try clear hfz15_0
          try clear hfz15_1
          try clear hfz17_0
          try clear hfz17_1
          try clear hfz18_0
          try clear hfz18_1
          try clear hfz23_0
          try clear hfz23_1
          try clear hfz25_0
          try clear hfz25_1
          try clear hfz6_0
          try clear hfz6_1
          try clear p2
          try clear p6
          obtain ⟨x12_2, x151000_2, x151001_2, u151001, rfl, HA, HK2, HO_151001, BK150, HB⟩ := hrel
          cases gk with
          | zero => exact absurd HA.out (by simp [catafalquelaw10_SemWakes.l1])
          | succ k2 =>
            have H := HA.out
            clear HA
            simp only [catafalquelaw10_SemWakes.l1] at H
            by_cases c26 : x12_2 ≤ (wrap64 (Int.tmod a1 40))
            · rw [if_pos c26] at H
              have c26b0 : decide (x12_2 ≤ (wrap64 (Int.tmod a1 40))) = true := decide_eq_true c26
              clear c26
              replace H := Option.bind_eq_some_iff.mp H
              obtain ⟨⟨t157, t158, t161⟩, A270, H⟩ := H
              replace H : (if t161 = x12_2 then (catafalquelaw10_SemWakes.l1 k2 t149 (wrap64 (Int.tmod a0 6)) (wrap64 (Int.tmod a1 40)) (wrap64 (x12_2 + 1)) t157 t158) else (some false)) = some r := H
              have A27 := Aside0.mk A270
              clear A270
              by_cases c28 : t161 = x12_2
              · rw [if_pos c28] at H
                have c28b0 : (t161 == x12_2) = true := beq_iff_eq.mpr c28
                have c28b1 : (t161 != x12_2) = false := bne_eq_false_iff_eq.mpr c28
                clear c28
                have H' := Aside0.mk H
                clear H
                have hcz29_0 : wr.cell? ⟨gb150, 0, none⟩ = some (.int .i64 x151000_2) := (blk_cell BK150.out 0).trans rfl
                have hcz29_1 : wr.cell? ⟨gb150, 1, none⟩ = some (u151001) := (blk_cell BK150.out 1).trans rfl
                have hfz29_0 := blk_frozen BK150.out 0
                have hfz29_1 := blk_frozen BK150.out 1
                obtain ⟨Ao30, co30, eo30⟩ := Kd.R_slice HO_151001.out
                subst eo30
                go_wp2_with (first | ((with_reducible refine gate_callee (f := 17) rfl ?_); refine goesL_ (some 52) rfl rfl Try.func17 (by kernel_rfl) rfl #[.agg #[.int .i64 x151000_2, .slice Ao30 x151001_2.length co30]] rfl (by (try simp only [List.map_toArray, List.map_cons, List.map_nil]); first | done | rfl | (simp only [List.length_drop, List.length_take]; rfl)) ?_; (with_reducible refine (sem_Release.calls x151000_2 (fun k_ => some k_ = (.slice Ao30 x151001_2.length co30 : Value).ownBlock) (.slice Ao30 x151001_2.length co30) x151001_2 t157 t158 t161 w _ ?side1 ?side2 A27.out).mono ?_); (case side1 => repeat (first | (with_reducible first | exact HB.out | apply below_alloc | apply pw_below_drewN | apply below_drew1 | refine below_set ?_ GE150.out) | exact HB.out)); (case side2 => exact Kd.R_tight rfl HO_151001.out); rintro e w31 ⟨v159, rfl, ho0, hb, hkp⟩; refine ⟨_, rfl, ?_⟩; have n0_ := Aside0.mk (blk_kept (by (with_reducible repeat (first | refine blk_drewN ?_ _ | refine blk_drew ?_ | refine blk_alloc ?_ _)); exact BK150.out) hkp (fun hs_ => (fun e_ => (Kd.R_ne HO_151001.out BK150.out (by decide)) e_) hs_)); have n1_ := Aside0.mk (Kd.R_mono (ok' := fun k_ => True) ho0 (fun k_ hk_ => trivial)); have n2_ := Aside0.mk (hb); clear BK150; clear HB; clear HO_151001; have BK150 := n0_; have HO160 := n1_; have HB := n2_; clear n0_ n1_ n2_; (try clear hb); (try clear hkp); (try clear ho0)) | ((with_reducible refine gate_dst (N := 13) rfl ?_); (try (refine gate_guard (by rfl) ?_; dsimp only)); refine box_event ?hg (N := 13) ?hd (cs := #[.int .i64 0, .slice none 0 0]) (t := 27) ?hr ?_; (case hd => rfl); (case hg => rfl); (case hr => first | (go_simp; done) | (go_simp; rfl)); intro gb162 hg w32 hbox hb; have n0_ := Aside0.mk (Kd.R_below (by (with_reducible repeat (first | apply Kd.R_alloc | apply Kd.R_drewN | apply Kd.R_drew)); exact HO160.out) hb); have n1_ := Aside0.mk (blk_below (g := gb150) (o := .cells #[.int .i64 x151000_2, .slice Ao30 x151001_2.length co30] 27 (0, 0)) (by (with_reducible repeat (first | refine blk_drewN ?_ _ | refine blk_drew ?_ | refine blk_alloc ?_ _)); exact BK150.out) hb); have n2_ := Aside0.mk (below_step (by repeat (first | (with_reducible first | exact HB.out | apply below_alloc | apply pw_below_drewN | apply below_drew1 | refine below_set ?_ GE150.out) | exact HB.out)) hb); have n3_ := Aside0.mk (hbox); have n4_ := Aside0.mk ((by rw [hg]; exact (below_size (by repeat (first | (with_reducible first | exact HB.out | apply below_alloc | apply pw_below_drewN | apply below_drew1 | refine below_set ?_ GE150.out) | exact HB.out))) : w.heap.size ≤ gb162)); have n5_ := Aside0.mk ((by rw [hg]; exact (below_size (by repeat (first | (with_reducible first | exact HB.out | apply below_alloc | apply pw_below_drewN | apply below_drew1 | refine below_set ?_ GE150.out) | exact HB.out))) : w.heap.size ≤ gb162)); have n6_ := Aside0.mk ((by rw [hg]; exact Nat.ne_of_lt (blk_lt (g := gb150) (o := .cells #[.int .i64 x151000_2, .slice Ao30 x151001_2.length co30] 27 (0, 0)) (by (with_reducible repeat (first | refine blk_drewN ?_ _ | refine blk_drew ?_ | refine blk_alloc ?_ _)); exact BK150.out)) : gb150 ≠ gb162)); have n7_ := Aside0.mk ((by rw [hg]; exact Nat.ne_of_gt (blk_lt (g := gb150) (o := .cells #[.int .i64 x151000_2, .slice Ao30 x151001_2.length co30] 27 (0, 0)) (by (with_reducible repeat (first | refine blk_drewN ?_ _ | refine blk_drew ?_ | refine blk_alloc ?_ _)); exact BK150.out)) : gb162 ≠ gb150)); clear HO160; clear BK150; clear HB; have HO160 := n0_; have BK150 := n1_; have HB := n2_; have BK162 := n3_; have GW162 := n4_; have GE162 := n5_; have NB150_162 := n6_; have NB162_150 := n7_; clear n0_ n1_ n2_ n3_ n4_ n5_ n6_ n7_; clear hb hbox hg; have hnb33 := NB162_150.out; have hnc33 := NB150_162.out; have hcz34_0 : w32.cell? ⟨gb162, 0, none⟩ = some (.int .i64 0) := (blk_cell BK162.out 0).trans rfl; have hcz34_1 : w32.cell? ⟨gb162, 1, none⟩ = some (.slice none 0 0) := (blk_cell BK162.out 1).trans rfl; have hfz34_0 := blk_frozen BK162.out 0; have hfz34_1 := blk_frozen BK162.out 1; obtain ⟨Ao35, co35, eo35⟩ := Kd.R_slice HO160.out; subst eo35; have hcz36_0 : w32.cell? ⟨gb150, 0, none⟩ = some (.int .i64 x151000_2) := (blk_cell BK150.out 0).trans rfl; have hcz36_1 : w32.cell? ⟨gb150, 1, none⟩ = some (.slice Ao30 x151001_2.length co30) := (blk_cell BK150.out 1).trans rfl; have hfz36_0 := blk_frozen BK150.out 0; have hfz36_1 := blk_frozen BK150.out 1))
                go_roundg k2
                case measure => have := HK1.out; have := HK2.out; omega
                case rel => exact ⟨(wrap64 (x12_2 + 1)), (t157), (t158), (.slice Ao35 t158.length co35), (by first | rfl | (simp; done) | (simp [*]; done)), H', ⟨by have := HK1.out; have := HK2.out; omega⟩, ⟨by (with_reducible repeat (first | apply Kd.R_alloc | apply Kd.R_drewN | apply Kd.R_drew)); exact Kd.R_mono (Kd.R_far (p := ⟨gb150, 1, none⟩) (Kd.R_far (p := ⟨gb150, 0, none⟩) (Kd.R_far (p := ⟨gb162, 1, none⟩) (Kd.R_far (p := ⟨gb162, 0, none⟩) (Kd.R_types (Kd.R_types HO160.out BK162.out (by decide)) BK150.out (by decide)) (fun _ hk => hk.1.2) (.int .i64 t157)) (fun _ hk => hk.1.2) (.slice Ao35 t158.length co35)) (fun _ hk => hk.2) (.int .i64 t157)) (fun _ hk => hk.2) (.slice Ao35 t158.length co35)) (fun _ hk => trivial)⟩, ⟨by (with_reducible repeat (first | refine blk_drewN ?_ _ | refine blk_drew ?_ | refine blk_alloc ?_ _)); refine blk_put (cs := #[.int .i64 t157, .slice Ao30 x151001_2.length co30]) ?_ 1 _ rfl; (with_reducible repeat (first | refine blk_drewN ?_ _ | refine blk_drew ?_ | refine blk_alloc ?_ _)); refine blk_put (cs := #[.int .i64 x151000_2, .slice Ao30 x151001_2.length co30]) ?_ 0 _ rfl; (with_reducible repeat (first | refine blk_drewN ?_ _ | refine blk_drew ?_ | refine blk_alloc ?_ _)); refine blk_far ?_ NB150_162.out _; (with_reducible repeat (first | refine blk_drewN ?_ _ | refine blk_drew ?_ | refine blk_alloc ?_ _)); refine blk_far ?_ NB150_162.out _; (with_reducible repeat (first | refine blk_drewN ?_ _ | refine blk_drew ?_ | refine blk_alloc ?_ _)); exact BK150.out⟩, ⟨by repeat (first | (with_reducible first | exact HB.out | apply below_alloc | apply pw_below_drewN | apply below_drew1 | refine below_set ?_ GE150.out | refine below_set ?_ GE162.out) | exact HB.out)⟩⟩
              · rw [if_neg c28] at H
                have c28b0 : (t161 == x12_2) = false := beq_eq_false_iff_ne.mpr c28
                have c28b1 : (t161 != x12_2) = true := bne_iff_ne.mpr c28
                obtain rfl := Option.some.inj H
                have hcz37_0 : wr.cell? ⟨gb150, 0, none⟩ = some (.int .i64 x151000_2) := (blk_cell BK150.out 0).trans rfl
                have hcz37_1 : wr.cell? ⟨gb150, 1, none⟩ = some (u151001) := (blk_cell BK150.out 1).trans rfl
                have hfz37_0 := blk_frozen BK150.out 0
                have hfz37_1 := blk_frozen BK150.out 1
                obtain ⟨Ao38, co38, eo38⟩ := Kd.R_slice HO_151001.out
                subst eo38
                go_wp2_with (first | ((with_reducible refine gate_callee (f := 17) rfl ?_); refine goesL_ (some 52) rfl rfl Try.func17 (by kernel_rfl) rfl #[.agg #[.int .i64 x151000_2, .slice Ao38 x151001_2.length co38]] rfl (by (try simp only [List.map_toArray, List.map_cons, List.map_nil]); first | done | rfl | (simp only [List.length_drop, List.length_take]; rfl)) ?_; (with_reducible refine (sem_Release.calls x151000_2 (fun k_ => some k_ = (.slice Ao38 x151001_2.length co38 : Value).ownBlock) (.slice Ao38 x151001_2.length co38) x151001_2 t157 t158 t161 w _ ?side1 ?side2 A27.out).mono ?_); (case side1 => repeat (first | (with_reducible first | exact HB.out | apply below_alloc | apply pw_below_drewN | apply below_drew1 | refine below_set ?_ GE150.out) | exact HB.out)); (case side2 => exact Kd.R_tight rfl HO_151001.out); rintro e w39 ⟨v159, rfl, ho0, hb, hkp⟩; refine ⟨_, rfl, ?_⟩; have n0_ := Aside0.mk (blk_kept (by (with_reducible repeat (first | refine blk_drewN ?_ _ | refine blk_drew ?_ | refine blk_alloc ?_ _)); exact BK150.out) hkp (fun hs_ => (fun e_ => (Kd.R_ne HO_151001.out BK150.out (by decide)) e_) hs_)); have n1_ := Aside0.mk (Kd.R_mono (ok' := fun k_ => True) ho0 (fun k_ hk_ => trivial)); have n2_ := Aside0.mk (hb); clear BK150; clear HB; clear HO_151001; have BK150 := n0_; have HO160 := n1_; have HB := n2_; clear n0_ n1_ n2_; (try clear hb); (try clear hkp); (try clear ho0)) | ((with_reducible refine gate_dst (N := 13) rfl ?_); (try (refine gate_guard (by rfl) ?_; dsimp only)); refine box_event ?hg (N := 13) ?hd (cs := #[.int .i64 0, .slice none 0 0]) (t := 27) ?hr ?_; (case hd => rfl); (case hg => rfl); (case hr => first | (go_simp; done) | (go_simp; rfl)); intro gb162 hg w40 hbox hb; have n0_ := Aside0.mk (Kd.R_below (by (with_reducible repeat (first | apply Kd.R_alloc | apply Kd.R_drewN | apply Kd.R_drew)); exact HO160.out) hb); have n1_ := Aside0.mk (blk_below (g := gb150) (o := .cells #[.int .i64 x151000_2, .slice Ao38 x151001_2.length co38] 27 (0, 0)) (by (with_reducible repeat (first | refine blk_drewN ?_ _ | refine blk_drew ?_ | refine blk_alloc ?_ _)); exact BK150.out) hb); have n2_ := Aside0.mk (below_step (by repeat (first | (with_reducible first | exact HB.out | apply below_alloc | apply pw_below_drewN | apply below_drew1 | refine below_set ?_ GE150.out) | exact HB.out)) hb); have n3_ := Aside0.mk (hbox); have n4_ := Aside0.mk ((by rw [hg]; exact (below_size (by repeat (first | (with_reducible first | exact HB.out | apply below_alloc | apply pw_below_drewN | apply below_drew1 | refine below_set ?_ GE150.out) | exact HB.out))) : w.heap.size ≤ gb162)); have n5_ := Aside0.mk ((by rw [hg]; exact (below_size (by repeat (first | (with_reducible first | exact HB.out | apply below_alloc | apply pw_below_drewN | apply below_drew1 | refine below_set ?_ GE150.out) | exact HB.out))) : w.heap.size ≤ gb162)); have n6_ := Aside0.mk ((by rw [hg]; exact Nat.ne_of_lt (blk_lt (g := gb150) (o := .cells #[.int .i64 x151000_2, .slice Ao38 x151001_2.length co38] 27 (0, 0)) (by (with_reducible repeat (first | refine blk_drewN ?_ _ | refine blk_drew ?_ | refine blk_alloc ?_ _)); exact BK150.out)) : gb150 ≠ gb162)); have n7_ := Aside0.mk ((by rw [hg]; exact Nat.ne_of_gt (blk_lt (g := gb150) (o := .cells #[.int .i64 x151000_2, .slice Ao38 x151001_2.length co38] 27 (0, 0)) (by (with_reducible repeat (first | refine blk_drewN ?_ _ | refine blk_drew ?_ | refine blk_alloc ?_ _)); exact BK150.out)) : gb162 ≠ gb150)); clear HO160; clear BK150; clear HB; have HO160 := n0_; have BK150 := n1_; have HB := n2_; have BK162 := n3_; have GW162 := n4_; have GE162 := n5_; have NB150_162 := n6_; have NB162_150 := n7_; clear n0_ n1_ n2_ n3_ n4_ n5_ n6_ n7_; clear hb hbox hg; have hnb41 := NB162_150.out; have hnc41 := NB150_162.out; have hcz42_0 : w40.cell? ⟨gb162, 0, none⟩ = some (.int .i64 0) := (blk_cell BK162.out 0).trans rfl; have hcz42_1 : w40.cell? ⟨gb162, 1, none⟩ = some (.slice none 0 0) := (blk_cell BK162.out 1).trans rfl; have hfz42_0 := blk_frozen BK162.out 0; have hfz42_1 := blk_frozen BK162.out 1; obtain ⟨Ao43, co43, eo43⟩ := Kd.R_slice HO160.out; subst eo43; have hcz44_0 : w40.cell? ⟨gb150, 0, none⟩ = some (.int .i64 x151000_2) := (blk_cell BK150.out 0).trans rfl; have hcz44_1 : w40.cell? ⟨gb150, 1, none⟩ = some (.slice Ao38 x151001_2.length co38) := (blk_cell BK150.out 1).trans rfl; have hfz44_0 := blk_frozen BK150.out 0; have hfz44_1 := blk_frozen BK150.out 1))
                go_ret
                exact ⟨by first | rfl | (simp [errW_none, errW_some] <;> rfl) | (simp [*, errW_none, errW_some] <;> rfl), by repeat (first | (with_reducible first | exact HB.out | apply below_alloc | apply pw_below_drewN | apply below_drew1 | refine below_set ?_ GE150.out | refine below_set ?_ GE162.out) | exact HB.out)⟩
            · rw [if_neg c26] at H
              have c26b0 : decide (x12_2 ≤ (wrap64 (Int.tmod a1 40))) = false := decide_eq_false c26
              clear c26
              replace H := Option.bind_eq_some_iff.mp H
              obtain ⟨⟨t163, t164, t167⟩, A450, H⟩ := H
              replace H : (if t149 = true then (if t167 = 0 then (if (t164.length : Int) = 0 then (some (t163 == (wrap64 ((mx (wrap64 ((wrap64 (Int.tmod a0 6)) - (wrap64 (Int.tmod a1 40)))) 0) + 1)))) else (some false)) else (some false)) else (some false)) = some r := H
              have A45 := Aside0.mk A450
              clear A450
              by_cases c46 : t149 = true
              · subst c46
                have H1 : (if t167 = 0 then (if (t164.length : Int) = 0 then (some (t163 == (wrap64 ((mx (wrap64 ((wrap64 (Int.tmod a0 6)) - (wrap64 (Int.tmod a1 40)))) 0) + 1)))) else (some false)) else (some false)) = some r := by rw [if_pos rfl] at H; exact H
                clear H
                have H := H1
                clear H1
                by_cases c47 : t167 = 0
                · rw [if_pos c47] at H
                  have c47b0 : (t167 == 0) = true := beq_iff_eq.mpr c47
                  have c47b1 : (t167 != 0) = false := bne_eq_false_iff_eq.mpr c47
                  clear c47
                  by_cases c48 : (t164.length : Int) = 0
                  · rw [if_pos c48] at H
                    have c48b0 : ((t164.length : Int) == 0) = true := beq_iff_eq.mpr c48
                    have c48b1 : ((t164.length : Int) != 0) = false := bne_eq_false_iff_eq.mpr c48
                    clear c48
                    obtain ⟨ji49, hji49⟩ : ∃ j_ : Int, (mx (wrap64 ((wrap64 (Int.tmod a0 6)) - (wrap64 (Int.tmod a1 40)))) 0) = j_ := ⟨_, rfl⟩
                    replace H : (some (t163 == (wrap64 ((ji49) + 1)))) = some r := by first | (rw [hji49] at H; exact H) | (simp only [hji49] at H ⊢; exact H)
                    (try rw [hji49] at A45)
                    have hji49_ : (if (wrap64 ((wrap64 (Int.tmod a0 6)) - (wrap64 (Int.tmod a1 40)))) < 0 then 0 else (wrap64 ((wrap64 (Int.tmod a0 6)) - (wrap64 (Int.tmod a1 40))))) = ji49 := hji49
                    obtain rfl := Option.some.inj H
                    have hcz50_0 : wr.cell? ⟨gb150, 0, none⟩ = some (.int .i64 x151000_2) := (blk_cell BK150.out 0).trans rfl
                    have hcz50_1 : wr.cell? ⟨gb150, 1, none⟩ = some (u151001) := (blk_cell BK150.out 1).trans rfl
                    have hfz50_0 := blk_frozen BK150.out 0
                    have hfz50_1 := blk_frozen BK150.out 1
                    obtain ⟨Ao51, co51, eo51⟩ := Kd.R_slice HO_151001.out
                    subst eo51
                    go_wp2_with (first | ((with_reducible refine gate_callee (f := 17) rfl ?_); refine goesL_ (some 61) rfl rfl Try.func17 (by kernel_rfl) rfl #[.agg #[.int .i64 x151000_2, .slice Ao51 x151001_2.length co51]] rfl (by (try simp only [List.map_toArray, List.map_cons, List.map_nil]); first | done | rfl | (simp only [List.length_drop, List.length_take]; rfl)) ?_; (with_reducible refine (sem_Release.calls x151000_2 (fun k_ => some k_ = (.slice Ao51 x151001_2.length co51 : Value).ownBlock) (.slice Ao51 x151001_2.length co51) x151001_2 t163 t164 t167 w _ ?side1 ?side2 A45.out).mono ?_); (case side1 => repeat (first | (with_reducible first | exact HB.out | apply below_alloc | apply pw_below_drewN | apply below_drew1 | refine below_set ?_ GE150.out) | exact HB.out)); (case side2 => exact Kd.R_tight rfl HO_151001.out); rintro e w52 ⟨v165, rfl, ho0, hb, hkp⟩; refine ⟨_, rfl, ?_⟩; have n0_ := Aside0.mk (blk_kept (by (with_reducible repeat (first | refine blk_drewN ?_ _ | refine blk_drew ?_ | refine blk_alloc ?_ _)); exact BK150.out) hkp (fun hs_ => (fun e_ => (Kd.R_ne HO_151001.out BK150.out (by decide)) e_) hs_)); have n1_ := Aside0.mk (Kd.R_mono (ok' := fun k_ => True) ho0 (fun k_ hk_ => trivial)); have n2_ := Aside0.mk (hb); clear BK150; clear HB; clear HO_151001; have BK150 := n0_; have HO166 := n1_; have HB := n2_; clear n0_ n1_ n2_; (try clear hb); (try clear hkp); (try clear ho0)) | ((with_reducible refine gate_dst (N := 15) rfl ?_); (try (refine gate_guard (by rfl) ?_; dsimp only)); refine box_event ?hg (N := 15) ?hd (cs := #[.int .i64 0, .slice none 0 0]) (t := 27) ?hr ?_; (case hd => rfl); (case hg => rfl); (case hr => first | (go_simp; done) | (go_simp; rfl)); intro gb168 hg w53 hbox hb; have n0_ := Aside0.mk (Kd.R_below (by (with_reducible repeat (first | apply Kd.R_alloc | apply Kd.R_drewN | apply Kd.R_drew)); exact HO166.out) hb); have n1_ := Aside0.mk (blk_below (g := gb150) (o := .cells #[.int .i64 x151000_2, .slice Ao51 x151001_2.length co51] 27 (0, 0)) (by (with_reducible repeat (first | refine blk_drewN ?_ _ | refine blk_drew ?_ | refine blk_alloc ?_ _)); exact BK150.out) hb); have n2_ := Aside0.mk (below_step (by repeat (first | (with_reducible first | exact HB.out | apply below_alloc | apply pw_below_drewN | apply below_drew1 | refine below_set ?_ GE150.out) | exact HB.out)) hb); have n3_ := Aside0.mk (hbox); have n4_ := Aside0.mk ((by rw [hg]; exact (below_size (by repeat (first | (with_reducible first | exact HB.out | apply below_alloc | apply pw_below_drewN | apply below_drew1 | refine below_set ?_ GE150.out) | exact HB.out))) : w.heap.size ≤ gb168)); have n5_ := Aside0.mk ((by rw [hg]; exact (below_size (by repeat (first | (with_reducible first | exact HB.out | apply below_alloc | apply pw_below_drewN | apply below_drew1 | refine below_set ?_ GE150.out) | exact HB.out))) : w.heap.size ≤ gb168)); have n6_ := Aside0.mk ((by rw [hg]; exact Nat.ne_of_lt (blk_lt (g := gb150) (o := .cells #[.int .i64 x151000_2, .slice Ao51 x151001_2.length co51] 27 (0, 0)) (by (with_reducible repeat (first | refine blk_drewN ?_ _ | refine blk_drew ?_ | refine blk_alloc ?_ _)); exact BK150.out)) : gb150 ≠ gb168)); have n7_ := Aside0.mk ((by rw [hg]; exact Nat.ne_of_gt (blk_lt (g := gb150) (o := .cells #[.int .i64 x151000_2, .slice Ao51 x151001_2.length co51] 27 (0, 0)) (by (with_reducible repeat (first | refine blk_drewN ?_ _ | refine blk_drew ?_ | refine blk_alloc ?_ _)); exact BK150.out)) : gb168 ≠ gb150)); clear HO166; clear BK150; clear HB; have HO166 := n0_; have BK150 := n1_; have HB := n2_; have BK168 := n3_; have GW168 := n4_; have GE168 := n5_; have NB150_168 := n6_; have NB168_150 := n7_; clear n0_ n1_ n2_ n3_ n4_ n5_ n6_ n7_; clear hb hbox hg; have hnb54 := NB168_150.out; have hnc54 := NB150_168.out; have hcz55_0 : w53.cell? ⟨gb168, 0, none⟩ = some (.int .i64 0) := (blk_cell BK168.out 0).trans rfl; have hcz55_1 : w53.cell? ⟨gb168, 1, none⟩ = some (.slice none 0 0) := (blk_cell BK168.out 1).trans rfl; have hfz55_0 := blk_frozen BK168.out 0; have hfz55_1 := blk_frozen BK168.out 1; obtain ⟨Ao56, co56, eo56⟩ := Kd.R_slice HO166.out; subst eo56))
                    go_ret
                    exact ⟨by first | rfl | (simp [errW_none, errW_some] <;> rfl) | (simp only [← hji49]; first | rfl | (simp [errW_none, errW_some] <;> rfl)) | (simp [*, errW_none, errW_some] <;> rfl), by repeat (first | (with_reducible first | exact HB.out | apply below_alloc | apply pw_below_drewN | apply below_drew1 | refine below_set ?_ GE150.out | refine below_set ?_ GE168.out) | exact HB.out)⟩
                  · rw [if_neg c48] at H
                    have c48b0 : ((t164.length : Int) == 0) = false := beq_eq_false_iff_ne.mpr c48
                    have c48b1 : ((t164.length : Int) != 0) = true := bne_iff_ne.mpr c48
                    have c48b2 : ¬ (t164 = []) := fun h_ => c48 (by rw [h_]; rfl)
                    obtain rfl := Option.some.inj H
                    have hcz57_0 : wr.cell? ⟨gb150, 0, none⟩ = some (.int .i64 x151000_2) := (blk_cell BK150.out 0).trans rfl
                    have hcz57_1 : wr.cell? ⟨gb150, 1, none⟩ = some (u151001) := (blk_cell BK150.out 1).trans rfl
                    have hfz57_0 := blk_frozen BK150.out 0
                    have hfz57_1 := blk_frozen BK150.out 1
                    obtain ⟨Ao58, co58, eo58⟩ := Kd.R_slice HO_151001.out
                    subst eo58
                    go_wp2_with (first | ((with_reducible refine gate_callee (f := 17) rfl ?_); refine goesL_ (some 61) rfl rfl Try.func17 (by kernel_rfl) rfl #[.agg #[.int .i64 x151000_2, .slice Ao58 x151001_2.length co58]] rfl (by (try simp only [List.map_toArray, List.map_cons, List.map_nil]); first | done | rfl | (simp only [List.length_drop, List.length_take]; rfl)) ?_; (with_reducible refine (sem_Release.calls x151000_2 (fun k_ => some k_ = (.slice Ao58 x151001_2.length co58 : Value).ownBlock) (.slice Ao58 x151001_2.length co58) x151001_2 t163 t164 t167 w _ ?side1 ?side2 A45.out).mono ?_); (case side1 => repeat (first | (with_reducible first | exact HB.out | apply below_alloc | apply pw_below_drewN | apply below_drew1 | refine below_set ?_ GE150.out) | exact HB.out)); (case side2 => exact Kd.R_tight rfl HO_151001.out); rintro e w59 ⟨v165, rfl, ho0, hb, hkp⟩; refine ⟨_, rfl, ?_⟩; have n0_ := Aside0.mk (blk_kept (by (with_reducible repeat (first | refine blk_drewN ?_ _ | refine blk_drew ?_ | refine blk_alloc ?_ _)); exact BK150.out) hkp (fun hs_ => (fun e_ => (Kd.R_ne HO_151001.out BK150.out (by decide)) e_) hs_)); have n1_ := Aside0.mk (Kd.R_mono (ok' := fun k_ => True) ho0 (fun k_ hk_ => trivial)); have n2_ := Aside0.mk (hb); clear BK150; clear HB; clear HO_151001; have BK150 := n0_; have HO166 := n1_; have HB := n2_; clear n0_ n1_ n2_; (try clear hb); (try clear hkp); (try clear ho0)) | ((with_reducible refine gate_dst (N := 15) rfl ?_); (try (refine gate_guard (by rfl) ?_; dsimp only)); refine box_event ?hg (N := 15) ?hd (cs := #[.int .i64 0, .slice none 0 0]) (t := 27) ?hr ?_; (case hd => rfl); (case hg => rfl); (case hr => first | (go_simp; done) | (go_simp; rfl)); intro gb168 hg w60 hbox hb; have n0_ := Aside0.mk (Kd.R_below (by (with_reducible repeat (first | apply Kd.R_alloc | apply Kd.R_drewN | apply Kd.R_drew)); exact HO166.out) hb); have n1_ := Aside0.mk (blk_below (g := gb150) (o := .cells #[.int .i64 x151000_2, .slice Ao58 x151001_2.length co58] 27 (0, 0)) (by (with_reducible repeat (first | refine blk_drewN ?_ _ | refine blk_drew ?_ | refine blk_alloc ?_ _)); exact BK150.out) hb); have n2_ := Aside0.mk (below_step (by repeat (first | (with_reducible first | exact HB.out | apply below_alloc | apply pw_below_drewN | apply below_drew1 | refine below_set ?_ GE150.out) | exact HB.out)) hb); have n3_ := Aside0.mk (hbox); have n4_ := Aside0.mk ((by rw [hg]; exact (below_size (by repeat (first | (with_reducible first | exact HB.out | apply below_alloc | apply pw_below_drewN | apply below_drew1 | refine below_set ?_ GE150.out) | exact HB.out))) : w.heap.size ≤ gb168)); have n5_ := Aside0.mk ((by rw [hg]; exact (below_size (by repeat (first | (with_reducible first | exact HB.out | apply below_alloc | apply pw_below_drewN | apply below_drew1 | refine below_set ?_ GE150.out) | exact HB.out))) : w.heap.size ≤ gb168)); have n6_ := Aside0.mk ((by rw [hg]; exact Nat.ne_of_lt (blk_lt (g := gb150) (o := .cells #[.int .i64 x151000_2, .slice Ao58 x151001_2.length co58] 27 (0, 0)) (by (with_reducible repeat (first | refine blk_drewN ?_ _ | refine blk_drew ?_ | refine blk_alloc ?_ _)); exact BK150.out)) : gb150 ≠ gb168)); have n7_ := Aside0.mk ((by rw [hg]; exact Nat.ne_of_gt (blk_lt (g := gb150) (o := .cells #[.int .i64 x151000_2, .slice Ao58 x151001_2.length co58] 27 (0, 0)) (by (with_reducible repeat (first | refine blk_drewN ?_ _ | refine blk_drew ?_ | refine blk_alloc ?_ _)); exact BK150.out)) : gb168 ≠ gb150)); clear HO166; clear BK150; clear HB; have HO166 := n0_; have BK150 := n1_; have HB := n2_; have BK168 := n3_; have GW168 := n4_; have GE168 := n5_; have NB150_168 := n6_; have NB168_150 := n7_; clear n0_ n1_ n2_ n3_ n4_ n5_ n6_ n7_; clear hb hbox hg; have hnb61 := NB168_150.out; have hnc61 := NB150_168.out; have hcz62_0 : w60.cell? ⟨gb168, 0, none⟩ = some (.int .i64 0) := (blk_cell BK168.out 0).trans rfl; have hcz62_1 : w60.cell? ⟨gb168, 1, none⟩ = some (.slice none 0 0) := (blk_cell BK168.out 1).trans rfl; have hfz62_0 := blk_frozen BK168.out 0; have hfz62_1 := blk_frozen BK168.out 1; obtain ⟨Ao63, co63, eo63⟩ := Kd.R_slice HO166.out; subst eo63))
                    go_ret
                    exact ⟨by first | rfl | (simp [errW_none, errW_some] <;> rfl) | (simp [*, errW_none, errW_some] <;> rfl), by repeat (first | (with_reducible first | exact HB.out | apply below_alloc | apply pw_below_drewN | apply below_drew1 | refine below_set ?_ GE150.out | refine below_set ?_ GE168.out) | exact HB.out)⟩
                · rw [if_neg c47] at H
                  have c47b0 : (t167 == 0) = false := beq_eq_false_iff_ne.mpr c47
                  have c47b1 : (t167 != 0) = true := bne_iff_ne.mpr c47
                  obtain rfl := Option.some.inj H
                  have hcz64_0 : wr.cell? ⟨gb150, 0, none⟩ = some (.int .i64 x151000_2) := (blk_cell BK150.out 0).trans rfl
                  have hcz64_1 : wr.cell? ⟨gb150, 1, none⟩ = some (u151001) := (blk_cell BK150.out 1).trans rfl
                  have hfz64_0 := blk_frozen BK150.out 0
                  have hfz64_1 := blk_frozen BK150.out 1
                  obtain ⟨Ao65, co65, eo65⟩ := Kd.R_slice HO_151001.out
                  subst eo65
                  go_wp2_with (first | ((with_reducible refine gate_callee (f := 17) rfl ?_); refine goesL_ (some 61) rfl rfl Try.func17 (by kernel_rfl) rfl #[.agg #[.int .i64 x151000_2, .slice Ao65 x151001_2.length co65]] rfl (by (try simp only [List.map_toArray, List.map_cons, List.map_nil]); first | done | rfl | (simp only [List.length_drop, List.length_take]; rfl)) ?_; (with_reducible refine (sem_Release.calls x151000_2 (fun k_ => some k_ = (.slice Ao65 x151001_2.length co65 : Value).ownBlock) (.slice Ao65 x151001_2.length co65) x151001_2 t163 t164 t167 w _ ?side1 ?side2 A45.out).mono ?_); (case side1 => repeat (first | (with_reducible first | exact HB.out | apply below_alloc | apply pw_below_drewN | apply below_drew1 | refine below_set ?_ GE150.out) | exact HB.out)); (case side2 => exact Kd.R_tight rfl HO_151001.out); rintro e w66 ⟨v165, rfl, ho0, hb, hkp⟩; refine ⟨_, rfl, ?_⟩; have n0_ := Aside0.mk (blk_kept (by (with_reducible repeat (first | refine blk_drewN ?_ _ | refine blk_drew ?_ | refine blk_alloc ?_ _)); exact BK150.out) hkp (fun hs_ => (fun e_ => (Kd.R_ne HO_151001.out BK150.out (by decide)) e_) hs_)); have n1_ := Aside0.mk (Kd.R_mono (ok' := fun k_ => True) ho0 (fun k_ hk_ => trivial)); have n2_ := Aside0.mk (hb); clear BK150; clear HB; clear HO_151001; have BK150 := n0_; have HO166 := n1_; have HB := n2_; clear n0_ n1_ n2_; (try clear hb); (try clear hkp); (try clear ho0)) | ((with_reducible refine gate_dst (N := 15) rfl ?_); (try (refine gate_guard (by rfl) ?_; dsimp only)); refine box_event ?hg (N := 15) ?hd (cs := #[.int .i64 0, .slice none 0 0]) (t := 27) ?hr ?_; (case hd => rfl); (case hg => rfl); (case hr => first | (go_simp; done) | (go_simp; rfl)); intro gb168 hg w67 hbox hb; have n0_ := Aside0.mk (Kd.R_below (by (with_reducible repeat (first | apply Kd.R_alloc | apply Kd.R_drewN | apply Kd.R_drew)); exact HO166.out) hb); have n1_ := Aside0.mk (blk_below (g := gb150) (o := .cells #[.int .i64 x151000_2, .slice Ao65 x151001_2.length co65] 27 (0, 0)) (by (with_reducible repeat (first | refine blk_drewN ?_ _ | refine blk_drew ?_ | refine blk_alloc ?_ _)); exact BK150.out) hb); have n2_ := Aside0.mk (below_step (by repeat (first | (with_reducible first | exact HB.out | apply below_alloc | apply pw_below_drewN | apply below_drew1 | refine below_set ?_ GE150.out) | exact HB.out)) hb); have n3_ := Aside0.mk (hbox); have n4_ := Aside0.mk ((by rw [hg]; exact (below_size (by repeat (first | (with_reducible first | exact HB.out | apply below_alloc | apply pw_below_drewN | apply below_drew1 | refine below_set ?_ GE150.out) | exact HB.out))) : w.heap.size ≤ gb168)); have n5_ := Aside0.mk ((by rw [hg]; exact (below_size (by repeat (first | (with_reducible first | exact HB.out | apply below_alloc | apply pw_below_drewN | apply below_drew1 | refine below_set ?_ GE150.out) | exact HB.out))) : w.heap.size ≤ gb168)); have n6_ := Aside0.mk ((by rw [hg]; exact Nat.ne_of_lt (blk_lt (g := gb150) (o := .cells #[.int .i64 x151000_2, .slice Ao65 x151001_2.length co65] 27 (0, 0)) (by (with_reducible repeat (first | refine blk_drewN ?_ _ | refine blk_drew ?_ | refine blk_alloc ?_ _)); exact BK150.out)) : gb150 ≠ gb168)); have n7_ := Aside0.mk ((by rw [hg]; exact Nat.ne_of_gt (blk_lt (g := gb150) (o := .cells #[.int .i64 x151000_2, .slice Ao65 x151001_2.length co65] 27 (0, 0)) (by (with_reducible repeat (first | refine blk_drewN ?_ _ | refine blk_drew ?_ | refine blk_alloc ?_ _)); exact BK150.out)) : gb168 ≠ gb150)); clear HO166; clear BK150; clear HB; have HO166 := n0_; have BK150 := n1_; have HB := n2_; have BK168 := n3_; have GW168 := n4_; have GE168 := n5_; have NB150_168 := n6_; have NB168_150 := n7_; clear n0_ n1_ n2_ n3_ n4_ n5_ n6_ n7_; clear hb hbox hg; have hnb68 := NB168_150.out; have hnc68 := NB150_168.out; have hcz69_0 : w67.cell? ⟨gb168, 0, none⟩ = some (.int .i64 0) := (blk_cell BK168.out 0).trans rfl; have hcz69_1 : w67.cell? ⟨gb168, 1, none⟩ = some (.slice none 0 0) := (blk_cell BK168.out 1).trans rfl; have hfz69_0 := blk_frozen BK168.out 0; have hfz69_1 := blk_frozen BK168.out 1; obtain ⟨Ao70, co70, eo70⟩ := Kd.R_slice HO166.out; subst eo70))
                  go_ret
                  exact ⟨by first | rfl | (simp [errW_none, errW_some] <;> rfl) | (simp [*, errW_none, errW_some] <;> rfl), by repeat (first | (with_reducible first | exact HB.out | apply below_alloc | apply pw_below_drewN | apply below_drew1 | refine below_set ?_ GE150.out | refine below_set ?_ GE168.out) | exact HB.out)⟩
              · replace c46 := Bool.eq_false_iff.mpr c46
                subst c46
                have H1 : (some false) = some r := by rw [if_neg (show ¬ (false = true) by decide)] at H; exact H
                clear H
                have H := H1
                clear H1
                obtain rfl := Option.some.inj H
                have hcz71_0 : wr.cell? ⟨gb150, 0, none⟩ = some (.int .i64 x151000_2) := (blk_cell BK150.out 0).trans rfl
                have hcz71_1 : wr.cell? ⟨gb150, 1, none⟩ = some (u151001) := (blk_cell BK150.out 1).trans rfl
                have hfz71_0 := blk_frozen BK150.out 0
                have hfz71_1 := blk_frozen BK150.out 1
                obtain ⟨Ao72, co72, eo72⟩ := Kd.R_slice HO_151001.out
                subst eo72
                go_wp2_with (first | ((with_reducible refine gate_callee (f := 17) rfl ?_); refine goesL_ (some 61) rfl rfl Try.func17 (by kernel_rfl) rfl #[.agg #[.int .i64 x151000_2, .slice Ao72 x151001_2.length co72]] rfl (by (try simp only [List.map_toArray, List.map_cons, List.map_nil]); first | done | rfl | (simp only [List.length_drop, List.length_take]; rfl)) ?_; (with_reducible refine (sem_Release.calls x151000_2 (fun k_ => some k_ = (.slice Ao72 x151001_2.length co72 : Value).ownBlock) (.slice Ao72 x151001_2.length co72) x151001_2 t163 t164 t167 w _ ?side1 ?side2 A45.out).mono ?_); (case side1 => repeat (first | (with_reducible first | exact HB.out | apply below_alloc | apply pw_below_drewN | apply below_drew1 | refine below_set ?_ GE150.out) | exact HB.out)); (case side2 => exact Kd.R_tight rfl HO_151001.out); rintro e w73 ⟨v165, rfl, ho0, hb, hkp⟩; refine ⟨_, rfl, ?_⟩; have n0_ := Aside0.mk (blk_kept (by (with_reducible repeat (first | refine blk_drewN ?_ _ | refine blk_drew ?_ | refine blk_alloc ?_ _)); exact BK150.out) hkp (fun hs_ => (fun e_ => (Kd.R_ne HO_151001.out BK150.out (by decide)) e_) hs_)); have n1_ := Aside0.mk (Kd.R_mono (ok' := fun k_ => True) ho0 (fun k_ hk_ => trivial)); have n2_ := Aside0.mk (hb); clear BK150; clear HB; clear HO_151001; have BK150 := n0_; have HO166 := n1_; have HB := n2_; clear n0_ n1_ n2_; (try clear hb); (try clear hkp); (try clear ho0)) | ((with_reducible refine gate_dst (N := 15) rfl ?_); (try (refine gate_guard (by rfl) ?_; dsimp only)); refine box_event ?hg (N := 15) ?hd (cs := #[.int .i64 0, .slice none 0 0]) (t := 27) ?hr ?_; (case hd => rfl); (case hg => rfl); (case hr => first | (go_simp; done) | (go_simp; rfl)); intro gb168 hg w74 hbox hb; have n0_ := Aside0.mk (Kd.R_below (by (with_reducible repeat (first | apply Kd.R_alloc | apply Kd.R_drewN | apply Kd.R_drew)); exact HO166.out) hb); have n1_ := Aside0.mk (blk_below (g := gb150) (o := .cells #[.int .i64 x151000_2, .slice Ao72 x151001_2.length co72] 27 (0, 0)) (by (with_reducible repeat (first | refine blk_drewN ?_ _ | refine blk_drew ?_ | refine blk_alloc ?_ _)); exact BK150.out) hb); have n2_ := Aside0.mk (below_step (by repeat (first | (with_reducible first | exact HB.out | apply below_alloc | apply pw_below_drewN | apply below_drew1 | refine below_set ?_ GE150.out) | exact HB.out)) hb); have n3_ := Aside0.mk (hbox); have n4_ := Aside0.mk ((by rw [hg]; exact (below_size (by repeat (first | (with_reducible first | exact HB.out | apply below_alloc | apply pw_below_drewN | apply below_drew1 | refine below_set ?_ GE150.out) | exact HB.out))) : w.heap.size ≤ gb168)); have n5_ := Aside0.mk ((by rw [hg]; exact (below_size (by repeat (first | (with_reducible first | exact HB.out | apply below_alloc | apply pw_below_drewN | apply below_drew1 | refine below_set ?_ GE150.out) | exact HB.out))) : w.heap.size ≤ gb168)); have n6_ := Aside0.mk ((by rw [hg]; exact Nat.ne_of_lt (blk_lt (g := gb150) (o := .cells #[.int .i64 x151000_2, .slice Ao72 x151001_2.length co72] 27 (0, 0)) (by (with_reducible repeat (first | refine blk_drewN ?_ _ | refine blk_drew ?_ | refine blk_alloc ?_ _)); exact BK150.out)) : gb150 ≠ gb168)); have n7_ := Aside0.mk ((by rw [hg]; exact Nat.ne_of_gt (blk_lt (g := gb150) (o := .cells #[.int .i64 x151000_2, .slice Ao72 x151001_2.length co72] 27 (0, 0)) (by (with_reducible repeat (first | refine blk_drewN ?_ _ | refine blk_drew ?_ | refine blk_alloc ?_ _)); exact BK150.out)) : gb168 ≠ gb150)); clear HO166; clear BK150; clear HB; have HO166 := n0_; have BK150 := n1_; have HB := n2_; have BK168 := n3_; have GW168 := n4_; have GE168 := n5_; have NB150_168 := n6_; have NB168_150 := n7_; clear n0_ n1_ n2_ n3_ n4_ n5_ n6_ n7_; clear hb hbox hg; have hnb75 := NB168_150.out; have hnc75 := NB150_168.out; have hcz76_0 : w74.cell? ⟨gb168, 0, none⟩ = some (.int .i64 0) := (blk_cell BK168.out 0).trans rfl; have hcz76_1 : w74.cell? ⟨gb168, 1, none⟩ = some (.slice none 0 0) := (blk_cell BK168.out 1).trans rfl; have hfz76_0 := blk_frozen BK168.out 0; have hfz76_1 := blk_frozen BK168.out 1; obtain ⟨Ao77, co77, eo77⟩ := Kd.R_slice HO166.out; subst eo77))
                go_ret
                exact ⟨by first | rfl | (simp [errW_none, errW_some] <;> rfl) | (simp [*, errW_none, errW_some] <;> rfl), by repeat (first | (with_reducible first | exact HB.out | apply below_alloc | apply pw_below_drewN | apply below_drew1 | refine below_set ?_ GE150.out | refine below_set ?_ GE168.out) | exact HB.out)⟩

/-- THE ONE PURE STATEMENT of catafalquelaw10_SemWakes: yours. -/
def catafalquelaw10_SemWakes.Pure : Prop := ∀ (a0 : Int) (a1 : Int), (Lit.int .u8 a0).wf = true → (Lit.int .u8 a1).wf = true → ∃ k, catafalquelaw10_SemWakes.f k a0 a1 = some true
theorem catafalquelaw10_SemWakes.walk (P : catafalquelaw10_SemWakes.Pure) (a0 : Int) (a1 : Int) (w : World) (w0 : (Lit.int .u8 a0).wf = true) (w1 : (Lit.int .u8 a1).wf = true) :
    Calls Try.prog 4 #[.int .u8 a0, .int .u8 a1] w fun e w' => e = .returned (.bool true) ∧ Below w.heap.size w w' := by
  obtain ⟨k, h⟩ := P a0 a1 w0 w1
  refine (catafalquelaw10_SemWakes.calls k a0 a1 true w h).mono ?_
  rintro e w' ⟨rfl, hd⟩
  exact ⟨rfl, hd⟩

end Go.Proofs.Ytblmhjfjkabocaa.QWakes
