/- Printed by a program of this session (over the kit's print): functions in plain form, and what their calls come to. -/
import Derived.Test.YtibkpacjijbblaaQBoxx0
import Derived.Test.YtibkpacjijbblaaQBoxx7
namespace Go.Proofs.Ytibkpacjijbblaa.QBox
open Go.RowKit Go.Proofs.YtibkpacjijbblaaW.PrintWords Go.Proofs.YtibkpacjijbblaaW.PrintLast Go.Proofs.YtibkpacjijbblaaW.PrintMore
attribute [local go_sem] max2_int min2_int max_two min_two max_three min_three max_four min_four   -- for this text's walks alone
set_option linter.unusedVariables false
set_option linter.unusedSimpArgs false

/-! ### box_May: function 28 -/
def box_May.l0 : Nat → List Int → List Int → Int → Int → Int → List Int → List (S65) → List Int → Option (Bool)
  | 0, _, _, _, _, _, _, _, _ => none
  | k + 1, x3, x10, x11, x12, x414000, x414001, x414002, x414003 => if x12 < x11 then (if 0 ≤ x12 then (if x12 < (x10.length : Int) then (if (rd x10 x12) ≤ 0 then (some false) else (if x12 ≤ (x3.length : Int) then ((slices_Contains_int_int.f k (x3.take (x12 : Int).toNat) (rd x10 x12)).bind fun t422 => (if t422 = true then (some false) else (box_May.l0 k x3 x10 x11 (wrap64 (x12 + 1)) x414000 x414001 x414002 x414003))) else (none))) else (none)) else (none)) else (if (x414001.length : Int) = 0 then (if x414000 ≥ 0 then (if x414000 ≤ 8 then (if (x414001.length : Int) ≤ x414000 then (if (x414001.length : Int) = x414000 then (if (x414002.length : Int) = 0 then (some true) else (some ((x414003.length : Int) == 0))) else (if (x414002.length : Int) = 0 then (some true) else (some false))) else (some false)) else (some false)) else (some false)) else (if x414000 ≥ 0 then (if x414000 ≤ 8 then (if (x414001.length : Int) ≤ x414000 then (if (x414001.length : Int) = x414000 then (some ((x414003.length : Int) == 0)) else (if (x414002.length : Int) = 0 then (some ((x414003.length : Int) == 0)) else (some false))) else (some false)) else (some false)) else (some false)))
def box_May.f (k : Nat) (a0_0 : Int) (l0_1 : List Int) (l0_2 : List (S65)) (l0_3 : List Int) : Option (Bool) := (box_waiting.f k a0_0 l0_1 l0_2 l0_3).bind fun t414 => (box_May.l0 k t414 t414 (t414.length : Int) 0 a0_0 l0_1 l0_2 l0_3)
theorem box_May.mono_l : ∀ k, (∀ y0 y1 y2 y3 y4 y5 y6 y7, LeO (box_May.l0 k y0 y1 y2 y3 y4 y5 y6 y7) (box_May.l0 (k + 1) y0 y1 y2 y3 y4 y5 y6 y7))
  | 0 => fun _ _ _ _ _ _ _ _ r h => by simp [box_May.l0] at h
  | k + 1 => by
    have ih0 := box_May.mono_l k
    · intro y0 y1 y2 y3 y4 y5 y6 y7
      unfold box_May.l0
      repeat' first
      | (with_reducible exact ih0 _ _ _ _ _ _ _ _)
      | (with_reducible exact box_waiting.mono _ _ _ _ _)
      | (with_reducible exact slices_Contains_int_int.mono _ _ _)
      | (with_reducible exact LeO.refl _)
      | (with_reducible exact LeO.none _)
      | (with_reducible refine LeO.ite ?_ ?_)
      | (with_reducible refine LeO.bind ?_ (fun _ => ?_))
      | exact ih0 _ _ _ _ _ _ _ _
      | exact box_waiting.mono _ _ _ _ _
      | exact slices_Contains_int_int.mono _ _ _
      | exact LeO.none _
      | refine LeO.ite ?_ ?_
      | refine LeO.bind ?_ (fun _ => ?_)
theorem box_May.mono : ∀ a0 a1 a2 a3 k, LeO (box_May.f k a0 a1 a2 a3) (box_May.f (k + 1) a0 a1 a2 a3) := by
  intro a0 a1 a2 a3 k
  have ih0 := box_May.mono_l k
  unfold box_May.f
  repeat' first
      | (with_reducible exact ih0 _ _ _ _ _ _ _ _)
      | (with_reducible exact box_waiting.mono _ _ _ _ _)
      | (with_reducible exact slices_Contains_int_int.mono _ _ _)
      | (with_reducible exact LeO.refl _)
      | (with_reducible exact LeO.none _)
      | (with_reducible refine LeO.ite ?_ ?_)
      | (with_reducible refine LeO.bind ?_ (fun _ => ?_))
      | exact ih0 _ _ _ _ _ _ _ _
      | exact box_waiting.mono _ _ _ _ _
      | exact slices_Contains_int_int.mono _ _ _
      | exact LeO.none _
      | refine LeO.ite ?_ ?_
      | refine LeO.bind ?_ (fun _ => ?_)
set_option maxHeartbeats 8000000 in
set_option maxRecDepth 100000 in
theorem box_May.calls (k : Nat) (a0_0 : Int) (A0_1 : Option Addr) (c0_1 : Nat) (l0_1 : List Int) (A0_2 : Option Addr) (c0_2 : Nat) (l0_2 : List (S65)) (A0_3 : Option Addr) (c0_3 : Nat) (l0_3 : List Int) (r : Bool) (w : World) (hr0_1 : Kd.C (Kd.int .i64) w A0_1 l0_1.length l0_1) (hc0_1 : l0_1.length ≤ c0_1) (hr0_2 : Kd.C k65 w A0_2 l0_2.length l0_2) (hc0_2 : l0_2.length ≤ c0_2) (hr0_3 : Kd.C (Kd.int .i64) w A0_3 l0_3.length l0_3) (hc0_3 : l0_3.length ≤ c0_3) (h : box_May.f k a0_0 l0_1 l0_2 l0_3 = some r) :
    Calls Try.prog 28 #[.agg #[.int .i64 a0_0, .slice A0_1 l0_1.length c0_1, .slice A0_2 l0_2.length c0_2, .slice A0_3 l0_3.length c0_3]] w fun e w' => e = .returned (.bool r) ∧ Below w.heap.size w w' := by
  have hu27 := Try.underlying27
  have HR0_1 := Aside0.mk hr0_1
  have HC0_1 := Aside0.mk hc0_1
  clear hr0_1 hc0_1
  have HR0_2 := Aside0.mk hr0_2
  have HC0_2 := Aside0.mk hc0_2
  clear hr0_2 hc0_2
  have HR0_3 := Aside0.mk hr0_3
  have HC0_3 := Aside0.mk hc0_3
  clear hr0_3 hc0_3
  have HB := Aside0.mk (Below.refl w.heap.size w)
  have H : ((box_waiting.f k a0_0 l0_1 l0_2 l0_3).bind fun t414 => (box_May.l0 k t414 t414 (t414.length : Int) 0 a0_0 l0_1 l0_2 l0_3)) = some r := h
  clear h
  replace H := Option.bind_eq_some_iff.mp H
  obtain ⟨t414, A20, H⟩ := H
  replace H : (box_May.l0 k t414 t414 (t414.length : Int) 0 a0_0 l0_1 l0_2 l0_3) = some r := H
  have A2 := Aside0.mk A20
  clear A20
  have H' := Aside0.mk H
  clear H
  go_enter Try.func28, Try.ntmps28
  go_wp2_with (first | ((with_reducible refine gate_dst (N := 1) rfl ?_); (try (refine gate_guard (by rfl) ?_; dsimp only)); refine box_event ?hg (N := 1) ?hd (cs := #[.int .i64 a0_0, .slice A0_1 l0_1.length c0_1, .slice A0_2 l0_2.length c0_2, .slice A0_3 l0_3.length c0_3]) (t := 27) ?hr ?_; (case hd => rfl); (case hg => rfl); (case hr => first | (go_simp; done) | (go_simp; rfl)); intro gb413 hg w3 hbox hb; have n0_ := Aside0.mk (below_step (by repeat (first | (with_reducible first | exact HB.out | apply below_alloc | apply pw_below_drewN | apply below_drew1) | exact HB.out)) hb); have n1_ := Aside0.mk (hbox); have n2_ := Aside0.mk ((by rw [hg]; exact (below_size (by repeat (first | (with_reducible first | exact HB.out | apply below_alloc | apply pw_below_drewN | apply below_drew1) | exact HB.out))) : w.heap.size ≤ gb413)); have n3_ := Aside0.mk ((by rw [hg]; exact (below_size (by repeat (first | (with_reducible first | exact HB.out | apply below_alloc | apply pw_below_drewN | apply below_drew1) | exact HB.out))) : w.heap.size ≤ gb413)); clear HB; have HB := n0_; have BK413 := n1_; have GW413 := n2_; have GE413 := n3_; clear n0_ n1_ n2_ n3_; clear hb hbox hg; have hcz4_0 : w3.cell? ⟨gb413, 0, none⟩ = some (.int .i64 a0_0) := (blk_cell BK413.out 0).trans rfl; have hcz4_1 : w3.cell? ⟨gb413, 1, none⟩ = some (.slice A0_1 l0_1.length c0_1) := (blk_cell BK413.out 1).trans rfl; have hcz4_2 : w3.cell? ⟨gb413, 2, none⟩ = some (.slice A0_2 l0_2.length c0_2) := (blk_cell BK413.out 2).trans rfl; have hcz4_3 : w3.cell? ⟨gb413, 3, none⟩ = some (.slice A0_3 l0_3.length c0_3) := (blk_cell BK413.out 3).trans rfl; have hfz4_0 := blk_frozen BK413.out 0; have hfz4_1 := blk_frozen BK413.out 1; have hfz4_2 := blk_frozen BK413.out 2; have hfz4_3 := blk_frozen BK413.out 3) | ((with_reducible refine gate_callee (f := 42) rfl ?_); refine goesL_ (some 9) rfl rfl Try.func42 (by kernel_rfl) rfl #[.agg #[.int .i64 a0_0, .slice A0_1 l0_1.length c0_1, .slice A0_2 l0_2.length c0_2, .slice A0_3 l0_3.length c0_3]] rfl (by (try simp only [List.map_toArray, List.map_cons, List.map_nil]); first | done | rfl | (simp only [List.length_drop, List.length_take]; rfl)) ?_; (with_reducible refine (box_waiting.calls k a0_0 _ _ l0_1 _ _ l0_2 _ _ l0_3 t414 _ ?side1 ?side2 ?side3 ?side4 ?side5 ?side6 A2.out).mono ?_); (case side1 => repeat (first | exact (Kd.C_below HR0_1.out HB.out) | (with_reducible refine Kd.C_alloc ?_ _) | (with_reducible refine Kd.C_drewN ?_ _) | (with_reducible refine Kd.C_drew ?_))); (case side2 => exact HC0_1.out); (case side3 => repeat (first | exact (Kd.C_below HR0_2.out HB.out) | (with_reducible refine Kd.C_alloc ?_ _) | (with_reducible refine Kd.C_drewN ?_ _) | (with_reducible refine Kd.C_drew ?_))); (case side4 => exact HC0_2.out); (case side5 => repeat (first | exact (Kd.C_below HR0_3.out HB.out) | (with_reducible refine Kd.C_alloc ?_ _) | (with_reducible refine Kd.C_drewN ?_ _) | (with_reducible refine Kd.C_drew ?_))); (case side6 => exact HC0_3.out); rintro e w5 ⟨v415, rfl, ho0, hb⟩; refine ⟨_, rfl, ?_⟩; have n0_ := Aside0.mk (Kd.R_lower ho0 (below_size (by repeat (first | (with_reducible first | exact HB.out | apply below_alloc | apply pw_below_drewN | apply below_drew1 | refine below_set ?_ GE413.out) | exact HB.out)))); have n1_ := Aside0.mk (blk_below (g := gb413) (o := .cells #[.int .i64 a0_0, .slice A0_1 l0_1.length c0_1, .slice A0_2 l0_2.length c0_2, .slice A0_3 l0_3.length c0_3] 27 (0, 0)) (by (with_reducible repeat (first | refine blk_drewN ?_ _ | refine blk_drew ?_ | refine blk_alloc ?_ _)); exact BK413.out) hb); have n2_ := Aside0.mk (below_step (by repeat (first | (with_reducible first | exact HB.out | apply below_alloc | apply pw_below_drewN | apply below_drew1 | refine below_set ?_ GE413.out) | exact HB.out)) hb); clear BK413; clear HB; have HO416 := n0_; have BK413 := n1_; have HB := n2_; clear n0_ n1_ n2_; (try clear hb); (try clear hb2); (try clear hk); (try clear hi); (try clear ho0); obtain ⟨Ao6, co6, eo6⟩ := Kd.R_slice HO416.out; subst eo6))
  go_loopg [12] k (fun kq v12 w' => ∃ (x12_1 : Int), v12 = .int .i64 x12_1 ∧ Aside0 (box_May.l0 kq t414 t414 (t414.length : Int) x12_1 a0_0 l0_1 l0_2 l0_3 = some r) ∧ Aside0 (kq ≤ k) ∧ Aside0 (Kd.R (Kd.int .i64) 3 w' w.heap.size (fun _ => True) (.slice Ao6 t414.length co6) t414) ∧ Aside0 (Kd.R (Kd.int .i64) 3 w' w.heap.size (fun _ => True) (.slice Ao6 t414.length co6) t414) ∧ Aside0 (w'.heap[gb413]? = some (.cells #[.int .i64 a0_0, (.slice A0_1 l0_1.length c0_1), (.slice A0_2 l0_2.length c0_2), (.slice A0_3 l0_3.length c0_3)] 27 (0, 0))) ∧ Aside0 (Below w.heap.size w w'))
  case atStart => exact ⟨(0), (by first | rfl | (simp; done) | (simp [*]; done)), H', ⟨Nat.le_refl _⟩, ⟨by (with_reducible repeat (first | apply Kd.R_alloc | apply Kd.R_drewN | apply Kd.R_drew)); exact HO416.out⟩, ⟨by (with_reducible repeat (first | apply Kd.R_alloc | apply Kd.R_drewN | apply Kd.R_drew)); exact HO416.out⟩, ⟨by (with_reducible repeat (first | refine blk_drewN ?_ _ | refine blk_drew ?_ | refine blk_alloc ?_ _)); exact BK413.out⟩, ⟨by repeat (first | (with_reducible first | exact HB.out | apply below_alloc | apply pw_below_drewN | apply below_drew1 | refine below_set ?_ GE413.out) | exact HB.out)⟩⟩
  case round =>
    clear H'
    try clear c2
    try clear p2
    try clear c4
    try clear hcz4_0
    try clear hcz4_1
    try clear hcz4_2
    try clear hcz4_3
    try clear hfz4_0
    try clear hfz4_1
    try clear hfz4_2
    try clear hfz4_3
    obtain ⟨x12_1, rfl, HA, HK1, HO_3, HO_10, BK413, HB⟩ := hrel
    cases gk with
    | zero => exact absurd HA.out (by simp [box_May.l0])
    | succ k1 =>
      have H := HA.out
      clear HA
      simp only [box_May.l0] at H
      by_cases c7 : x12_1 < (t414.length : Int)
      · rw [if_pos c7] at H
        have c7b0 : decide (x12_1 < (t414.length : Int)) = true := decide_eq_true c7
        clear c7
        by_cases c8 : 0 ≤ x12_1
        · rw [if_pos c8] at H
          have c8b0 : decide (0 ≤ x12_1) = true := decide_eq_true c8
          clear c8
          by_cases c9 : x12_1 < (t414.length : Int)
          · rw [if_pos c9] at H
            have c9b0 : decide (x12_1 < (t414.length : Int)) = true := decide_eq_true c9
            clear c9
            by_cases c10 : (rd t414 x12_1) ≤ 0
            · rw [if_pos c10] at H
              have c10b0 : decide ((rd t414 x12_1) ≤ 0) = true := decide_eq_true c10
              clear c10
              obtain rfl := Option.some.inj H
              have p417 : 0 ≤ (x12_1 : Int) := of_decide_eq_true (by first | (with_reducible assumption) | assumption)
              have q417 : x12_1 < (t414.length : Int) := of_decide_eq_true (by first | (with_reducible assumption) | assumption)
              obtain ⟨ad417, e417, hx417_0⟩ := Kd.at_int (Kd.R_reads' HO_10.out).2.2 x12_1 p417 q417
              cases e417
              replace p417 := eq_true p417
              replace q417 := eq_true q417
              go_wp2
              go_ret
              exact ⟨by first | rfl | (simp [errW_none, errW_some] <;> rfl) | (simp [*, errW_none, errW_some] <;> rfl), by repeat (first | (with_reducible first | exact HB.out | apply below_alloc | apply pw_below_drewN | apply below_drew1 | refine below_set ?_ GE413.out) | exact HB.out)⟩
            · rw [if_neg c10] at H
              have c10b0 : decide ((rd t414 x12_1) ≤ 0) = false := decide_eq_false c10
              clear c10
              have c11b0 := eq_true (of_decide_eq_true (by first | (with_reducible assumption) | assumption) : 0 ≤ x12_1)
              by_cases c12 : x12_1 ≤ (t414.length : Int)
              · rw [if_pos c12] at H
                have c12b0 := eq_true c12
                have c12b1 : decide (x12_1 ≤ (t414.length : Int)) = true := decide_eq_true c12
                clear c12
                obtain ⟨y418, hy418⟩ : ∃ y_ : List Int, y_ = (t414.take (x12_1 : Int).toNat) := ⟨_, rfl⟩
                replace H : ((slices_Contains_int_int.f k1 y418 (rd t414 x12_1)).bind fun t422 => (if t422 = true then (some false) else (box_May.l0 k1 t414 t414 (t414.length : Int) (wrap64 (x12_1 + 1)) a0_0 l0_1 l0_2 l0_3))) = some r := by first | (rw [hy418]; with_reducible exact H) | (have H2_ := (Option.bind_some _ _).symm.trans H; rw [hy418]; with_reducible exact H2_) | (have H2_ := (Option.bind_some _ _).symm.trans H; with_reducible exact H2_) | with_reducible exact H | (rw [hy418]; exact H) | exact H
                have Ny418 := Aside0.mk hy418
                clear hy418
                replace H := Option.bind_eq_some_iff.mp H
                obtain ⟨t422, A130, H⟩ := H
                replace H : (if t422 = true then (some false) else (box_May.l0 k1 t414 t414 (t414.length : Int) (wrap64 (x12_1 + 1)) a0_0 l0_1 l0_2 l0_3)) = some r := H
                have A13 := Aside0.mk A130
                clear A130
                by_cases c14 : t422 = true
                · subst c14
                  have H1 : (some false) = some r := by rw [if_pos rfl] at H; exact H
                  clear H
                  have H := H1
                  clear H1
                  obtain rfl := Option.some.inj H
                  have p417 : 0 ≤ (x12_1 : Int) := of_decide_eq_true (by first | (with_reducible assumption) | assumption)
                  have q417 : x12_1 < (t414.length : Int) := of_decide_eq_true (by first | (with_reducible assumption) | assumption)
                  obtain ⟨ad417, e417, hx417_0⟩ := Kd.at_int (Kd.R_reads' HO_10.out).2.2 x12_1 p417 q417
                  cases e417
                  replace p417 := eq_true p417
                  replace q417 := eq_true q417
                  have q15 : (x12_1 : Int) ≤ ((t414.length : Int) : Int) := of_decide_eq_true (by first | (with_reducible assumption) | assumption)
                  obtain ⟨i015, hi015, _, hsz15, _⟩ := info_parts info3
                  have hroom15 : t414.length ≤ co6 := (Kd.R_reads' HO_3.out).2.1
                  have hC15 : Kd.C (Kd.int .i64) _ (some ad417) t414.length t414 := (Kd.R_reads' HO_3.out).2.2
                  have hcut15 := cut_to (P := Try.prog) 25 3 .i64 Try.underlying25 hi015 (some ad417) t414.length co6 x12_1 (of_decide_eq_true (by first | (with_reducible assumption) | assumption)) q15 hroom15
                  have hr15 := Kd.C_take (m := (x12_1 : Int).toNat) hC15 (by omega)
                  have hy15 : y418.length = (x12_1 : Int).toNat := (by rw [Ny418.out, List.length_take]; omega)
                  rw [← Ny418.out] at hr15
                  rw [← hy15] at hcut15
                  have HR421 := Aside0.mk hr15
                  have HC421 := Aside0.mk (show y418.length ≤ co6 from by omega)
                  clear hr15 hC15 hroom15 hi015 hsz15
                  have KY15 := Aside0.mk hy15
                  clear hy15
                  have KL15 := Aside0.mk (show (x12_1 : Int).toNat ≤ t414.length from by omega)
                  replace q15 := eq_true q15
                  go_wp2_with (first | (go_at_call 43; (with_reducible refine (slices_Contains_int_int.calls k1 _ _ y418 (rd t414 x12_1) true _ ?side1 ?side2 A13.out).mono ?_); (case side1 => repeat (first | exact (by repeat (first | (with_reducible exact HR421.out) | (with_reducible refine Kd.C_alloc ?_ _) | (with_reducible refine Kd.C_drewN ?_ _) | (with_reducible refine Kd.C_drew ?_) | exact HR421.out)) | (with_reducible refine Kd.C_alloc ?_ _) | (with_reducible refine Kd.C_drewN ?_ _) | (with_reducible refine Kd.C_drew ?_))); (case side2 => exact HC421.out); rintro e w' ⟨rfl, ⟨nd, rfl⟩⟩))
                  go_ret
                  exact ⟨by first | rfl | (simp [errW_none, errW_some] <;> rfl) | (simp [*, errW_none, errW_some] <;> rfl), by repeat (first | (with_reducible first | exact HB.out | apply below_alloc | apply pw_below_drewN | apply below_drew1 | refine below_set ?_ GE413.out) | exact HB.out)⟩
                · replace c14 := Bool.eq_false_iff.mpr c14
                  subst c14
                  have H1 : (box_May.l0 k1 t414 t414 (t414.length : Int) (wrap64 (x12_1 + 1)) a0_0 l0_1 l0_2 l0_3) = some r := by rw [if_neg (show ¬ (false = true) by decide)] at H; exact H
                  clear H
                  have H := H1
                  clear H1
                  have H' := Aside0.mk H
                  clear H
                  have p417 : 0 ≤ (x12_1 : Int) := of_decide_eq_true (by first | (with_reducible assumption) | assumption)
                  have q417 : x12_1 < (t414.length : Int) := of_decide_eq_true (by first | (with_reducible assumption) | assumption)
                  obtain ⟨ad417, e417, hx417_0⟩ := Kd.at_int (Kd.R_reads' HO_10.out).2.2 x12_1 p417 q417
                  cases e417
                  replace p417 := eq_true p417
                  replace q417 := eq_true q417
                  have q16 : (x12_1 : Int) ≤ ((t414.length : Int) : Int) := of_decide_eq_true (by first | (with_reducible assumption) | assumption)
                  obtain ⟨i016, hi016, _, hsz16, _⟩ := info_parts info3
                  have hroom16 : t414.length ≤ co6 := (Kd.R_reads' HO_3.out).2.1
                  have hC16 : Kd.C (Kd.int .i64) _ (some ad417) t414.length t414 := (Kd.R_reads' HO_3.out).2.2
                  have hcut16 := cut_to (P := Try.prog) 25 3 .i64 Try.underlying25 hi016 (some ad417) t414.length co6 x12_1 (of_decide_eq_true (by first | (with_reducible assumption) | assumption)) q16 hroom16
                  have hr16 := Kd.C_take (m := (x12_1 : Int).toNat) hC16 (by omega)
                  have hy16 : y418.length = (x12_1 : Int).toNat := (by rw [Ny418.out, List.length_take]; omega)
                  rw [← Ny418.out] at hr16
                  rw [← hy16] at hcut16
                  have HR421 := Aside0.mk hr16
                  have HC421 := Aside0.mk (show y418.length ≤ co6 from by omega)
                  clear hr16 hC16 hroom16 hi016 hsz16
                  have KY16 := Aside0.mk hy16
                  clear hy16
                  have KL16 := Aside0.mk (show (x12_1 : Int).toNat ≤ t414.length from by omega)
                  replace q16 := eq_true q16
                  go_wp2_with (first | (go_at_call 43; (with_reducible refine (slices_Contains_int_int.calls k1 _ _ y418 (rd t414 x12_1) false _ ?side1 ?side2 A13.out).mono ?_); (case side1 => repeat (first | exact (by repeat (first | (with_reducible exact HR421.out) | (with_reducible refine Kd.C_alloc ?_ _) | (with_reducible refine Kd.C_drewN ?_ _) | (with_reducible refine Kd.C_drew ?_) | exact HR421.out)) | (with_reducible refine Kd.C_alloc ?_ _) | (with_reducible refine Kd.C_drewN ?_ _) | (with_reducible refine Kd.C_drew ?_))); (case side2 => exact HC421.out); rintro e w' ⟨rfl, ⟨nd, rfl⟩⟩))
                  go_roundg k1
                  case measure => have := HK1.out; omega
                  case rel => exact ⟨(wrap64 (x12_1 + 1)), (by first | rfl | (simp; done) | (simp [*]; done)), H', ⟨by have := HK1.out; omega⟩, ⟨by (with_reducible repeat (first | apply Kd.R_alloc | apply Kd.R_drewN | apply Kd.R_drew)); exact HO_3.out⟩, ⟨by (with_reducible repeat (first | apply Kd.R_alloc | apply Kd.R_drewN | apply Kd.R_drew)); exact HO_10.out⟩, ⟨by (with_reducible repeat (first | refine blk_drewN ?_ _ | refine blk_drew ?_ | refine blk_alloc ?_ _)); exact BK413.out⟩, ⟨by repeat (first | (with_reducible first | exact HB.out | apply below_alloc | apply pw_below_drewN | apply below_drew1 | refine below_set ?_ GE413.out) | exact HB.out)⟩⟩
              · rw [if_neg c12] at H
                exact absurd H (by simp)
          · rw [if_neg c9] at H
            exact absurd H (by simp)
        · rw [if_neg c8] at H
          exact absurd H (by simp)
      · rw [if_neg c7] at H
        have c7b0 : decide (x12_1 < (t414.length : Int)) = false := decide_eq_false c7
        clear c7
        by_cases c17 : (l0_1.length : Int) = 0
        · rw [if_pos c17] at H
          have c17b0 : ((l0_1.length : Int) == 0) = true := beq_iff_eq.mpr c17
          have c17b1 : ((l0_1.length : Int) != 0) = false := bne_eq_false_iff_eq.mpr c17
          clear c17
          by_cases c18 : a0_0 ≥ 0
          · rw [if_pos c18] at H
            have c18b0 : decide (0 ≤ a0_0) = true := decide_eq_true c18
            clear c18
            by_cases c19 : a0_0 ≤ 8
            · rw [if_pos c19] at H
              have c19b0 : decide (a0_0 ≤ 8) = true := decide_eq_true c19
              clear c19
              by_cases c20 : (l0_1.length : Int) ≤ a0_0
              · rw [if_pos c20] at H
                have c20b0 : decide ((l0_1.length : Int) ≤ a0_0) = true := decide_eq_true c20
                clear c20
                by_cases c21 : (l0_1.length : Int) = a0_0
                · rw [if_pos c21] at H
                  have c21b0 : ((l0_1.length : Int) == a0_0) = true := beq_iff_eq.mpr c21
                  have c21b1 : ((l0_1.length : Int) != a0_0) = false := bne_eq_false_iff_eq.mpr c21
                  clear c21
                  by_cases c22 : (l0_2.length : Int) = 0
                  · rw [if_pos c22] at H
                    have c22b0 : ((l0_2.length : Int) == 0) = true := beq_iff_eq.mpr c22
                    have c22b1 : ((l0_2.length : Int) != 0) = false := bne_eq_false_iff_eq.mpr c22
                    clear c22
                    obtain rfl := Option.some.inj H
                    have hcz23_0 : wr.cell? ⟨gb413, 0, none⟩ = some (.int .i64 a0_0) := (blk_cell BK413.out 0).trans rfl
                    have hcz23_1 : wr.cell? ⟨gb413, 1, none⟩ = some (.slice A0_1 l0_1.length c0_1) := (blk_cell BK413.out 1).trans rfl
                    have hcz23_2 : wr.cell? ⟨gb413, 2, none⟩ = some (.slice A0_2 l0_2.length c0_2) := (blk_cell BK413.out 2).trans rfl
                    have hcz23_3 : wr.cell? ⟨gb413, 3, none⟩ = some (.slice A0_3 l0_3.length c0_3) := (blk_cell BK413.out 3).trans rfl
                    have hfz23_0 := blk_frozen BK413.out 0
                    have hfz23_1 := blk_frozen BK413.out 1
                    have hfz23_2 := blk_frozen BK413.out 2
                    have hfz23_3 := blk_frozen BK413.out 3
                    go_wp2
                    go_ret
                    exact ⟨by first | rfl | (simp [errW_none, errW_some] <;> rfl) | (simp [*, errW_none, errW_some] <;> rfl), by repeat (first | (with_reducible first | exact HB.out | apply below_alloc | apply pw_below_drewN | apply below_drew1 | refine below_set ?_ GE413.out) | exact HB.out)⟩
                  · rw [if_neg c22] at H
                    have c22b0 : ((l0_2.length : Int) == 0) = false := beq_eq_false_iff_ne.mpr c22
                    have c22b1 : ((l0_2.length : Int) != 0) = true := bne_iff_ne.mpr c22
                    have c22b2 : ¬ (l0_2 = []) := fun h_ => c22 (by rw [h_]; rfl)
                    obtain rfl := Option.some.inj H
                    have hcz24_0 : wr.cell? ⟨gb413, 0, none⟩ = some (.int .i64 a0_0) := (blk_cell BK413.out 0).trans rfl
                    have hcz24_1 : wr.cell? ⟨gb413, 1, none⟩ = some (.slice A0_1 l0_1.length c0_1) := (blk_cell BK413.out 1).trans rfl
                    have hcz24_2 : wr.cell? ⟨gb413, 2, none⟩ = some (.slice A0_2 l0_2.length c0_2) := (blk_cell BK413.out 2).trans rfl
                    have hcz24_3 : wr.cell? ⟨gb413, 3, none⟩ = some (.slice A0_3 l0_3.length c0_3) := (blk_cell BK413.out 3).trans rfl
                    have hfz24_0 := blk_frozen BK413.out 0
                    have hfz24_1 := blk_frozen BK413.out 1
                    have hfz24_2 := blk_frozen BK413.out 2
                    have hfz24_3 := blk_frozen BK413.out 3
                    go_wp2
                    go_ret
                    exact ⟨by first | rfl | (simp [errW_none, errW_some] <;> rfl) | (simp [*, errW_none, errW_some] <;> rfl), by repeat (first | (with_reducible first | exact HB.out | apply below_alloc | apply pw_below_drewN | apply below_drew1 | refine below_set ?_ GE413.out) | exact HB.out)⟩
                · rw [if_neg c21] at H
                  have c21b0 : ((l0_1.length : Int) == a0_0) = false := beq_eq_false_iff_ne.mpr c21
                  have c21b1 : ((l0_1.length : Int) != a0_0) = true := bne_iff_ne.mpr c21
                  by_cases c25 : (l0_2.length : Int) = 0
                  · rw [if_pos c25] at H
                    have c25b0 : ((l0_2.length : Int) == 0) = true := beq_iff_eq.mpr c25
                    have c25b1 : ((l0_2.length : Int) != 0) = false := bne_eq_false_iff_eq.mpr c25
                    clear c25
                    obtain rfl := Option.some.inj H
                    have hcz26_0 : wr.cell? ⟨gb413, 0, none⟩ = some (.int .i64 a0_0) := (blk_cell BK413.out 0).trans rfl
                    have hcz26_1 : wr.cell? ⟨gb413, 1, none⟩ = some (.slice A0_1 l0_1.length c0_1) := (blk_cell BK413.out 1).trans rfl
                    have hcz26_2 : wr.cell? ⟨gb413, 2, none⟩ = some (.slice A0_2 l0_2.length c0_2) := (blk_cell BK413.out 2).trans rfl
                    have hcz26_3 : wr.cell? ⟨gb413, 3, none⟩ = some (.slice A0_3 l0_3.length c0_3) := (blk_cell BK413.out 3).trans rfl
                    have hfz26_0 := blk_frozen BK413.out 0
                    have hfz26_1 := blk_frozen BK413.out 1
                    have hfz26_2 := blk_frozen BK413.out 2
                    have hfz26_3 := blk_frozen BK413.out 3
                    go_wp2
                    go_ret
                    exact ⟨by first | rfl | (simp [errW_none, errW_some] <;> rfl) | (simp [*, errW_none, errW_some] <;> rfl), by repeat (first | (with_reducible first | exact HB.out | apply below_alloc | apply pw_below_drewN | apply below_drew1 | refine below_set ?_ GE413.out) | exact HB.out)⟩
                  · rw [if_neg c25] at H
                    have c25b0 : ((l0_2.length : Int) == 0) = false := beq_eq_false_iff_ne.mpr c25
                    have c25b1 : ((l0_2.length : Int) != 0) = true := bne_iff_ne.mpr c25
                    have c25b2 : ¬ (l0_2 = []) := fun h_ => c25 (by rw [h_]; rfl)
                    obtain rfl := Option.some.inj H
                    have hcz27_0 : wr.cell? ⟨gb413, 0, none⟩ = some (.int .i64 a0_0) := (blk_cell BK413.out 0).trans rfl
                    have hcz27_1 : wr.cell? ⟨gb413, 1, none⟩ = some (.slice A0_1 l0_1.length c0_1) := (blk_cell BK413.out 1).trans rfl
                    have hcz27_2 : wr.cell? ⟨gb413, 2, none⟩ = some (.slice A0_2 l0_2.length c0_2) := (blk_cell BK413.out 2).trans rfl
                    have hcz27_3 : wr.cell? ⟨gb413, 3, none⟩ = some (.slice A0_3 l0_3.length c0_3) := (blk_cell BK413.out 3).trans rfl
                    have hfz27_0 := blk_frozen BK413.out 0
                    have hfz27_1 := blk_frozen BK413.out 1
                    have hfz27_2 := blk_frozen BK413.out 2
                    have hfz27_3 := blk_frozen BK413.out 3
                    go_wp2
                    go_ret
                    exact ⟨by first | rfl | (simp [errW_none, errW_some] <;> rfl) | (simp [*, errW_none, errW_some] <;> rfl), by repeat (first | (with_reducible first | exact HB.out | apply below_alloc | apply pw_below_drewN | apply below_drew1 | refine below_set ?_ GE413.out) | exact HB.out)⟩
              · rw [if_neg c20] at H
                have c20b0 : decide ((l0_1.length : Int) ≤ a0_0) = false := decide_eq_false c20
                clear c20
                obtain rfl := Option.some.inj H
                have hcz28_0 : wr.cell? ⟨gb413, 0, none⟩ = some (.int .i64 a0_0) := (blk_cell BK413.out 0).trans rfl
                have hcz28_1 : wr.cell? ⟨gb413, 1, none⟩ = some (.slice A0_1 l0_1.length c0_1) := (blk_cell BK413.out 1).trans rfl
                have hcz28_2 : wr.cell? ⟨gb413, 2, none⟩ = some (.slice A0_2 l0_2.length c0_2) := (blk_cell BK413.out 2).trans rfl
                have hcz28_3 : wr.cell? ⟨gb413, 3, none⟩ = some (.slice A0_3 l0_3.length c0_3) := (blk_cell BK413.out 3).trans rfl
                have hfz28_0 := blk_frozen BK413.out 0
                have hfz28_1 := blk_frozen BK413.out 1
                have hfz28_2 := blk_frozen BK413.out 2
                have hfz28_3 := blk_frozen BK413.out 3
                go_wp2
                go_ret
                exact ⟨by first | rfl | (simp [errW_none, errW_some] <;> rfl) | (simp [*, errW_none, errW_some] <;> rfl), by repeat (first | (with_reducible first | exact HB.out | apply below_alloc | apply pw_below_drewN | apply below_drew1 | refine below_set ?_ GE413.out) | exact HB.out)⟩
            · rw [if_neg c19] at H
              have c19b0 : decide (a0_0 ≤ 8) = false := decide_eq_false c19
              clear c19
              obtain rfl := Option.some.inj H
              have hcz29_0 : wr.cell? ⟨gb413, 0, none⟩ = some (.int .i64 a0_0) := (blk_cell BK413.out 0).trans rfl
              have hcz29_1 : wr.cell? ⟨gb413, 1, none⟩ = some (.slice A0_1 l0_1.length c0_1) := (blk_cell BK413.out 1).trans rfl
              have hcz29_2 : wr.cell? ⟨gb413, 2, none⟩ = some (.slice A0_2 l0_2.length c0_2) := (blk_cell BK413.out 2).trans rfl
              have hcz29_3 : wr.cell? ⟨gb413, 3, none⟩ = some (.slice A0_3 l0_3.length c0_3) := (blk_cell BK413.out 3).trans rfl
              have hfz29_0 := blk_frozen BK413.out 0
              have hfz29_1 := blk_frozen BK413.out 1
              have hfz29_2 := blk_frozen BK413.out 2
              have hfz29_3 := blk_frozen BK413.out 3
              go_wp2
              go_ret
              exact ⟨by first | rfl | (simp [errW_none, errW_some] <;> rfl) | (simp [*, errW_none, errW_some] <;> rfl), by repeat (first | (with_reducible first | exact HB.out | apply below_alloc | apply pw_below_drewN | apply below_drew1 | refine below_set ?_ GE413.out) | exact HB.out)⟩
          · rw [if_neg c18] at H
            have c18b0 : decide (0 ≤ a0_0) = false := decide_eq_false c18
            clear c18
            obtain rfl := Option.some.inj H
            have hcz30_0 : wr.cell? ⟨gb413, 0, none⟩ = some (.int .i64 a0_0) := (blk_cell BK413.out 0).trans rfl
            have hcz30_1 : wr.cell? ⟨gb413, 1, none⟩ = some (.slice A0_1 l0_1.length c0_1) := (blk_cell BK413.out 1).trans rfl
            have hcz30_2 : wr.cell? ⟨gb413, 2, none⟩ = some (.slice A0_2 l0_2.length c0_2) := (blk_cell BK413.out 2).trans rfl
            have hcz30_3 : wr.cell? ⟨gb413, 3, none⟩ = some (.slice A0_3 l0_3.length c0_3) := (blk_cell BK413.out 3).trans rfl
            have hfz30_0 := blk_frozen BK413.out 0
            have hfz30_1 := blk_frozen BK413.out 1
            have hfz30_2 := blk_frozen BK413.out 2
            have hfz30_3 := blk_frozen BK413.out 3
            go_wp2
            go_ret
            exact ⟨by first | rfl | (simp [errW_none, errW_some] <;> rfl) | (simp [*, errW_none, errW_some] <;> rfl), by repeat (first | (with_reducible first | exact HB.out | apply below_alloc | apply pw_below_drewN | apply below_drew1 | refine below_set ?_ GE413.out) | exact HB.out)⟩
        · rw [if_neg c17] at H
          have c17b0 : ((l0_1.length : Int) == 0) = false := beq_eq_false_iff_ne.mpr c17
          have c17b1 : ((l0_1.length : Int) != 0) = true := bne_iff_ne.mpr c17
          have c17b2 : ¬ (l0_1 = []) := fun h_ => c17 (by rw [h_]; rfl)
          by_cases c31 : a0_0 ≥ 0
          · rw [if_pos c31] at H
            have c31b0 : decide (0 ≤ a0_0) = true := decide_eq_true c31
            clear c31
            by_cases c32 : a0_0 ≤ 8
            · rw [if_pos c32] at H
              have c32b0 : decide (a0_0 ≤ 8) = true := decide_eq_true c32
              clear c32
              by_cases c33 : (l0_1.length : Int) ≤ a0_0
              · rw [if_pos c33] at H
                have c33b0 : decide ((l0_1.length : Int) ≤ a0_0) = true := decide_eq_true c33
                clear c33
                by_cases c34 : (l0_1.length : Int) = a0_0
                · rw [if_pos c34] at H
                  have c34b0 : ((l0_1.length : Int) == a0_0) = true := beq_iff_eq.mpr c34
                  have c34b1 : ((l0_1.length : Int) != a0_0) = false := bne_eq_false_iff_eq.mpr c34
                  clear c34
                  obtain rfl := Option.some.inj H
                  have hcz35_0 : wr.cell? ⟨gb413, 0, none⟩ = some (.int .i64 a0_0) := (blk_cell BK413.out 0).trans rfl
                  have hcz35_1 : wr.cell? ⟨gb413, 1, none⟩ = some (.slice A0_1 l0_1.length c0_1) := (blk_cell BK413.out 1).trans rfl
                  have hcz35_2 : wr.cell? ⟨gb413, 2, none⟩ = some (.slice A0_2 l0_2.length c0_2) := (blk_cell BK413.out 2).trans rfl
                  have hcz35_3 : wr.cell? ⟨gb413, 3, none⟩ = some (.slice A0_3 l0_3.length c0_3) := (blk_cell BK413.out 3).trans rfl
                  have hfz35_0 := blk_frozen BK413.out 0
                  have hfz35_1 := blk_frozen BK413.out 1
                  have hfz35_2 := blk_frozen BK413.out 2
                  have hfz35_3 := blk_frozen BK413.out 3
                  go_wp2
                  go_ret
                  exact ⟨by first | rfl | (simp [errW_none, errW_some] <;> rfl) | (simp [*, errW_none, errW_some] <;> rfl), by repeat (first | (with_reducible first | exact HB.out | apply below_alloc | apply pw_below_drewN | apply below_drew1 | refine below_set ?_ GE413.out) | exact HB.out)⟩
                · rw [if_neg c34] at H
                  have c34b0 : ((l0_1.length : Int) == a0_0) = false := beq_eq_false_iff_ne.mpr c34
                  have c34b1 : ((l0_1.length : Int) != a0_0) = true := bne_iff_ne.mpr c34
                  by_cases c36 : (l0_2.length : Int) = 0
                  · rw [if_pos c36] at H
                    have c36b0 : ((l0_2.length : Int) == 0) = true := beq_iff_eq.mpr c36
                    have c36b1 : ((l0_2.length : Int) != 0) = false := bne_eq_false_iff_eq.mpr c36
                    clear c36
                    obtain rfl := Option.some.inj H
                    have hcz37_0 : wr.cell? ⟨gb413, 0, none⟩ = some (.int .i64 a0_0) := (blk_cell BK413.out 0).trans rfl
                    have hcz37_1 : wr.cell? ⟨gb413, 1, none⟩ = some (.slice A0_1 l0_1.length c0_1) := (blk_cell BK413.out 1).trans rfl
                    have hcz37_2 : wr.cell? ⟨gb413, 2, none⟩ = some (.slice A0_2 l0_2.length c0_2) := (blk_cell BK413.out 2).trans rfl
                    have hcz37_3 : wr.cell? ⟨gb413, 3, none⟩ = some (.slice A0_3 l0_3.length c0_3) := (blk_cell BK413.out 3).trans rfl
                    have hfz37_0 := blk_frozen BK413.out 0
                    have hfz37_1 := blk_frozen BK413.out 1
                    have hfz37_2 := blk_frozen BK413.out 2
                    have hfz37_3 := blk_frozen BK413.out 3
                    go_wp2
                    go_ret
                    exact ⟨by first | rfl | (simp [errW_none, errW_some] <;> rfl) | (simp [*, errW_none, errW_some] <;> rfl), by repeat (first | (with_reducible first | exact HB.out | apply below_alloc | apply pw_below_drewN | apply below_drew1 | refine below_set ?_ GE413.out) | exact HB.out)⟩
                  · rw [if_neg c36] at H
                    have c36b0 : ((l0_2.length : Int) == 0) = false := beq_eq_false_iff_ne.mpr c36
                    have c36b1 : ((l0_2.length : Int) != 0) = true := bne_iff_ne.mpr c36
                    have c36b2 : ¬ (l0_2 = []) := fun h_ => c36 (by rw [h_]; rfl)
                    obtain rfl := Option.some.inj H
                    have hcz38_0 : wr.cell? ⟨gb413, 0, none⟩ = some (.int .i64 a0_0) := (blk_cell BK413.out 0).trans rfl
                    have hcz38_1 : wr.cell? ⟨gb413, 1, none⟩ = some (.slice A0_1 l0_1.length c0_1) := (blk_cell BK413.out 1).trans rfl
                    have hcz38_2 : wr.cell? ⟨gb413, 2, none⟩ = some (.slice A0_2 l0_2.length c0_2) := (blk_cell BK413.out 2).trans rfl
                    have hcz38_3 : wr.cell? ⟨gb413, 3, none⟩ = some (.slice A0_3 l0_3.length c0_3) := (blk_cell BK413.out 3).trans rfl
                    have hfz38_0 := blk_frozen BK413.out 0
                    have hfz38_1 := blk_frozen BK413.out 1
                    have hfz38_2 := blk_frozen BK413.out 2
                    have hfz38_3 := blk_frozen BK413.out 3
                    go_wp2
                    go_ret
                    exact ⟨by first | rfl | (simp [errW_none, errW_some] <;> rfl) | (simp [*, errW_none, errW_some] <;> rfl), by repeat (first | (with_reducible first | exact HB.out | apply below_alloc | apply pw_below_drewN | apply below_drew1 | refine below_set ?_ GE413.out) | exact HB.out)⟩
              · rw [if_neg c33] at H
                have c33b0 : decide ((l0_1.length : Int) ≤ a0_0) = false := decide_eq_false c33
                clear c33
                obtain rfl := Option.some.inj H
                have hcz39_0 : wr.cell? ⟨gb413, 0, none⟩ = some (.int .i64 a0_0) := (blk_cell BK413.out 0).trans rfl
                have hcz39_1 : wr.cell? ⟨gb413, 1, none⟩ = some (.slice A0_1 l0_1.length c0_1) := (blk_cell BK413.out 1).trans rfl
                have hcz39_2 : wr.cell? ⟨gb413, 2, none⟩ = some (.slice A0_2 l0_2.length c0_2) := (blk_cell BK413.out 2).trans rfl
                have hcz39_3 : wr.cell? ⟨gb413, 3, none⟩ = some (.slice A0_3 l0_3.length c0_3) := (blk_cell BK413.out 3).trans rfl
                have hfz39_0 := blk_frozen BK413.out 0
                have hfz39_1 := blk_frozen BK413.out 1
                have hfz39_2 := blk_frozen BK413.out 2
                have hfz39_3 := blk_frozen BK413.out 3
                go_wp2
                go_ret
                exact ⟨by first | rfl | (simp [errW_none, errW_some] <;> rfl) | (simp [*, errW_none, errW_some] <;> rfl), by repeat (first | (with_reducible first | exact HB.out | apply below_alloc | apply pw_below_drewN | apply below_drew1 | refine below_set ?_ GE413.out) | exact HB.out)⟩
            · rw [if_neg c32] at H
              have c32b0 : decide (a0_0 ≤ 8) = false := decide_eq_false c32
              clear c32
              obtain rfl := Option.some.inj H
              have hcz40_0 : wr.cell? ⟨gb413, 0, none⟩ = some (.int .i64 a0_0) := (blk_cell BK413.out 0).trans rfl
              have hcz40_1 : wr.cell? ⟨gb413, 1, none⟩ = some (.slice A0_1 l0_1.length c0_1) := (blk_cell BK413.out 1).trans rfl
              have hcz40_2 : wr.cell? ⟨gb413, 2, none⟩ = some (.slice A0_2 l0_2.length c0_2) := (blk_cell BK413.out 2).trans rfl
              have hcz40_3 : wr.cell? ⟨gb413, 3, none⟩ = some (.slice A0_3 l0_3.length c0_3) := (blk_cell BK413.out 3).trans rfl
              have hfz40_0 := blk_frozen BK413.out 0
              have hfz40_1 := blk_frozen BK413.out 1
              have hfz40_2 := blk_frozen BK413.out 2
              have hfz40_3 := blk_frozen BK413.out 3
              go_wp2
              go_ret
              exact ⟨by first | rfl | (simp [errW_none, errW_some] <;> rfl) | (simp [*, errW_none, errW_some] <;> rfl), by repeat (first | (with_reducible first | exact HB.out | apply below_alloc | apply pw_below_drewN | apply below_drew1 | refine below_set ?_ GE413.out) | exact HB.out)⟩
          · rw [if_neg c31] at H
            have c31b0 : decide (0 ≤ a0_0) = false := decide_eq_false c31
            clear c31
            obtain rfl := Option.some.inj H
            have hcz41_0 : wr.cell? ⟨gb413, 0, none⟩ = some (.int .i64 a0_0) := (blk_cell BK413.out 0).trans rfl
            have hcz41_1 : wr.cell? ⟨gb413, 1, none⟩ = some (.slice A0_1 l0_1.length c0_1) := (blk_cell BK413.out 1).trans rfl
            have hcz41_2 : wr.cell? ⟨gb413, 2, none⟩ = some (.slice A0_2 l0_2.length c0_2) := (blk_cell BK413.out 2).trans rfl
            have hcz41_3 : wr.cell? ⟨gb413, 3, none⟩ = some (.slice A0_3 l0_3.length c0_3) := (blk_cell BK413.out 3).trans rfl
            have hfz41_0 := blk_frozen BK413.out 0
            have hfz41_1 := blk_frozen BK413.out 1
            have hfz41_2 := blk_frozen BK413.out 2
            have hfz41_3 := blk_frozen BK413.out 3
            go_wp2
            go_ret
            exact ⟨by first | rfl | (simp [errW_none, errW_some] <;> rfl) | (simp [*, errW_none, errW_some] <;> rfl), by repeat (first | (with_reducible first | exact HB.out | apply below_alloc | apply pw_below_drewN | apply below_drew1 | refine below_set ?_ GE413.out) | exact HB.out)⟩

-- NOT PRINTED: function 29 (catafalqueref11_Send)

-- NOT PRINTED: function 30 (catafalqueref11_Recv)

/-! ### catafalqueref01_Ints: function 33 -/
def catafalqueref01_Ints.l0 : Nat → List Int → List Int → Int → Option (Bool)
  | 0, _, _, _ => none
  | k + 1, x0, x1, x5 => if x5 < (x0.length : Int) then (if 0 ≤ x5 then (if x5 < (x1.length : Int) then (if (rd x0 x5) = (rd x1 x5) then (catafalqueref01_Ints.l0 k x0 x1 (wrap64 (x5 + 1))) else (some false)) else (none)) else (none)) else (some true)
def catafalqueref01_Ints.f (k : Nat) (l0 : List Int) (l1 : List Int) : Option (Bool) := if (l0.length : Int) = (l1.length : Int) then (catafalqueref01_Ints.l0 k l0 l1 0) else (some false)
theorem catafalqueref01_Ints.mono_l : ∀ k, (∀ y0 y1 y2, LeO (catafalqueref01_Ints.l0 k y0 y1 y2) (catafalqueref01_Ints.l0 (k + 1) y0 y1 y2))
  | 0 => fun _ _ _ r h => by simp [catafalqueref01_Ints.l0] at h
  | k + 1 => by
    have ih0 := catafalqueref01_Ints.mono_l k
    · intro y0 y1 y2
      unfold catafalqueref01_Ints.l0
      repeat' first
      | (with_reducible exact ih0 _ _ _)
      | (with_reducible exact LeO.refl _)
      | (with_reducible exact LeO.none _)
      | (with_reducible refine LeO.ite ?_ ?_)
      | (with_reducible refine LeO.bind ?_ (fun _ => ?_))
      | exact ih0 _ _ _
      | exact LeO.none _
      | refine LeO.ite ?_ ?_
      | refine LeO.bind ?_ (fun _ => ?_)
theorem catafalqueref01_Ints.mono : ∀ a0 a1 k, LeO (catafalqueref01_Ints.f k a0 a1) (catafalqueref01_Ints.f (k + 1) a0 a1) := by
  intro a0 a1 k
  have ih0 := catafalqueref01_Ints.mono_l k
  unfold catafalqueref01_Ints.f
  repeat' first
      | (with_reducible exact ih0 _ _ _)
      | (with_reducible exact LeO.refl _)
      | (with_reducible exact LeO.none _)
      | (with_reducible refine LeO.ite ?_ ?_)
      | (with_reducible refine LeO.bind ?_ (fun _ => ?_))
      | exact ih0 _ _ _
      | exact LeO.none _
      | refine LeO.ite ?_ ?_
      | refine LeO.bind ?_ (fun _ => ?_)
set_option maxHeartbeats 8000000 in
set_option maxRecDepth 100000 in
theorem catafalqueref01_Ints.calls (k : Nat) (A0 : Option Addr) (c0 : Nat) (l0 : List Int) (A1 : Option Addr) (c1 : Nat) (l1 : List Int) (r : Bool) (w : World) (hr0 : Kd.C (Kd.int .i64) w A0 l0.length l0) (hc0 : l0.length ≤ c0) (hr1 : Kd.C (Kd.int .i64) w A1 l1.length l1) (hc1 : l1.length ≤ c1) (h : catafalqueref01_Ints.f k l0 l1 = some r) :
    Calls Try.prog 33 #[.slice A0 l0.length c0, .slice A1 l1.length c1] w fun e w' => e = .returned (.bool r) ∧ Drawn0 w w' := by
  have HR0 := Aside0.mk hr0
  have HC0 := Aside0.mk hc0
  clear hr0 hc0
  have HR1 := Aside0.mk hr1
  have HC1 := Aside0.mk hc1
  clear hr1 hc1
  have H : (if (l0.length : Int) = (l1.length : Int) then (catafalqueref01_Ints.l0 k l0 l1 0) else (some false)) = some r := h
  clear h
  by_cases c3 : (l0.length : Int) = (l1.length : Int)
  · rw [if_pos c3] at H
    have c3b0 : ((l0.length : Int) == (l1.length : Int)) = true := beq_iff_eq.mpr c3
    have c3b1 : ((l0.length : Int) != (l1.length : Int)) = false := bne_eq_false_iff_eq.mpr c3
    have c3b2 : (l0.length == l1.length) = true := by first | simpa using c3 | (simp at c3 ⊢; omega)
    clear c3
    have H' := Aside0.mk H
    clear H
    go_enter Try.func33, Try.ntmps33
    go_wp2
    repeat (go_quiet (fail); try go_wp2)
    go_loopg [5] k (fun kq v5 w' => ∃ (x5_1 : Int), v5 = .int .i64 x5_1 ∧ Aside0 (catafalqueref01_Ints.l0 kq l0 l1 x5_1 = some r) ∧ Aside0 (kq ≤ k) ∧ Drawn0 w w')
    case atStart => exact ⟨(0), (by first | rfl | (simp; done) | (simp [*]; done)), H', ⟨Nat.le_refl _⟩, by repeat (first | exact Drawn0.refl _ | apply Drawn0.step)⟩
    case round =>
      clear H'
      try clear c1
      try clear p2
      try clear c3
      try clear c3b0
      try clear c3b1
      try clear c3b2
      obtain ⟨x5_1, rfl, HA, HK1, ⟨m1, rfl⟩⟩ := hrel
      cases gk with
      | zero => exact absurd HA.out (by simp [catafalqueref01_Ints.l0])
      | succ k1 =>
        have H := HA.out
        clear HA
        simp only [catafalqueref01_Ints.l0] at H
        by_cases c4 : x5_1 < (l0.length : Int)
        · rw [if_pos c4] at H
          have c4b0 : decide (x5_1 < (l0.length : Int)) = true := decide_eq_true c4
          clear c4
          by_cases c5 : 0 ≤ x5_1
          · rw [if_pos c5] at H
            have c5b0 : decide (0 ≤ x5_1) = true := decide_eq_true c5
            clear c5
            by_cases c6 : x5_1 < (l1.length : Int)
            · rw [if_pos c6] at H
              have c6b0 : decide (x5_1 < (l1.length : Int)) = true := decide_eq_true c6
              clear c6
              by_cases c7 : (rd l0 x5_1) = (rd l1 x5_1)
              · rw [if_pos c7] at H
                have c7b0 : ((rd l0 x5_1) == (rd l1 x5_1)) = true := beq_iff_eq.mpr c7
                have c7b1 : ((rd l0 x5_1) != (rd l1 x5_1)) = false := bne_eq_false_iff_eq.mpr c7
                clear c7
                have H' := Aside0.mk H
                clear H
                have p489 : 0 ≤ (x5_1 : Int) := of_decide_eq_true (by first | (with_reducible assumption) | assumption)
                have q489 : x5_1 < (l0.length : Int) := of_decide_eq_true (by first | (with_reducible assumption) | assumption)
                obtain ⟨ad489, e489, hx489_0⟩ := Kd.at_int HR0.out x5_1 p489 q489
                cases e489
                replace p489 := eq_true p489
                replace q489 := eq_true q489
                have p490 : 0 ≤ (x5_1 : Int) := of_decide_eq_true (by first | (with_reducible assumption) | assumption)
                have q490 : x5_1 < (l1.length : Int) := of_decide_eq_true (by first | (with_reducible assumption) | assumption)
                obtain ⟨ad490, e490, hx490_0⟩ := Kd.at_int HR1.out x5_1 p490 q490
                cases e490
                replace p490 := eq_true p490
                replace q490 := eq_true q490
                go_wp2
                repeat (go_quiet (fail); try go_wp2)
                go_roundg k1
                case measure => have := HK1.out; omega
                case rel => exact ⟨(wrap64 (x5_1 + 1)), (by first | rfl | (simp; done) | (simp [*]; done)), H', ⟨by have := HK1.out; omega⟩, by repeat (first | exact Drawn0.refl _ | apply Drawn0.step)⟩
              · rw [if_neg c7] at H
                have c7b0 : ((rd l0 x5_1) == (rd l1 x5_1)) = false := beq_eq_false_iff_ne.mpr c7
                have c7b1 : ((rd l0 x5_1) != (rd l1 x5_1)) = true := bne_iff_ne.mpr c7
                obtain rfl := Option.some.inj H
                have p489 : 0 ≤ (x5_1 : Int) := of_decide_eq_true (by first | (with_reducible assumption) | assumption)
                have q489 : x5_1 < (l0.length : Int) := of_decide_eq_true (by first | (with_reducible assumption) | assumption)
                obtain ⟨ad489, e489, hx489_0⟩ := Kd.at_int HR0.out x5_1 p489 q489
                cases e489
                replace p489 := eq_true p489
                replace q489 := eq_true q489
                have p490 : 0 ≤ (x5_1 : Int) := of_decide_eq_true (by first | (with_reducible assumption) | assumption)
                have q490 : x5_1 < (l1.length : Int) := of_decide_eq_true (by first | (with_reducible assumption) | assumption)
                obtain ⟨ad490, e490, hx490_0⟩ := Kd.at_int HR1.out x5_1 p490 q490
                cases e490
                replace p490 := eq_true p490
                replace q490 := eq_true q490
                go_wp2
                repeat (go_quiet (fail); try go_wp2)
                go_ret
                exact ⟨by first | rfl | (simp; done) | (simp [*]; done), by repeat (first | exact Drawn0.refl _ | apply Drawn0.step)⟩
            · rw [if_neg c6] at H
              exact absurd H (by simp)
          · rw [if_neg c5] at H
            exact absurd H (by simp)
        · rw [if_neg c4] at H
          have c4b0 : decide (x5_1 < (l0.length : Int)) = false := decide_eq_false c4
          clear c4
          obtain rfl := Option.some.inj H
          go_wp2
          repeat (go_quiet (fail); try go_wp2)
          go_ret
          exact ⟨by first | rfl | (simp; done) | (simp [*]; done), by repeat (first | exact Drawn0.refl _ | apply Drawn0.step)⟩
  · rw [if_neg c3] at H
    have c3b0 : ((l0.length : Int) == (l1.length : Int)) = false := beq_eq_false_iff_ne.mpr c3
    have c3b1 : ((l0.length : Int) != (l1.length : Int)) = true := bne_iff_ne.mpr c3
    have c3b2 : (l0.length == l1.length) = false := by first | simpa using c3 | (simp at c3 ⊢; omega)
    obtain rfl := Option.some.inj H
    go_enter Try.func33, Try.ntmps33
    go_wp2
    repeat (go_quiet (fail); try go_wp2)
    go_ret
    exact ⟨by first | rfl | (simp; done) | (simp [*]; done), by repeat (first | exact Drawn0.refl _ | apply Drawn0.step)⟩

/-! ### catafalqueref11_Nums: function 44 -/
def catafalqueref11_Nums.l0 : Nat → List Int → List Int → Int → Option (Bool)
  | 0, _, _, _ => none
  | k + 1, x0, x1, x5 => if x5 < (x0.length : Int) then (if 0 ≤ x5 then (if x5 < (x1.length : Int) then (if (rd x0 x5) = (rd x1 x5) then (catafalqueref11_Nums.l0 k x0 x1 (wrap64 (x5 + 1))) else (some false)) else (none)) else (none)) else (some true)
def catafalqueref11_Nums.f (k : Nat) (l0 : List Int) (l1 : List Int) : Option (Bool) := if (l0.length : Int) = (l1.length : Int) then (catafalqueref11_Nums.l0 k l0 l1 0) else (some false)
theorem catafalqueref11_Nums.mono_l : ∀ k, (∀ y0 y1 y2, LeO (catafalqueref11_Nums.l0 k y0 y1 y2) (catafalqueref11_Nums.l0 (k + 1) y0 y1 y2))
  | 0 => fun _ _ _ r h => by simp [catafalqueref11_Nums.l0] at h
  | k + 1 => by
    have ih0 := catafalqueref11_Nums.mono_l k
    · intro y0 y1 y2
      unfold catafalqueref11_Nums.l0
      repeat' first
      | (with_reducible exact ih0 _ _ _)
      | (with_reducible exact LeO.refl _)
      | (with_reducible exact LeO.none _)
      | (with_reducible refine LeO.ite ?_ ?_)
      | (with_reducible refine LeO.bind ?_ (fun _ => ?_))
      | exact ih0 _ _ _
      | exact LeO.none _
      | refine LeO.ite ?_ ?_
      | refine LeO.bind ?_ (fun _ => ?_)
theorem catafalqueref11_Nums.mono : ∀ a0 a1 k, LeO (catafalqueref11_Nums.f k a0 a1) (catafalqueref11_Nums.f (k + 1) a0 a1) := by
  intro a0 a1 k
  have ih0 := catafalqueref11_Nums.mono_l k
  unfold catafalqueref11_Nums.f
  repeat' first
      | (with_reducible exact ih0 _ _ _)
      | (with_reducible exact LeO.refl _)
      | (with_reducible exact LeO.none _)
      | (with_reducible refine LeO.ite ?_ ?_)
      | (with_reducible refine LeO.bind ?_ (fun _ => ?_))
      | exact ih0 _ _ _
      | exact LeO.none _
      | refine LeO.ite ?_ ?_
      | refine LeO.bind ?_ (fun _ => ?_)
set_option maxHeartbeats 8000000 in
set_option maxRecDepth 100000 in
theorem catafalqueref11_Nums.calls (k : Nat) (A0 : Option Addr) (c0 : Nat) (l0 : List Int) (A1 : Option Addr) (c1 : Nat) (l1 : List Int) (r : Bool) (w : World) (hr0 : Kd.C (Kd.int .i64) w A0 l0.length l0) (hc0 : l0.length ≤ c0) (hr1 : Kd.C (Kd.int .i64) w A1 l1.length l1) (hc1 : l1.length ≤ c1) (h : catafalqueref11_Nums.f k l0 l1 = some r) :
    Calls Try.prog 44 #[.slice A0 l0.length c0, .slice A1 l1.length c1] w fun e w' => e = .returned (.bool r) ∧ Drawn0 w w' := by
  have HR0 := Aside0.mk hr0
  have HC0 := Aside0.mk hc0
  clear hr0 hc0
  have HR1 := Aside0.mk hr1
  have HC1 := Aside0.mk hc1
  clear hr1 hc1
  have H : (if (l0.length : Int) = (l1.length : Int) then (catafalqueref11_Nums.l0 k l0 l1 0) else (some false)) = some r := h
  clear h
  by_cases c3 : (l0.length : Int) = (l1.length : Int)
  · rw [if_pos c3] at H
    have c3b0 : ((l0.length : Int) == (l1.length : Int)) = true := beq_iff_eq.mpr c3
    have c3b1 : ((l0.length : Int) != (l1.length : Int)) = false := bne_eq_false_iff_eq.mpr c3
    have c3b2 : (l0.length == l1.length) = true := by first | simpa using c3 | (simp at c3 ⊢; omega)
    clear c3
    have H' := Aside0.mk H
    clear H
    go_enter Try.func44, Try.ntmps44
    go_wp2
    repeat (go_quiet (fail); try go_wp2)
    go_loopg [5] k (fun kq v5 w' => ∃ (x5_1 : Int), v5 = .int .i64 x5_1 ∧ Aside0 (catafalqueref11_Nums.l0 kq l0 l1 x5_1 = some r) ∧ Aside0 (kq ≤ k) ∧ Drawn0 w w')
    case atStart => exact ⟨(0), (by first | rfl | (simp; done) | (simp [*]; done)), H', ⟨Nat.le_refl _⟩, by repeat (first | exact Drawn0.refl _ | apply Drawn0.step)⟩
    case round =>
      clear H'
      try clear c1
      try clear p2
      try clear c3
      try clear c3b0
      try clear c3b1
      try clear c3b2
      obtain ⟨x5_1, rfl, HA, HK1, ⟨m1, rfl⟩⟩ := hrel
      cases gk with
      | zero => exact absurd HA.out (by simp [catafalqueref11_Nums.l0])
      | succ k1 =>
        have H := HA.out
        clear HA
        simp only [catafalqueref11_Nums.l0] at H
        by_cases c4 : x5_1 < (l0.length : Int)
        · rw [if_pos c4] at H
          have c4b0 : decide (x5_1 < (l0.length : Int)) = true := decide_eq_true c4
          clear c4
          by_cases c5 : 0 ≤ x5_1
          · rw [if_pos c5] at H
            have c5b0 : decide (0 ≤ x5_1) = true := decide_eq_true c5
            clear c5
            by_cases c6 : x5_1 < (l1.length : Int)
            · rw [if_pos c6] at H
              have c6b0 : decide (x5_1 < (l1.length : Int)) = true := decide_eq_true c6
              clear c6
              by_cases c7 : (rd l0 x5_1) = (rd l1 x5_1)
              · rw [if_pos c7] at H
                have c7b0 : ((rd l0 x5_1) == (rd l1 x5_1)) = true := beq_iff_eq.mpr c7
                have c7b1 : ((rd l0 x5_1) != (rd l1 x5_1)) = false := bne_eq_false_iff_eq.mpr c7
                clear c7
                have H' := Aside0.mk H
                clear H
                have p491 : 0 ≤ (x5_1 : Int) := of_decide_eq_true (by first | (with_reducible assumption) | assumption)
                have q491 : x5_1 < (l0.length : Int) := of_decide_eq_true (by first | (with_reducible assumption) | assumption)
                obtain ⟨ad491, e491, hx491_0⟩ := Kd.at_int HR0.out x5_1 p491 q491
                cases e491
                replace p491 := eq_true p491
                replace q491 := eq_true q491
                have p492 : 0 ≤ (x5_1 : Int) := of_decide_eq_true (by first | (with_reducible assumption) | assumption)
                have q492 : x5_1 < (l1.length : Int) := of_decide_eq_true (by first | (with_reducible assumption) | assumption)
                obtain ⟨ad492, e492, hx492_0⟩ := Kd.at_int HR1.out x5_1 p492 q492
                cases e492
                replace p492 := eq_true p492
                replace q492 := eq_true q492
                go_wp2
                repeat (go_quiet (fail); try go_wp2)
                go_roundg k1
                case measure => have := HK1.out; omega
                case rel => exact ⟨(wrap64 (x5_1 + 1)), (by first | rfl | (simp; done) | (simp [*]; done)), H', ⟨by have := HK1.out; omega⟩, by repeat (first | exact Drawn0.refl _ | apply Drawn0.step)⟩
              · rw [if_neg c7] at H
                have c7b0 : ((rd l0 x5_1) == (rd l1 x5_1)) = false := beq_eq_false_iff_ne.mpr c7
                have c7b1 : ((rd l0 x5_1) != (rd l1 x5_1)) = true := bne_iff_ne.mpr c7
                obtain rfl := Option.some.inj H
                have p491 : 0 ≤ (x5_1 : Int) := of_decide_eq_true (by first | (with_reducible assumption) | assumption)
                have q491 : x5_1 < (l0.length : Int) := of_decide_eq_true (by first | (with_reducible assumption) | assumption)
                obtain ⟨ad491, e491, hx491_0⟩ := Kd.at_int HR0.out x5_1 p491 q491
                cases e491
                replace p491 := eq_true p491
                replace q491 := eq_true q491
                have p492 : 0 ≤ (x5_1 : Int) := of_decide_eq_true (by first | (with_reducible assumption) | assumption)
                have q492 : x5_1 < (l1.length : Int) := of_decide_eq_true (by first | (with_reducible assumption) | assumption)
                obtain ⟨ad492, e492, hx492_0⟩ := Kd.at_int HR1.out x5_1 p492 q492
                cases e492
                replace p492 := eq_true p492
                replace q492 := eq_true q492
                go_wp2
                repeat (go_quiet (fail); try go_wp2)
                go_ret
                exact ⟨by first | rfl | (simp; done) | (simp [*]; done), by repeat (first | exact Drawn0.refl _ | apply Drawn0.step)⟩
            · rw [if_neg c6] at H
              exact absurd H (by simp)
          · rw [if_neg c5] at H
            exact absurd H (by simp)
        · rw [if_neg c4] at H
          have c4b0 : decide (x5_1 < (l0.length : Int)) = false := decide_eq_false c4
          clear c4
          obtain rfl := Option.some.inj H
          go_wp2
          repeat (go_quiet (fail); try go_wp2)
          go_ret
          exact ⟨by first | rfl | (simp; done) | (simp [*]; done), by repeat (first | exact Drawn0.refl _ | apply Drawn0.step)⟩
  · rw [if_neg c3] at H
    have c3b0 : ((l0.length : Int) == (l1.length : Int)) = false := beq_eq_false_iff_ne.mpr c3
    have c3b1 : ((l0.length : Int) != (l1.length : Int)) = true := bne_iff_ne.mpr c3
    have c3b2 : (l0.length == l1.length) = false := by first | simpa using c3 | (simp at c3 ⊢; omega)
    obtain rfl := Option.some.inj H
    go_enter Try.func44, Try.ntmps44
    go_wp2
    repeat (go_quiet (fail); try go_wp2)
    go_ret
    exact ⟨by first | rfl | (simp; done) | (simp [*]; done), by repeat (first | exact Drawn0.refl _ | apply Drawn0.step)⟩

end Go.Proofs.Ytibkpacjijbblaa.QBox
