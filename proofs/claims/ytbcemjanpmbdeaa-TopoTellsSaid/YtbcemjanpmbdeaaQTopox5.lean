/- Printed by a program of this session (over the kit's print): functions in plain form, and what their calls come to. -/
import Derived.Test.YtbcemjanpmbdeaaQTopox0
import Derived.Test.YtbcemjanpmbdeaaQTopox4
namespace Go.Proofs.Ytbcemjanpmbdeaa.QTopo
open Go.RowKit Go.Proofs.YtbcemjanpmbdeaaW.PrintWords Go.Proofs.YtbcemjanpmbdeaaW.PrintLast Go.Proofs.YtbcemjanpmbdeaaW.PrintMore
attribute [local go_sem] max2_int min2_int max_two min_two max_three min_three max_four min_four   -- for this text's walks alone
set_option linter.unusedVariables false
set_option linter.unusedSimpArgs false

/-! ### catafalqueref01_Check: function 19 -/
mutual
def catafalqueref01_Check.j0 : Nat → List (S29) → Bool → Option (Int)
  | 0, _, _ => none
  | k + 1, x0, x34 => if x34 = true then (some 2) else (catafalqueref01_Check.l0 k x0 1)
def catafalqueref01_Check.l0 : Nat → List (S29) → Int → Option (Int)
  | 0, _, _ => none
  | k + 1, x0, x3 => if x3 < (x0.length : Int) then (if 0 ≤ x3 then (if ((rd_T29 x0 x3).f0) < 0 then (some 2) else (if ((rd_T29 x0 x3).f0) ≥ x3 then (some 2) else (if 0 ≤ ((rd_T29 x0 x3).f0) then (if ((rd_T29 x0 x3).f0) < (x0.length : Int) then (if ((rd_T29 x0 x3).f1) = (wrap64 (((rd_T29 x0 ((rd_T29 x0 x3).f0)).f1) + 1)) then (if ((rd_T29 x0 x3).f1) > 3 then (some 2) else (catafalqueref01_Check.l0 k x0 (wrap64 (x3 + 1)))) else (some 2)) else (none)) else (none)))) else (none)) else (catafalqueref01_Check.l1 k x0 0)
def catafalqueref01_Check.l1 : Nat → List (S29) → Int → Option (Int)
  | 0, _, _ => none
  | k + 1, x0, x5 => if x5 < (x0.length : Int) then ((catafalqueref01_Kids.f k x0 x5).bind fun t219 => (if 0 ≤ x5 then (if ((rd_T29 x0 x5).f1) < 3 then (if (t219.length : Int) < 1 then (some 2) else (if (t219.length : Int) > 8 then (some 2) else (catafalqueref01_Check.l1 k x0 (wrap64 (x5 + 1))))) else (catafalqueref01_Check.l1 k x0 (wrap64 (x5 + 1)))) else (none))) else (some 0)
end
def catafalqueref01_Check.f (k : Nat) (l0 : List (S29)) : Option (Int) := if (l0.length : Int) = 0 then (catafalqueref01_Check.j0 k l0 true) else (if (l0.length : Int) > 64 then (catafalqueref01_Check.j0 k l0 true) else ((catafalqueref01_Of.f k l0 3).bind fun t210 => (if (t210.length : Int) > 32 then (catafalqueref01_Check.j0 k l0 true) else (if 0 < (l0.length : Int) then (if ((rd_T29 l0 0).f0) = (-1) then (catafalqueref01_Check.j0 k l0 (((rd_T29 l0 0).f1) != 0)) else (catafalqueref01_Check.j0 k l0 true)) else (none)))))
theorem catafalqueref01_Check.mono_l : ∀ k, (∀ y0 y1, LeO (catafalqueref01_Check.j0 k y0 y1) (catafalqueref01_Check.j0 (k + 1) y0 y1)) ∧ (∀ y0 y1, LeO (catafalqueref01_Check.l0 k y0 y1) (catafalqueref01_Check.l0 (k + 1) y0 y1)) ∧ (∀ y0 y1, LeO (catafalqueref01_Check.l1 k y0 y1) (catafalqueref01_Check.l1 (k + 1) y0 y1))
  | 0 => ⟨fun _ _ r h => by simp [catafalqueref01_Check.j0] at h, fun _ _ r h => by simp [catafalqueref01_Check.l0] at h, fun _ _ r h => by simp [catafalqueref01_Check.l1] at h⟩
  | k + 1 => by
    obtain ⟨ih0, ih1, ih2⟩ := catafalqueref01_Check.mono_l k
    refine ⟨?_, ?_, ?_⟩
    · intro y0 y1
      unfold catafalqueref01_Check.j0
      repeat' first
      | (with_reducible exact ih0 _ _)
      | (with_reducible exact ih1 _ _)
      | (with_reducible exact ih2 _ _)
      | (with_reducible exact catafalqueref01_Kids.mono _ _ _)
      | (with_reducible exact catafalqueref01_Of.mono _ _ _)
      | (with_reducible exact LeO.refl _)
      | (with_reducible exact LeO.none _)
      | (with_reducible refine LeO.ite ?_ ?_)
      | (with_reducible refine LeO.bind ?_ (fun _ => ?_))
      | exact ih0 _ _
      | exact ih1 _ _
      | exact ih2 _ _
      | exact catafalqueref01_Kids.mono _ _ _
      | exact catafalqueref01_Of.mono _ _ _
      | exact LeO.none _
      | refine LeO.ite ?_ ?_
      | refine LeO.bind ?_ (fun _ => ?_)
    · intro y0 y1
      unfold catafalqueref01_Check.l0
      repeat' first
      | (with_reducible exact ih0 _ _)
      | (with_reducible exact ih1 _ _)
      | (with_reducible exact ih2 _ _)
      | (with_reducible exact catafalqueref01_Kids.mono _ _ _)
      | (with_reducible exact catafalqueref01_Of.mono _ _ _)
      | (with_reducible exact LeO.refl _)
      | (with_reducible exact LeO.none _)
      | (with_reducible refine LeO.ite ?_ ?_)
      | (with_reducible refine LeO.bind ?_ (fun _ => ?_))
      | exact ih0 _ _
      | exact ih1 _ _
      | exact ih2 _ _
      | exact catafalqueref01_Kids.mono _ _ _
      | exact catafalqueref01_Of.mono _ _ _
      | exact LeO.none _
      | refine LeO.ite ?_ ?_
      | refine LeO.bind ?_ (fun _ => ?_)
    · intro y0 y1
      unfold catafalqueref01_Check.l1
      repeat' first
      | (with_reducible exact ih0 _ _)
      | (with_reducible exact ih1 _ _)
      | (with_reducible exact ih2 _ _)
      | (with_reducible exact catafalqueref01_Kids.mono _ _ _)
      | (with_reducible exact catafalqueref01_Of.mono _ _ _)
      | (with_reducible exact LeO.refl _)
      | (with_reducible exact LeO.none _)
      | (with_reducible refine LeO.ite ?_ ?_)
      | (with_reducible refine LeO.bind ?_ (fun _ => ?_))
      | exact ih0 _ _
      | exact ih1 _ _
      | exact ih2 _ _
      | exact catafalqueref01_Kids.mono _ _ _
      | exact catafalqueref01_Of.mono _ _ _
      | exact LeO.none _
      | refine LeO.ite ?_ ?_
      | refine LeO.bind ?_ (fun _ => ?_)
theorem catafalqueref01_Check.mono : ∀ a0 k, LeO (catafalqueref01_Check.f k a0) (catafalqueref01_Check.f (k + 1) a0) := by
  intro a0 k
  obtain ⟨ih0, ih1, ih2⟩ := catafalqueref01_Check.mono_l k
  unfold catafalqueref01_Check.f
  repeat' first
      | (with_reducible exact ih0 _ _)
      | (with_reducible exact ih1 _ _)
      | (with_reducible exact ih2 _ _)
      | (with_reducible exact catafalqueref01_Kids.mono _ _ _)
      | (with_reducible exact catafalqueref01_Of.mono _ _ _)
      | (with_reducible exact LeO.refl _)
      | (with_reducible exact LeO.none _)
      | (with_reducible refine LeO.ite ?_ ?_)
      | (with_reducible refine LeO.bind ?_ (fun _ => ?_))
      | exact ih0 _ _
      | exact ih1 _ _
      | exact ih2 _ _
      | exact catafalqueref01_Kids.mono _ _ _
      | exact catafalqueref01_Of.mono _ _ _
      | exact LeO.none _
      | refine LeO.ite ?_ ?_
      | refine LeO.bind ?_ (fun _ => ?_)
set_option maxHeartbeats 8000000 in
set_option maxRecDepth 100000 in
theorem catafalqueref01_Check.calls (k : Nat) (A0 : Option Addr) (c0 : Nat) (l0 : List (S29)) (r : Int) (w : World) (hr0 : Kd.C k29 w A0 l0.length l0) (hc0 : l0.length ≤ c0) (h : catafalqueref01_Check.f k l0 = some r) :
    Calls Try.prog 19 #[.slice A0 l0.length c0] w fun e w' => e = .returned (.int .i64 r) ∧ Below w.heap.size w w' := by
  have HR0 := Aside0.mk hr0
  have HC0 := Aside0.mk hc0
  clear hr0 hc0
  have HB := Aside0.mk (Below.refl w.heap.size w)
  have H : (if (l0.length : Int) = 0 then (catafalqueref01_Check.j0 k l0 true) else (if (l0.length : Int) > 64 then (catafalqueref01_Check.j0 k l0 true) else ((catafalqueref01_Of.f k l0 3).bind fun t210 => (if (t210.length : Int) > 32 then (catafalqueref01_Check.j0 k l0 true) else (if 0 < (l0.length : Int) then (if ((rd_T29 l0 0).f0) = (-1) then (catafalqueref01_Check.j0 k l0 (((rd_T29 l0 0).f1) != 0)) else (catafalqueref01_Check.j0 k l0 true)) else (none)))))) = some r := h
  clear h
  have HC2 := Aside0.mk H
  clear H
  go_enter Try.func19, Try.ntmps19
  go_upto_region 1 with (fail)
  repeat (go_quiet (fail); go_upto_region 1 with (fail))
  go_cut [34] (fun v34 wc => ∃ (kq : Nat) (x34_1 : Bool), v34 = .bool x34_1 ∧ Aside0 (catafalqueref01_Check.j0 kq l0 x34_1 = some r) ∧ Aside0 (kq ≤ k) ∧ Aside0 (Below w.heap.size w wc))
  case first =>
    have H := HC2.out
    clear HC2
    by_cases c3 : (l0.length : Int) = 0
    · rw [if_pos c3] at H
      have c3b0 : ((l0.length : Int) == 0) = true := beq_iff_eq.mpr c3
      have c3b1 : ((l0.length : Int) != 0) = false := bne_eq_false_iff_eq.mpr c3
      clear c3
      (first | rw [c3b0] | (simp only [i64_w, i32_w]; rw [c3b0]) | skip)
      have H' := Aside0.mk H
      clear H
      go_wp2
      repeat (go_quiet (fail); try go_wp2)
      go_meet
      case rel => exact ⟨_, (true), (by first | rfl | (simp; done) | (simp [*]; done)), H', ⟨by first | omega | exact Nat.le_refl _⟩, ⟨by repeat (first | (with_reducible first | exact HB.out | apply below_alloc | apply pw_below_drewN | apply below_drew1) | exact HB.out)⟩⟩
    · rw [if_neg c3] at H
      have c3b0 : ((l0.length : Int) == 0) = false := beq_eq_false_iff_ne.mpr c3
      have c3b1 : ((l0.length : Int) != 0) = true := bne_iff_ne.mpr c3
      have c3b2 : ¬ (l0 = []) := fun h_ => c3 (by rw [h_]; rfl)
      (first | rw [c3b0] | (simp only [i64_w, i32_w]; rw [c3b0]) | skip)
      by_cases c4 : (l0.length : Int) > 64
      · rw [if_pos c4] at H
        have c4b0 : decide (64 < (l0.length : Int)) = true := decide_eq_true c4
        have c4b1 : decide (64 < l0.length) = true := decide_eq_true (by omega)
        clear c4
        have H' := Aside0.mk H
        clear H
        go_wp2
        repeat (go_quiet (fail); try go_wp2)
        go_meet
        case rel => exact ⟨_, (true), (by first | rfl | (simp; done) | (simp [*]; done)), H', ⟨by first | omega | exact Nat.le_refl _⟩, ⟨by repeat (first | (with_reducible first | exact HB.out | apply below_alloc | apply pw_below_drewN | apply below_drew1) | exact HB.out)⟩⟩
      · rw [if_neg c4] at H
        have c4b0 : decide (64 < (l0.length : Int)) = false := decide_eq_false c4
        have c4b1 : decide (64 < l0.length) = false := decide_eq_false (by omega)
        clear c4
        replace H := Option.bind_eq_some_iff.mp H
        obtain ⟨t210, A50, H⟩ := H
        replace H : (if (t210.length : Int) > 32 then (catafalqueref01_Check.j0 k l0 true) else (if 0 < (l0.length : Int) then (if ((rd_T29 l0 0).f0) = (-1) then (catafalqueref01_Check.j0 k l0 (((rd_T29 l0 0).f1) != 0)) else (catafalqueref01_Check.j0 k l0 true)) else (none))) = some r := H
        have A5 := Aside0.mk A50
        clear A50
        by_cases c6 : (t210.length : Int) > 32
        · rw [if_pos c6] at H
          have c6b0 : decide (32 < (t210.length : Int)) = true := decide_eq_true c6
          have c6b1 : decide (32 < t210.length) = true := decide_eq_true (by omega)
          clear c6
          have H' := Aside0.mk H
          clear H
          go_wp2_with (first | (go_at_call 23; (with_reducible refine (catafalqueref01_Of.calls k _ _ l0 3 t210 _ ?side1 ?side2 A5.out).mono ?_); (case side1 => repeat (first | exact (Kd.C_below HR0.out HB.out) | (with_reducible refine Kd.C_alloc ?_ _) | (with_reducible refine Kd.C_drewN ?_ _) | (with_reducible refine Kd.C_drew ?_))); (case side2 => exact HC0.out); rintro e w7 ⟨v211, rfl, ho0, hb⟩; have n0_ := Aside0.mk (Kd.R_lower ho0 (below_size (by repeat (first | (with_reducible first | exact HB.out | apply below_alloc | apply pw_below_drewN | apply below_drew1) | exact HB.out)))); have n1_ := Aside0.mk (below_step (by repeat (first | (with_reducible first | exact HB.out | apply below_alloc | apply pw_below_drewN | apply below_drew1) | exact HB.out)) hb); clear HB; have HO212 := n0_; have HB := n1_; clear n0_ n1_; (try clear hb); (try clear hb2); (try clear hk); (try clear hi); (try clear ho0); obtain ⟨Ao8, co8, eo8⟩ := Kd.R_slice HO212.out; subst eo8))
          repeat (go_quiet (first | (go_at_call 23; (with_reducible refine (catafalqueref01_Of.calls k _ _ l0 3 t210 _ ?side1 ?side2 A5.out).mono ?_); (case side1 => repeat (first | exact (Kd.C_below HR0.out HB.out) | (with_reducible refine Kd.C_alloc ?_ _) | (with_reducible refine Kd.C_drewN ?_ _) | (with_reducible refine Kd.C_drew ?_))); (case side2 => exact HC0.out); rintro e w7 ⟨v211, rfl, ho0, hb⟩; have n0_ := Aside0.mk (Kd.R_lower ho0 (below_size (by repeat (first | (with_reducible first | exact HB.out | apply below_alloc | apply pw_below_drewN | apply below_drew1) | exact HB.out)))); have n1_ := Aside0.mk (below_step (by repeat (first | (with_reducible first | exact HB.out | apply below_alloc | apply pw_below_drewN | apply below_drew1) | exact HB.out)) hb); clear HB; have HO212 := n0_; have HB := n1_; clear n0_ n1_; (try clear hb); (try clear hb2); (try clear hk); (try clear hi); (try clear ho0); obtain ⟨Ao8, co8, eo8⟩ := Kd.R_slice HO212.out; subst eo8)); try go_wp2_with (first | (go_at_call 23; (with_reducible refine (catafalqueref01_Of.calls k _ _ l0 3 t210 _ ?side1 ?side2 A5.out).mono ?_); (case side1 => repeat (first | exact (Kd.C_below HR0.out HB.out) | (with_reducible refine Kd.C_alloc ?_ _) | (with_reducible refine Kd.C_drewN ?_ _) | (with_reducible refine Kd.C_drew ?_))); (case side2 => exact HC0.out); rintro e w7 ⟨v211, rfl, ho0, hb⟩; have n0_ := Aside0.mk (Kd.R_lower ho0 (below_size (by repeat (first | (with_reducible first | exact HB.out | apply below_alloc | apply pw_below_drewN | apply below_drew1) | exact HB.out)))); have n1_ := Aside0.mk (below_step (by repeat (first | (with_reducible first | exact HB.out | apply below_alloc | apply pw_below_drewN | apply below_drew1) | exact HB.out)) hb); clear HB; have HO212 := n0_; have HB := n1_; clear n0_ n1_; (try clear hb); (try clear hb2); (try clear hk); (try clear hi); (try clear ho0); obtain ⟨Ao8, co8, eo8⟩ := Kd.R_slice HO212.out; subst eo8)))
          go_meet
          case rel => exact ⟨_, (true), (by first | rfl | (simp; done) | (simp [*]; done)), H', ⟨by first | omega | exact Nat.le_refl _⟩, ⟨by repeat (first | (with_reducible first | exact HB.out | apply below_alloc | apply pw_below_drewN | apply below_drew1) | exact HB.out)⟩⟩
        · rw [if_neg c6] at H
          have c6b0 : decide (32 < (t210.length : Int)) = false := decide_eq_false c6
          have c6b1 : decide (32 < t210.length) = false := decide_eq_false (by omega)
          clear c6
          by_cases c9 : 0 < (l0.length : Int)
          · rw [if_pos c9] at H
            have c9b0 : decide (0 < (l0.length : Int)) = true := decide_eq_true c9
            have c9b1 : decide (0 < l0.length) = true := decide_eq_true (by omega)
            clear c9
            by_cases c10 : ((rd_T29 l0 0).f0) = (-1)
            · rw [if_pos c10] at H
              have c10b0 : (((rd_T29 l0 0).f0) == (-1)) = true := beq_iff_eq.mpr c10
              have c10b1 : (((rd_T29 l0 0).f0) != (-1)) = false := bne_eq_false_iff_eq.mpr c10
              clear c10
              have H' := Aside0.mk H
              clear H
              go_wp2_with (first | (go_at_call 23; (with_reducible refine (catafalqueref01_Of.calls k _ _ l0 3 t210 _ ?side1 ?side2 A5.out).mono ?_); (case side1 => repeat (first | exact (Kd.C_below HR0.out HB.out) | (with_reducible refine Kd.C_alloc ?_ _) | (with_reducible refine Kd.C_drewN ?_ _) | (with_reducible refine Kd.C_drew ?_))); (case side2 => exact HC0.out); rintro e w11 ⟨v211, rfl, ho0, hb⟩; have n0_ := Aside0.mk (Kd.R_lower ho0 (below_size (by repeat (first | (with_reducible first | exact HB.out | apply below_alloc | apply pw_below_drewN | apply below_drew1) | exact HB.out)))); have n1_ := Aside0.mk (below_step (by repeat (first | (with_reducible first | exact HB.out | apply below_alloc | apply pw_below_drewN | apply below_drew1) | exact HB.out)) hb); clear HB; have HO212 := n0_; have HB := n1_; clear n0_ n1_; (try clear hb); (try clear hb2); (try clear hk); (try clear hi); (try clear ho0); obtain ⟨Ao12, co12, eo12⟩ := Kd.R_slice HO212.out; subst eo12; have p213 : 0 ≤ (0 : Int) := (by omega); have q213 : 0 < (l0.length : Int) := of_decide_eq_true (by first | (with_reducible assumption) | assumption); obtain ⟨ad213, e213, hx213_0, hx213_1⟩ := at_T29 HR0.out 0 p213 q213; cases e213; have qi213 : (0 < l0.length) = True := eq_true (by omega); (try rw [show ((0 : Int)).toNat = 0 from rfl] at hx213_0); (try rw [show 0 * 2 = 0 from rfl] at hx213_0); (try rw [Addr.add_zero'] at hx213_0); (try rw [show ((0 : Int)).toNat = 0 from rfl] at hx213_1); (try rw [show 0 * 2 = 0 from rfl] at hx213_1); (try rw [Addr.add_zero'] at hx213_1); replace hx213_0 := (HB.out.cell (World.block_lt_of_cell? w _ hx213_0)).trans hx213_0; replace hx213_1 := (HB.out.cell (World.block_lt_of_cell? w _ hx213_1)).trans hx213_1; replace p213 := eq_true p213; replace q213 := eq_true q213; have p214 : 0 ≤ (0 : Int) := (by omega); have q214 : 0 < (l0.length : Int) := of_decide_eq_true (by first | (with_reducible assumption) | assumption); obtain ⟨ad214, e214, hx214_0, hx214_1⟩ := at_T29 HR0.out 0 p214 q214; obtain rfl : ad213 = ad214 := (by injection e214); have qi214 : (0 < l0.length) = True := eq_true (by omega); (try rw [show ((0 : Int)).toNat = 0 from rfl] at hx214_0); (try rw [show 0 * 2 = 0 from rfl] at hx214_0); (try rw [Addr.add_zero'] at hx214_0); (try rw [show ((0 : Int)).toNat = 0 from rfl] at hx214_1); (try rw [show 0 * 2 = 0 from rfl] at hx214_1); (try rw [Addr.add_zero'] at hx214_1); replace hx214_0 := (HB.out.cell (World.block_lt_of_cell? w _ hx214_0)).trans hx214_0; replace hx214_1 := (HB.out.cell (World.block_lt_of_cell? w _ hx214_1)).trans hx214_1; replace p214 := eq_true p214; replace q214 := eq_true q214))
              repeat (go_quiet (first | (go_at_call 23; (with_reducible refine (catafalqueref01_Of.calls k _ _ l0 3 t210 _ ?side1 ?side2 A5.out).mono ?_); (case side1 => repeat (first | exact (Kd.C_below HR0.out HB.out) | (with_reducible refine Kd.C_alloc ?_ _) | (with_reducible refine Kd.C_drewN ?_ _) | (with_reducible refine Kd.C_drew ?_))); (case side2 => exact HC0.out); rintro e w11 ⟨v211, rfl, ho0, hb⟩; have n0_ := Aside0.mk (Kd.R_lower ho0 (below_size (by repeat (first | (with_reducible first | exact HB.out | apply below_alloc | apply pw_below_drewN | apply below_drew1) | exact HB.out)))); have n1_ := Aside0.mk (below_step (by repeat (first | (with_reducible first | exact HB.out | apply below_alloc | apply pw_below_drewN | apply below_drew1) | exact HB.out)) hb); clear HB; have HO212 := n0_; have HB := n1_; clear n0_ n1_; (try clear hb); (try clear hb2); (try clear hk); (try clear hi); (try clear ho0); obtain ⟨Ao12, co12, eo12⟩ := Kd.R_slice HO212.out; subst eo12; have p213 : 0 ≤ (0 : Int) := (by omega); have q213 : 0 < (l0.length : Int) := of_decide_eq_true (by first | (with_reducible assumption) | assumption); obtain ⟨ad213, e213, hx213_0, hx213_1⟩ := at_T29 HR0.out 0 p213 q213; cases e213; have qi213 : (0 < l0.length) = True := eq_true (by omega); (try rw [show ((0 : Int)).toNat = 0 from rfl] at hx213_0); (try rw [show 0 * 2 = 0 from rfl] at hx213_0); (try rw [Addr.add_zero'] at hx213_0); (try rw [show ((0 : Int)).toNat = 0 from rfl] at hx213_1); (try rw [show 0 * 2 = 0 from rfl] at hx213_1); (try rw [Addr.add_zero'] at hx213_1); replace hx213_0 := (HB.out.cell (World.block_lt_of_cell? w _ hx213_0)).trans hx213_0; replace hx213_1 := (HB.out.cell (World.block_lt_of_cell? w _ hx213_1)).trans hx213_1; replace p213 := eq_true p213; replace q213 := eq_true q213; have p214 : 0 ≤ (0 : Int) := (by omega); have q214 : 0 < (l0.length : Int) := of_decide_eq_true (by first | (with_reducible assumption) | assumption); obtain ⟨ad214, e214, hx214_0, hx214_1⟩ := at_T29 HR0.out 0 p214 q214; obtain rfl : ad213 = ad214 := (by injection e214); have qi214 : (0 < l0.length) = True := eq_true (by omega); (try rw [show ((0 : Int)).toNat = 0 from rfl] at hx214_0); (try rw [show 0 * 2 = 0 from rfl] at hx214_0); (try rw [Addr.add_zero'] at hx214_0); (try rw [show ((0 : Int)).toNat = 0 from rfl] at hx214_1); (try rw [show 0 * 2 = 0 from rfl] at hx214_1); (try rw [Addr.add_zero'] at hx214_1); replace hx214_0 := (HB.out.cell (World.block_lt_of_cell? w _ hx214_0)).trans hx214_0; replace hx214_1 := (HB.out.cell (World.block_lt_of_cell? w _ hx214_1)).trans hx214_1; replace p214 := eq_true p214; replace q214 := eq_true q214)); try go_wp2_with (first | (go_at_call 23; (with_reducible refine (catafalqueref01_Of.calls k _ _ l0 3 t210 _ ?side1 ?side2 A5.out).mono ?_); (case side1 => repeat (first | exact (Kd.C_below HR0.out HB.out) | (with_reducible refine Kd.C_alloc ?_ _) | (with_reducible refine Kd.C_drewN ?_ _) | (with_reducible refine Kd.C_drew ?_))); (case side2 => exact HC0.out); rintro e w11 ⟨v211, rfl, ho0, hb⟩; have n0_ := Aside0.mk (Kd.R_lower ho0 (below_size (by repeat (first | (with_reducible first | exact HB.out | apply below_alloc | apply pw_below_drewN | apply below_drew1) | exact HB.out)))); have n1_ := Aside0.mk (below_step (by repeat (first | (with_reducible first | exact HB.out | apply below_alloc | apply pw_below_drewN | apply below_drew1) | exact HB.out)) hb); clear HB; have HO212 := n0_; have HB := n1_; clear n0_ n1_; (try clear hb); (try clear hb2); (try clear hk); (try clear hi); (try clear ho0); obtain ⟨Ao12, co12, eo12⟩ := Kd.R_slice HO212.out; subst eo12; have p213 : 0 ≤ (0 : Int) := (by omega); have q213 : 0 < (l0.length : Int) := of_decide_eq_true (by first | (with_reducible assumption) | assumption); obtain ⟨ad213, e213, hx213_0, hx213_1⟩ := at_T29 HR0.out 0 p213 q213; cases e213; have qi213 : (0 < l0.length) = True := eq_true (by omega); (try rw [show ((0 : Int)).toNat = 0 from rfl] at hx213_0); (try rw [show 0 * 2 = 0 from rfl] at hx213_0); (try rw [Addr.add_zero'] at hx213_0); (try rw [show ((0 : Int)).toNat = 0 from rfl] at hx213_1); (try rw [show 0 * 2 = 0 from rfl] at hx213_1); (try rw [Addr.add_zero'] at hx213_1); replace hx213_0 := (HB.out.cell (World.block_lt_of_cell? w _ hx213_0)).trans hx213_0; replace hx213_1 := (HB.out.cell (World.block_lt_of_cell? w _ hx213_1)).trans hx213_1; replace p213 := eq_true p213; replace q213 := eq_true q213; have p214 : 0 ≤ (0 : Int) := (by omega); have q214 : 0 < (l0.length : Int) := of_decide_eq_true (by first | (with_reducible assumption) | assumption); obtain ⟨ad214, e214, hx214_0, hx214_1⟩ := at_T29 HR0.out 0 p214 q214; obtain rfl : ad213 = ad214 := (by injection e214); have qi214 : (0 < l0.length) = True := eq_true (by omega); (try rw [show ((0 : Int)).toNat = 0 from rfl] at hx214_0); (try rw [show 0 * 2 = 0 from rfl] at hx214_0); (try rw [Addr.add_zero'] at hx214_0); (try rw [show ((0 : Int)).toNat = 0 from rfl] at hx214_1); (try rw [show 0 * 2 = 0 from rfl] at hx214_1); (try rw [Addr.add_zero'] at hx214_1); replace hx214_0 := (HB.out.cell (World.block_lt_of_cell? w _ hx214_0)).trans hx214_0; replace hx214_1 := (HB.out.cell (World.block_lt_of_cell? w _ hx214_1)).trans hx214_1; replace p214 := eq_true p214; replace q214 := eq_true q214)))
              go_meet
              case rel => exact ⟨_, ((((rd_T29 l0 0).f1) != 0)), (by first | rfl | (simp; done) | (simp [*]; done)), H', ⟨by first | omega | exact Nat.le_refl _⟩, ⟨by repeat (first | (with_reducible first | exact HB.out | apply below_alloc | apply pw_below_drewN | apply below_drew1) | exact HB.out)⟩⟩
            · rw [if_neg c10] at H
              have c10b0 : (((rd_T29 l0 0).f0) == (-1)) = false := beq_eq_false_iff_ne.mpr c10
              have c10b1 : (((rd_T29 l0 0).f0) != (-1)) = true := bne_iff_ne.mpr c10
              have H' := Aside0.mk H
              clear H
              go_wp2_with (first | (go_at_call 23; (with_reducible refine (catafalqueref01_Of.calls k _ _ l0 3 t210 _ ?side1 ?side2 A5.out).mono ?_); (case side1 => repeat (first | exact (Kd.C_below HR0.out HB.out) | (with_reducible refine Kd.C_alloc ?_ _) | (with_reducible refine Kd.C_drewN ?_ _) | (with_reducible refine Kd.C_drew ?_))); (case side2 => exact HC0.out); rintro e w13 ⟨v211, rfl, ho0, hb⟩; have n0_ := Aside0.mk (Kd.R_lower ho0 (below_size (by repeat (first | (with_reducible first | exact HB.out | apply below_alloc | apply pw_below_drewN | apply below_drew1) | exact HB.out)))); have n1_ := Aside0.mk (below_step (by repeat (first | (with_reducible first | exact HB.out | apply below_alloc | apply pw_below_drewN | apply below_drew1) | exact HB.out)) hb); clear HB; have HO212 := n0_; have HB := n1_; clear n0_ n1_; (try clear hb); (try clear hb2); (try clear hk); (try clear hi); (try clear ho0); obtain ⟨Ao14, co14, eo14⟩ := Kd.R_slice HO212.out; subst eo14; have p213 : 0 ≤ (0 : Int) := (by omega); have q213 : 0 < (l0.length : Int) := of_decide_eq_true (by first | (with_reducible assumption) | assumption); obtain ⟨ad213, e213, hx213_0, hx213_1⟩ := at_T29 HR0.out 0 p213 q213; cases e213; have qi213 : (0 < l0.length) = True := eq_true (by omega); (try rw [show ((0 : Int)).toNat = 0 from rfl] at hx213_0); (try rw [show 0 * 2 = 0 from rfl] at hx213_0); (try rw [Addr.add_zero'] at hx213_0); (try rw [show ((0 : Int)).toNat = 0 from rfl] at hx213_1); (try rw [show 0 * 2 = 0 from rfl] at hx213_1); (try rw [Addr.add_zero'] at hx213_1); replace hx213_0 := (HB.out.cell (World.block_lt_of_cell? w _ hx213_0)).trans hx213_0; replace hx213_1 := (HB.out.cell (World.block_lt_of_cell? w _ hx213_1)).trans hx213_1; replace p213 := eq_true p213; replace q213 := eq_true q213))
              repeat (go_quiet (first | (go_at_call 23; (with_reducible refine (catafalqueref01_Of.calls k _ _ l0 3 t210 _ ?side1 ?side2 A5.out).mono ?_); (case side1 => repeat (first | exact (Kd.C_below HR0.out HB.out) | (with_reducible refine Kd.C_alloc ?_ _) | (with_reducible refine Kd.C_drewN ?_ _) | (with_reducible refine Kd.C_drew ?_))); (case side2 => exact HC0.out); rintro e w13 ⟨v211, rfl, ho0, hb⟩; have n0_ := Aside0.mk (Kd.R_lower ho0 (below_size (by repeat (first | (with_reducible first | exact HB.out | apply below_alloc | apply pw_below_drewN | apply below_drew1) | exact HB.out)))); have n1_ := Aside0.mk (below_step (by repeat (first | (with_reducible first | exact HB.out | apply below_alloc | apply pw_below_drewN | apply below_drew1) | exact HB.out)) hb); clear HB; have HO212 := n0_; have HB := n1_; clear n0_ n1_; (try clear hb); (try clear hb2); (try clear hk); (try clear hi); (try clear ho0); obtain ⟨Ao14, co14, eo14⟩ := Kd.R_slice HO212.out; subst eo14; have p213 : 0 ≤ (0 : Int) := (by omega); have q213 : 0 < (l0.length : Int) := of_decide_eq_true (by first | (with_reducible assumption) | assumption); obtain ⟨ad213, e213, hx213_0, hx213_1⟩ := at_T29 HR0.out 0 p213 q213; cases e213; have qi213 : (0 < l0.length) = True := eq_true (by omega); (try rw [show ((0 : Int)).toNat = 0 from rfl] at hx213_0); (try rw [show 0 * 2 = 0 from rfl] at hx213_0); (try rw [Addr.add_zero'] at hx213_0); (try rw [show ((0 : Int)).toNat = 0 from rfl] at hx213_1); (try rw [show 0 * 2 = 0 from rfl] at hx213_1); (try rw [Addr.add_zero'] at hx213_1); replace hx213_0 := (HB.out.cell (World.block_lt_of_cell? w _ hx213_0)).trans hx213_0; replace hx213_1 := (HB.out.cell (World.block_lt_of_cell? w _ hx213_1)).trans hx213_1; replace p213 := eq_true p213; replace q213 := eq_true q213)); try go_wp2_with (first | (go_at_call 23; (with_reducible refine (catafalqueref01_Of.calls k _ _ l0 3 t210 _ ?side1 ?side2 A5.out).mono ?_); (case side1 => repeat (first | exact (Kd.C_below HR0.out HB.out) | (with_reducible refine Kd.C_alloc ?_ _) | (with_reducible refine Kd.C_drewN ?_ _) | (with_reducible refine Kd.C_drew ?_))); (case side2 => exact HC0.out); rintro e w13 ⟨v211, rfl, ho0, hb⟩; have n0_ := Aside0.mk (Kd.R_lower ho0 (below_size (by repeat (first | (with_reducible first | exact HB.out | apply below_alloc | apply pw_below_drewN | apply below_drew1) | exact HB.out)))); have n1_ := Aside0.mk (below_step (by repeat (first | (with_reducible first | exact HB.out | apply below_alloc | apply pw_below_drewN | apply below_drew1) | exact HB.out)) hb); clear HB; have HO212 := n0_; have HB := n1_; clear n0_ n1_; (try clear hb); (try clear hb2); (try clear hk); (try clear hi); (try clear ho0); obtain ⟨Ao14, co14, eo14⟩ := Kd.R_slice HO212.out; subst eo14; have p213 : 0 ≤ (0 : Int) := (by omega); have q213 : 0 < (l0.length : Int) := of_decide_eq_true (by first | (with_reducible assumption) | assumption); obtain ⟨ad213, e213, hx213_0, hx213_1⟩ := at_T29 HR0.out 0 p213 q213; cases e213; have qi213 : (0 < l0.length) = True := eq_true (by omega); (try rw [show ((0 : Int)).toNat = 0 from rfl] at hx213_0); (try rw [show 0 * 2 = 0 from rfl] at hx213_0); (try rw [Addr.add_zero'] at hx213_0); (try rw [show ((0 : Int)).toNat = 0 from rfl] at hx213_1); (try rw [show 0 * 2 = 0 from rfl] at hx213_1); (try rw [Addr.add_zero'] at hx213_1); replace hx213_0 := (HB.out.cell (World.block_lt_of_cell? w _ hx213_0)).trans hx213_0; replace hx213_1 := (HB.out.cell (World.block_lt_of_cell? w _ hx213_1)).trans hx213_1; replace p213 := eq_true p213; replace q213 := eq_true q213)))
              go_meet
              case rel => exact ⟨_, (true), (by first | rfl | (simp; done) | (simp [*]; done)), H', ⟨by first | omega | exact Nat.le_refl _⟩, ⟨by repeat (first | (with_reducible first | exact HB.out | apply below_alloc | apply pw_below_drewN | apply below_drew1) | exact HB.out)⟩⟩
          · rw [if_neg c9] at H
            exact absurd H (by simp)
  case rest =>
    clear HC2
    try clear c1
    try clear p2
    try clear q2
    try clear hx2
    try clear qi2
    try clear c3
    try clear c3b0
    try clear c3b1
    try clear c3b2
    try clear c4
    try clear c4b0
    try clear c4b1
    try clear c6
    try clear c6b0
    try clear c6b1
    try clear c9
    try clear c9b0
    try clear c9b1
    try clear c10
    try clear c10b0
    try clear c10b1
    try clear hx213_0
    try clear hx213_1
    try clear hx214_0
    try clear hx214_1
    try clear p213
    try clear p214
    try clear q213
    try clear q214
    obtain ⟨kq, x34_1, rfl, HA, HJ1, HB⟩ := hcut
    cases kq with
    | zero => exact absurd HA.out (by simp [catafalqueref01_Check.j0])
    | succ kj1 =>
      have H := HA.out
      clear HA
      simp only [catafalqueref01_Check.j0] at H
      by_cases c15 : x34_1 = true
      · subst c15
        have H1 : (some 2) = some r := by rw [if_pos rfl] at H; exact H
        clear H
        have H := H1
        clear H1
        obtain rfl := Option.some.inj H
        go_wp2
        repeat (go_quiet (fail); try go_wp2)
        go_ret
        exact ⟨by first | rfl | (simp [errW_none, errW_some] <;> rfl) | (simp [*, errW_none, errW_some] <;> rfl), by repeat (first | (with_reducible first | exact HB.out | apply below_alloc | apply pw_below_drewN | apply below_drew1) | exact HB.out)⟩
      · replace c15 := Bool.eq_false_iff.mpr c15
        subst c15
        have H1 : (catafalqueref01_Check.l0 kj1 l0 1) = some r := by rw [if_neg (show ¬ (false = true) by decide)] at H; exact H
        clear H
        have H := H1
        clear H1
        have H' := Aside0.mk H
        clear H
        go_wp2
        repeat (go_quiet (fail); try go_wp2)
        go_loopg [3] kj1 (fun kq v3 w' => ∃ (x3_2 : Int), v3 = .int .i64 x3_2 ∧ Aside0 (catafalqueref01_Check.l0 kq l0 x3_2 = some r) ∧ Aside0 (kq ≤ kj1) ∧ Aside0 (Below w.heap.size w w'))
        case atStart => exact ⟨(1), (by first | rfl | (simp; done) | (simp [*]; done)), H', ⟨Nat.le_refl _⟩, ⟨by repeat (first | (with_reducible first | exact HB.out | apply below_alloc | apply pw_below_drewN | apply below_drew1) | exact HB.out)⟩⟩
        case round =>
          clear H'
          try clear c1
          try clear p2
          try clear q2
          try clear hx2
          try clear qi2
          try clear c3
          try clear c3b0
          try clear c3b1
          try clear c3b2
          try clear c4
          try clear c4b0
          try clear c4b1
          try clear c6
          try clear c6b0
          try clear c6b1
          try clear c9
          try clear c9b0
          try clear c9b1
          try clear c10
          try clear c10b0
          try clear c10b1
          try clear c15
          try clear hx213_0
          try clear hx213_1
          try clear hx214_0
          try clear hx214_1
          try clear p2
          try clear p213
          try clear p214
          try clear q2
          try clear q213
          try clear q214
          obtain ⟨x3_2, rfl, HA, HK2, HB⟩ := hrel
          cases gk with
          | zero => exact absurd HA.out (by simp [catafalqueref01_Check.l0])
          | succ k2 =>
            have H := HA.out
            clear HA
            simp only [catafalqueref01_Check.l0] at H
            by_cases c16 : x3_2 < (l0.length : Int)
            · rw [if_pos c16] at H
              have c16b0 : decide (x3_2 < (l0.length : Int)) = true := decide_eq_true c16
              clear c16
              by_cases c17 : 0 ≤ x3_2
              · rw [if_pos c17] at H
                have c17b0 : decide (0 ≤ x3_2) = true := decide_eq_true c17
                clear c17
                by_cases c18 : ((rd_T29 l0 x3_2).f0) < 0
                · rw [if_pos c18] at H
                  have c18b0 : decide (((rd_T29 l0 x3_2).f0) < 0) = true := decide_eq_true c18
                  clear c18
                  obtain rfl := Option.some.inj H
                  have p215 : 0 ≤ (x3_2 : Int) := of_decide_eq_true (by first | (with_reducible assumption) | assumption)
                  have q215 : x3_2 < (l0.length : Int) := of_decide_eq_true (by first | (with_reducible assumption) | assumption)
                  obtain ⟨ad215, e215, hx215_0, hx215_1⟩ := at_T29 HR0.out x3_2 p215 q215
                  cases e215
                  replace hx215_0 := (HB.out.cell (World.block_lt_of_cell? w _ hx215_0)).trans hx215_0
                  replace hx215_1 := (HB.out.cell (World.block_lt_of_cell? w _ hx215_1)).trans hx215_1
                  replace p215 := eq_true p215
                  replace q215 := eq_true q215
                  go_wp2
                  repeat (go_quiet (fail); try go_wp2)
                  go_ret
                  exact ⟨by first | rfl | (simp [errW_none, errW_some] <;> rfl) | (simp [*, errW_none, errW_some] <;> rfl), by repeat (first | (with_reducible first | exact HB.out | apply below_alloc | apply pw_below_drewN | apply below_drew1) | exact HB.out)⟩
                · rw [if_neg c18] at H
                  have c18b0 : decide (((rd_T29 l0 x3_2).f0) < 0) = false := decide_eq_false c18
                  clear c18
                  by_cases c19 : ((rd_T29 l0 x3_2).f0) ≥ x3_2
                  · rw [if_pos c19] at H
                    have c19b0 : decide (x3_2 ≤ ((rd_T29 l0 x3_2).f0)) = true := decide_eq_true c19
                    clear c19
                    obtain rfl := Option.some.inj H
                    have p215 : 0 ≤ (x3_2 : Int) := of_decide_eq_true (by first | (with_reducible assumption) | assumption)
                    have q215 : x3_2 < (l0.length : Int) := of_decide_eq_true (by first | (with_reducible assumption) | assumption)
                    obtain ⟨ad215, e215, hx215_0, hx215_1⟩ := at_T29 HR0.out x3_2 p215 q215
                    cases e215
                    replace hx215_0 := (HB.out.cell (World.block_lt_of_cell? w _ hx215_0)).trans hx215_0
                    replace hx215_1 := (HB.out.cell (World.block_lt_of_cell? w _ hx215_1)).trans hx215_1
                    replace p215 := eq_true p215
                    replace q215 := eq_true q215
                    go_wp2
                    repeat (go_quiet (fail); try go_wp2)
                    go_ret
                    exact ⟨by first | rfl | (simp [errW_none, errW_some] <;> rfl) | (simp [*, errW_none, errW_some] <;> rfl), by repeat (first | (with_reducible first | exact HB.out | apply below_alloc | apply pw_below_drewN | apply below_drew1) | exact HB.out)⟩
                  · rw [if_neg c19] at H
                    have c19b0 : decide (x3_2 ≤ ((rd_T29 l0 x3_2).f0)) = false := decide_eq_false c19
                    clear c19
                    by_cases c20 : 0 ≤ ((rd_T29 l0 x3_2).f0)
                    · rw [if_pos c20] at H
                      have c20b0 : decide (0 ≤ ((rd_T29 l0 x3_2).f0)) = true := decide_eq_true c20
                      clear c20
                      by_cases c21 : ((rd_T29 l0 x3_2).f0) < (l0.length : Int)
                      · rw [if_pos c21] at H
                        have c21b0 : decide (((rd_T29 l0 x3_2).f0) < (l0.length : Int)) = true := decide_eq_true c21
                        clear c21
                        by_cases c22 : ((rd_T29 l0 x3_2).f1) = (wrap64 (((rd_T29 l0 ((rd_T29 l0 x3_2).f0)).f1) + 1))
                        · rw [if_pos c22] at H
                          have c22b0 : (((rd_T29 l0 x3_2).f1) == (wrap64 (((rd_T29 l0 ((rd_T29 l0 x3_2).f0)).f1) + 1))) = true := beq_iff_eq.mpr c22
                          have c22b1 : (((rd_T29 l0 x3_2).f1) != (wrap64 (((rd_T29 l0 ((rd_T29 l0 x3_2).f0)).f1) + 1))) = false := bne_eq_false_iff_eq.mpr c22
                          clear c22
                          by_cases c23 : ((rd_T29 l0 x3_2).f1) > 3
                          · rw [if_pos c23] at H
                            have c23b0 : decide (3 < ((rd_T29 l0 x3_2).f1)) = true := decide_eq_true c23
                            clear c23
                            obtain rfl := Option.some.inj H
                            have p215 : 0 ≤ (x3_2 : Int) := of_decide_eq_true (by first | (with_reducible assumption) | assumption)
                            have q215 : x3_2 < (l0.length : Int) := of_decide_eq_true (by first | (with_reducible assumption) | assumption)
                            obtain ⟨ad215, e215, hx215_0, hx215_1⟩ := at_T29 HR0.out x3_2 p215 q215
                            cases e215
                            replace hx215_0 := (HB.out.cell (World.block_lt_of_cell? w _ hx215_0)).trans hx215_0
                            replace hx215_1 := (HB.out.cell (World.block_lt_of_cell? w _ hx215_1)).trans hx215_1
                            replace p215 := eq_true p215
                            replace q215 := eq_true q215
                            have p216 : 0 ≤ (x3_2 : Int) := of_decide_eq_true (by first | (with_reducible assumption) | assumption)
                            have q216 : x3_2 < (l0.length : Int) := of_decide_eq_true (by first | (with_reducible assumption) | assumption)
                            obtain ⟨ad216, e216, hx216_0, hx216_1⟩ := at_T29 HR0.out x3_2 p216 q216
                            obtain rfl : ad215 = ad216 := (by injection e216)
                            replace hx216_0 := (HB.out.cell (World.block_lt_of_cell? w _ hx216_0)).trans hx216_0
                            replace hx216_1 := (HB.out.cell (World.block_lt_of_cell? w _ hx216_1)).trans hx216_1
                            replace p216 := eq_true p216
                            replace q216 := eq_true q216
                            have p217 : 0 ≤ (((rd_T29 l0 x3_2).f0) : Int) := of_decide_eq_true (by first | (with_reducible assumption) | assumption)
                            have q217 : ((rd_T29 l0 x3_2).f0) < (l0.length : Int) := of_decide_eq_true (by first | (with_reducible assumption) | assumption)
                            obtain ⟨ad217, e217, hx217_0, hx217_1⟩ := at_T29 HR0.out ((rd_T29 l0 x3_2).f0) p217 q217
                            obtain rfl : ad215 = ad217 := (by injection e217)
                            replace hx217_0 := (HB.out.cell (World.block_lt_of_cell? w _ hx217_0)).trans hx217_0
                            replace hx217_1 := (HB.out.cell (World.block_lt_of_cell? w _ hx217_1)).trans hx217_1
                            replace p217 := eq_true p217
                            replace q217 := eq_true q217
                            have p218 : 0 ≤ (x3_2 : Int) := of_decide_eq_true (by first | (with_reducible assumption) | assumption)
                            have q218 : x3_2 < (l0.length : Int) := of_decide_eq_true (by first | (with_reducible assumption) | assumption)
                            obtain ⟨ad218, e218, hx218_0, hx218_1⟩ := at_T29 HR0.out x3_2 p218 q218
                            obtain rfl : ad215 = ad218 := (by injection e218)
                            replace hx218_0 := (HB.out.cell (World.block_lt_of_cell? w _ hx218_0)).trans hx218_0
                            replace hx218_1 := (HB.out.cell (World.block_lt_of_cell? w _ hx218_1)).trans hx218_1
                            replace p218 := eq_true p218
                            replace q218 := eq_true q218
                            go_wp2
                            repeat (go_quiet (fail); try go_wp2)
                            go_ret
                            exact ⟨by first | rfl | (simp [errW_none, errW_some] <;> rfl) | (simp [*, errW_none, errW_some] <;> rfl), by repeat (first | (with_reducible first | exact HB.out | apply below_alloc | apply pw_below_drewN | apply below_drew1) | exact HB.out)⟩
                          · rw [if_neg c23] at H
                            have c23b0 : decide (3 < ((rd_T29 l0 x3_2).f1)) = false := decide_eq_false c23
                            clear c23
                            have H' := Aside0.mk H
                            clear H
                            have p215 : 0 ≤ (x3_2 : Int) := of_decide_eq_true (by first | (with_reducible assumption) | assumption)
                            have q215 : x3_2 < (l0.length : Int) := of_decide_eq_true (by first | (with_reducible assumption) | assumption)
                            obtain ⟨ad215, e215, hx215_0, hx215_1⟩ := at_T29 HR0.out x3_2 p215 q215
                            cases e215
                            replace hx215_0 := (HB.out.cell (World.block_lt_of_cell? w _ hx215_0)).trans hx215_0
                            replace hx215_1 := (HB.out.cell (World.block_lt_of_cell? w _ hx215_1)).trans hx215_1
                            replace p215 := eq_true p215
                            replace q215 := eq_true q215
                            have p216 : 0 ≤ (x3_2 : Int) := of_decide_eq_true (by first | (with_reducible assumption) | assumption)
                            have q216 : x3_2 < (l0.length : Int) := of_decide_eq_true (by first | (with_reducible assumption) | assumption)
                            obtain ⟨ad216, e216, hx216_0, hx216_1⟩ := at_T29 HR0.out x3_2 p216 q216
                            obtain rfl : ad215 = ad216 := (by injection e216)
                            replace hx216_0 := (HB.out.cell (World.block_lt_of_cell? w _ hx216_0)).trans hx216_0
                            replace hx216_1 := (HB.out.cell (World.block_lt_of_cell? w _ hx216_1)).trans hx216_1
                            replace p216 := eq_true p216
                            replace q216 := eq_true q216
                            have p217 : 0 ≤ (((rd_T29 l0 x3_2).f0) : Int) := of_decide_eq_true (by first | (with_reducible assumption) | assumption)
                            have q217 : ((rd_T29 l0 x3_2).f0) < (l0.length : Int) := of_decide_eq_true (by first | (with_reducible assumption) | assumption)
                            obtain ⟨ad217, e217, hx217_0, hx217_1⟩ := at_T29 HR0.out ((rd_T29 l0 x3_2).f0) p217 q217
                            obtain rfl : ad215 = ad217 := (by injection e217)
                            replace hx217_0 := (HB.out.cell (World.block_lt_of_cell? w _ hx217_0)).trans hx217_0
                            replace hx217_1 := (HB.out.cell (World.block_lt_of_cell? w _ hx217_1)).trans hx217_1
                            replace p217 := eq_true p217
                            replace q217 := eq_true q217
                            have p218 : 0 ≤ (x3_2 : Int) := of_decide_eq_true (by first | (with_reducible assumption) | assumption)
                            have q218 : x3_2 < (l0.length : Int) := of_decide_eq_true (by first | (with_reducible assumption) | assumption)
                            obtain ⟨ad218, e218, hx218_0, hx218_1⟩ := at_T29 HR0.out x3_2 p218 q218
                            obtain rfl : ad215 = ad218 := (by injection e218)
                            replace hx218_0 := (HB.out.cell (World.block_lt_of_cell? w _ hx218_0)).trans hx218_0
                            replace hx218_1 := (HB.out.cell (World.block_lt_of_cell? w _ hx218_1)).trans hx218_1
                            replace p218 := eq_true p218
                            replace q218 := eq_true q218
                            go_wp2
                            repeat (go_quiet (fail); try go_wp2)
                            go_roundg k2
                            case measure => have := HJ1.out; have := HK2.out; omega
                            case rel => exact ⟨(wrap64 (x3_2 + 1)), (by first | rfl | (simp; done) | (simp [*]; done)), H', ⟨by have := HJ1.out; have := HK2.out; omega⟩, ⟨by repeat (first | (with_reducible first | exact HB.out | apply below_alloc | apply pw_below_drewN | apply below_drew1) | exact HB.out)⟩⟩
                        · rw [if_neg c22] at H
                          have c22b0 : (((rd_T29 l0 x3_2).f1) == (wrap64 (((rd_T29 l0 ((rd_T29 l0 x3_2).f0)).f1) + 1))) = false := beq_eq_false_iff_ne.mpr c22
                          have c22b1 : (((rd_T29 l0 x3_2).f1) != (wrap64 (((rd_T29 l0 ((rd_T29 l0 x3_2).f0)).f1) + 1))) = true := bne_iff_ne.mpr c22
                          obtain rfl := Option.some.inj H
                          have p215 : 0 ≤ (x3_2 : Int) := of_decide_eq_true (by first | (with_reducible assumption) | assumption)
                          have q215 : x3_2 < (l0.length : Int) := of_decide_eq_true (by first | (with_reducible assumption) | assumption)
                          obtain ⟨ad215, e215, hx215_0, hx215_1⟩ := at_T29 HR0.out x3_2 p215 q215
                          cases e215
                          replace hx215_0 := (HB.out.cell (World.block_lt_of_cell? w _ hx215_0)).trans hx215_0
                          replace hx215_1 := (HB.out.cell (World.block_lt_of_cell? w _ hx215_1)).trans hx215_1
                          replace p215 := eq_true p215
                          replace q215 := eq_true q215
                          have p216 : 0 ≤ (x3_2 : Int) := of_decide_eq_true (by first | (with_reducible assumption) | assumption)
                          have q216 : x3_2 < (l0.length : Int) := of_decide_eq_true (by first | (with_reducible assumption) | assumption)
                          obtain ⟨ad216, e216, hx216_0, hx216_1⟩ := at_T29 HR0.out x3_2 p216 q216
                          obtain rfl : ad215 = ad216 := (by injection e216)
                          replace hx216_0 := (HB.out.cell (World.block_lt_of_cell? w _ hx216_0)).trans hx216_0
                          replace hx216_1 := (HB.out.cell (World.block_lt_of_cell? w _ hx216_1)).trans hx216_1
                          replace p216 := eq_true p216
                          replace q216 := eq_true q216
                          have p217 : 0 ≤ (((rd_T29 l0 x3_2).f0) : Int) := of_decide_eq_true (by first | (with_reducible assumption) | assumption)
                          have q217 : ((rd_T29 l0 x3_2).f0) < (l0.length : Int) := of_decide_eq_true (by first | (with_reducible assumption) | assumption)
                          obtain ⟨ad217, e217, hx217_0, hx217_1⟩ := at_T29 HR0.out ((rd_T29 l0 x3_2).f0) p217 q217
                          obtain rfl : ad215 = ad217 := (by injection e217)
                          replace hx217_0 := (HB.out.cell (World.block_lt_of_cell? w _ hx217_0)).trans hx217_0
                          replace hx217_1 := (HB.out.cell (World.block_lt_of_cell? w _ hx217_1)).trans hx217_1
                          replace p217 := eq_true p217
                          replace q217 := eq_true q217
                          go_wp2
                          repeat (go_quiet (fail); try go_wp2)
                          go_ret
                          exact ⟨by first | rfl | (simp [errW_none, errW_some] <;> rfl) | (simp [*, errW_none, errW_some] <;> rfl), by repeat (first | (with_reducible first | exact HB.out | apply below_alloc | apply pw_below_drewN | apply below_drew1) | exact HB.out)⟩
                      · rw [if_neg c21] at H
                        exact absurd H (by simp)
                    · rw [if_neg c20] at H
                      exact absurd H (by simp)
              · rw [if_neg c17] at H
                exact absurd H (by simp)
            · rw [if_neg c16] at H
              have c16b0 : decide (x3_2 < (l0.length : Int)) = false := decide_eq_false c16
              clear c16
              have H' := Aside0.mk H
              clear H
              go_wp2
              repeat (go_quiet (fail); try go_wp2)
              go_loopg [5] k2 (fun kq v5 w' => ∃ (x5_3 : Int), v5 = .int .i64 x5_3 ∧ Aside0 (catafalqueref01_Check.l1 kq l0 x5_3 = some r) ∧ Aside0 (kq ≤ k2) ∧ Aside0 (Below w.heap.size w w'))
              case atStart => exact ⟨(0), (by first | rfl | (simp; done) | (simp [*]; done)), H', ⟨Nat.le_refl _⟩, ⟨by repeat (first | (with_reducible first | exact HB.out | apply below_alloc | apply pw_below_drewN | apply below_drew1) | exact HB.out)⟩⟩
              case round =>
                clear H'
                try clear c1
                try clear c2
                try clear p2
                try clear q2
                try clear hx2
                try clear qi2
                try clear c3
                try clear c3b0
                try clear c3b1
                try clear c3b2
                try clear c4
                try clear c4b0
                try clear c4b1
                try clear c6
                try clear c6b0
                try clear c6b1
                try clear p6
                try clear c9
                try clear c9b0
                try clear c9b1
                try clear c10
                try clear c10b0
                try clear c10b1
                try clear c15
                try clear c16
                try clear c16b0
                try clear c17
                try clear c17b0
                try clear c18
                try clear c18b0
                try clear c19
                try clear c19b0
                try clear c20
                try clear c20b0
                try clear c21
                try clear c21b0
                try clear p21
                try clear q21
                try clear hx21
                try clear qi21
                try clear c22
                try clear c22b0
                try clear c22b1
                try clear c23
                try clear c23b0
                try clear hx213_0
                try clear hx213_1
                try clear hx214_0
                try clear hx214_1
                try clear hx215_0
                try clear hx215_1
                try clear hx216_0
                try clear hx216_1
                try clear hx217_0
                try clear hx217_1
                try clear hx218_0
                try clear hx218_1
                try clear p2
                try clear p213
                try clear p214
                try clear p215
                try clear p216
                try clear p217
                try clear p218
                try clear q2
                try clear q213
                try clear q214
                try clear q215
                try clear q216
                try clear q217
                try clear q218
                obtain ⟨x5_3, rfl, HA, HK3, HB⟩ := hrel
                cases gk with
                | zero => exact absurd HA.out (by simp [catafalqueref01_Check.l1])
                | succ k3 =>
                  have H := HA.out
                  clear HA
                  simp only [catafalqueref01_Check.l1] at H
                  by_cases c24 : x5_3 < (l0.length : Int)
                  · rw [if_pos c24] at H
                    have c24b0 : decide (x5_3 < (l0.length : Int)) = true := decide_eq_true c24
                    clear c24
                    replace H := Option.bind_eq_some_iff.mp H
                    obtain ⟨t219, A250, H⟩ := H
                    replace H : (if 0 ≤ x5_3 then (if ((rd_T29 l0 x5_3).f1) < 3 then (if (t219.length : Int) < 1 then (some 2) else (if (t219.length : Int) > 8 then (some 2) else (catafalqueref01_Check.l1 k3 l0 (wrap64 (x5_3 + 1))))) else (catafalqueref01_Check.l1 k3 l0 (wrap64 (x5_3 + 1)))) else (none)) = some r := H
                    have A25 := Aside0.mk A250
                    clear A250
                    by_cases c26 : 0 ≤ x5_3
                    · rw [if_pos c26] at H
                      have c26b0 : decide (0 ≤ x5_3) = true := decide_eq_true c26
                      clear c26
                      by_cases c27 : ((rd_T29 l0 x5_3).f1) < 3
                      · rw [if_pos c27] at H
                        have c27b0 : decide (((rd_T29 l0 x5_3).f1) < 3) = true := decide_eq_true c27
                        clear c27
                        by_cases c28 : (t219.length : Int) < 1
                        · rw [if_pos c28] at H
                          have c28b0 : decide ((t219.length : Int) < 1) = true := decide_eq_true c28
                          have c28b1 : decide (t219.length < 1) = true := decide_eq_true (by omega)
                          clear c28
                          obtain rfl := Option.some.inj H
                          go_wp2_with (first | (go_at_call 21; (with_reducible refine (catafalqueref01_Kids.calls k3 _ _ l0 x5_3 t219 _ ?side1 ?side2 A25.out).mono ?_); (case side1 => repeat (first | exact (Kd.C_below HR0.out HB.out) | (with_reducible refine Kd.C_alloc ?_ _) | (with_reducible refine Kd.C_drewN ?_ _) | (with_reducible refine Kd.C_drew ?_))); (case side2 => exact HC0.out); rintro e w29 ⟨v220, rfl, ho0, hb⟩; have n0_ := Aside0.mk (Kd.R_lower ho0 (below_size (by repeat (first | (with_reducible first | exact HB.out | apply below_alloc | apply pw_below_drewN | apply below_drew1) | exact HB.out)))); have n1_ := Aside0.mk (below_step (by repeat (first | (with_reducible first | exact HB.out | apply below_alloc | apply pw_below_drewN | apply below_drew1) | exact HB.out)) hb); clear HB; have HO221 := n0_; have HB := n1_; clear n0_ n1_; (try clear hb); (try clear hb2); (try clear hk); (try clear hi); (try clear ho0); obtain ⟨Ao30, co30, eo30⟩ := Kd.R_slice HO221.out; subst eo30; have p222 : 0 ≤ (x5_3 : Int) := of_decide_eq_true (by first | (with_reducible assumption) | assumption); have q222 : x5_3 < (l0.length : Int) := of_decide_eq_true (by first | (with_reducible assumption) | assumption); obtain ⟨ad222, e222, hx222_0, hx222_1⟩ := at_T29 HR0.out x5_3 p222 q222; cases e222; replace hx222_0 := (HB.out.cell (World.block_lt_of_cell? w _ hx222_0)).trans hx222_0; replace hx222_1 := (HB.out.cell (World.block_lt_of_cell? w _ hx222_1)).trans hx222_1; replace p222 := eq_true p222; replace q222 := eq_true q222))
                          repeat (go_quiet (first | (go_at_call 21; (with_reducible refine (catafalqueref01_Kids.calls k3 _ _ l0 x5_3 t219 _ ?side1 ?side2 A25.out).mono ?_); (case side1 => repeat (first | exact (Kd.C_below HR0.out HB.out) | (with_reducible refine Kd.C_alloc ?_ _) | (with_reducible refine Kd.C_drewN ?_ _) | (with_reducible refine Kd.C_drew ?_))); (case side2 => exact HC0.out); rintro e w29 ⟨v220, rfl, ho0, hb⟩; have n0_ := Aside0.mk (Kd.R_lower ho0 (below_size (by repeat (first | (with_reducible first | exact HB.out | apply below_alloc | apply pw_below_drewN | apply below_drew1) | exact HB.out)))); have n1_ := Aside0.mk (below_step (by repeat (first | (with_reducible first | exact HB.out | apply below_alloc | apply pw_below_drewN | apply below_drew1) | exact HB.out)) hb); clear HB; have HO221 := n0_; have HB := n1_; clear n0_ n1_; (try clear hb); (try clear hb2); (try clear hk); (try clear hi); (try clear ho0); obtain ⟨Ao30, co30, eo30⟩ := Kd.R_slice HO221.out; subst eo30; have p222 : 0 ≤ (x5_3 : Int) := of_decide_eq_true (by first | (with_reducible assumption) | assumption); have q222 : x5_3 < (l0.length : Int) := of_decide_eq_true (by first | (with_reducible assumption) | assumption); obtain ⟨ad222, e222, hx222_0, hx222_1⟩ := at_T29 HR0.out x5_3 p222 q222; cases e222; replace hx222_0 := (HB.out.cell (World.block_lt_of_cell? w _ hx222_0)).trans hx222_0; replace hx222_1 := (HB.out.cell (World.block_lt_of_cell? w _ hx222_1)).trans hx222_1; replace p222 := eq_true p222; replace q222 := eq_true q222)); try go_wp2_with (first | (go_at_call 21; (with_reducible refine (catafalqueref01_Kids.calls k3 _ _ l0 x5_3 t219 _ ?side1 ?side2 A25.out).mono ?_); (case side1 => repeat (first | exact (Kd.C_below HR0.out HB.out) | (with_reducible refine Kd.C_alloc ?_ _) | (with_reducible refine Kd.C_drewN ?_ _) | (with_reducible refine Kd.C_drew ?_))); (case side2 => exact HC0.out); rintro e w29 ⟨v220, rfl, ho0, hb⟩; have n0_ := Aside0.mk (Kd.R_lower ho0 (below_size (by repeat (first | (with_reducible first | exact HB.out | apply below_alloc | apply pw_below_drewN | apply below_drew1) | exact HB.out)))); have n1_ := Aside0.mk (below_step (by repeat (first | (with_reducible first | exact HB.out | apply below_alloc | apply pw_below_drewN | apply below_drew1) | exact HB.out)) hb); clear HB; have HO221 := n0_; have HB := n1_; clear n0_ n1_; (try clear hb); (try clear hb2); (try clear hk); (try clear hi); (try clear ho0); obtain ⟨Ao30, co30, eo30⟩ := Kd.R_slice HO221.out; subst eo30; have p222 : 0 ≤ (x5_3 : Int) := of_decide_eq_true (by first | (with_reducible assumption) | assumption); have q222 : x5_3 < (l0.length : Int) := of_decide_eq_true (by first | (with_reducible assumption) | assumption); obtain ⟨ad222, e222, hx222_0, hx222_1⟩ := at_T29 HR0.out x5_3 p222 q222; cases e222; replace hx222_0 := (HB.out.cell (World.block_lt_of_cell? w _ hx222_0)).trans hx222_0; replace hx222_1 := (HB.out.cell (World.block_lt_of_cell? w _ hx222_1)).trans hx222_1; replace p222 := eq_true p222; replace q222 := eq_true q222)))
                          go_ret
                          exact ⟨by first | rfl | (simp [errW_none, errW_some] <;> rfl) | (simp [*, errW_none, errW_some] <;> rfl), by repeat (first | (with_reducible first | exact HB.out | apply below_alloc | apply pw_below_drewN | apply below_drew1) | exact HB.out)⟩
                        · rw [if_neg c28] at H
                          have c28b0 : decide ((t219.length : Int) < 1) = false := decide_eq_false c28
                          have c28b1 : decide (t219.length < 1) = false := decide_eq_false (by omega)
                          clear c28
                          by_cases c31 : (t219.length : Int) > 8
                          · rw [if_pos c31] at H
                            have c31b0 : decide (8 < (t219.length : Int)) = true := decide_eq_true c31
                            have c31b1 : decide (8 < t219.length) = true := decide_eq_true (by omega)
                            clear c31
                            obtain rfl := Option.some.inj H
                            go_wp2_with (first | (go_at_call 21; (with_reducible refine (catafalqueref01_Kids.calls k3 _ _ l0 x5_3 t219 _ ?side1 ?side2 A25.out).mono ?_); (case side1 => repeat (first | exact (Kd.C_below HR0.out HB.out) | (with_reducible refine Kd.C_alloc ?_ _) | (with_reducible refine Kd.C_drewN ?_ _) | (with_reducible refine Kd.C_drew ?_))); (case side2 => exact HC0.out); rintro e w32 ⟨v220, rfl, ho0, hb⟩; have n0_ := Aside0.mk (Kd.R_lower ho0 (below_size (by repeat (first | (with_reducible first | exact HB.out | apply below_alloc | apply pw_below_drewN | apply below_drew1) | exact HB.out)))); have n1_ := Aside0.mk (below_step (by repeat (first | (with_reducible first | exact HB.out | apply below_alloc | apply pw_below_drewN | apply below_drew1) | exact HB.out)) hb); clear HB; have HO221 := n0_; have HB := n1_; clear n0_ n1_; (try clear hb); (try clear hb2); (try clear hk); (try clear hi); (try clear ho0); obtain ⟨Ao33, co33, eo33⟩ := Kd.R_slice HO221.out; subst eo33; have p222 : 0 ≤ (x5_3 : Int) := of_decide_eq_true (by first | (with_reducible assumption) | assumption); have q222 : x5_3 < (l0.length : Int) := of_decide_eq_true (by first | (with_reducible assumption) | assumption); obtain ⟨ad222, e222, hx222_0, hx222_1⟩ := at_T29 HR0.out x5_3 p222 q222; cases e222; replace hx222_0 := (HB.out.cell (World.block_lt_of_cell? w _ hx222_0)).trans hx222_0; replace hx222_1 := (HB.out.cell (World.block_lt_of_cell? w _ hx222_1)).trans hx222_1; replace p222 := eq_true p222; replace q222 := eq_true q222))
                            repeat (go_quiet (first | (go_at_call 21; (with_reducible refine (catafalqueref01_Kids.calls k3 _ _ l0 x5_3 t219 _ ?side1 ?side2 A25.out).mono ?_); (case side1 => repeat (first | exact (Kd.C_below HR0.out HB.out) | (with_reducible refine Kd.C_alloc ?_ _) | (with_reducible refine Kd.C_drewN ?_ _) | (with_reducible refine Kd.C_drew ?_))); (case side2 => exact HC0.out); rintro e w32 ⟨v220, rfl, ho0, hb⟩; have n0_ := Aside0.mk (Kd.R_lower ho0 (below_size (by repeat (first | (with_reducible first | exact HB.out | apply below_alloc | apply pw_below_drewN | apply below_drew1) | exact HB.out)))); have n1_ := Aside0.mk (below_step (by repeat (first | (with_reducible first | exact HB.out | apply below_alloc | apply pw_below_drewN | apply below_drew1) | exact HB.out)) hb); clear HB; have HO221 := n0_; have HB := n1_; clear n0_ n1_; (try clear hb); (try clear hb2); (try clear hk); (try clear hi); (try clear ho0); obtain ⟨Ao33, co33, eo33⟩ := Kd.R_slice HO221.out; subst eo33; have p222 : 0 ≤ (x5_3 : Int) := of_decide_eq_true (by first | (with_reducible assumption) | assumption); have q222 : x5_3 < (l0.length : Int) := of_decide_eq_true (by first | (with_reducible assumption) | assumption); obtain ⟨ad222, e222, hx222_0, hx222_1⟩ := at_T29 HR0.out x5_3 p222 q222; cases e222; replace hx222_0 := (HB.out.cell (World.block_lt_of_cell? w _ hx222_0)).trans hx222_0; replace hx222_1 := (HB.out.cell (World.block_lt_of_cell? w _ hx222_1)).trans hx222_1; replace p222 := eq_true p222; replace q222 := eq_true q222)); try go_wp2_with (first | (go_at_call 21; (with_reducible refine (catafalqueref01_Kids.calls k3 _ _ l0 x5_3 t219 _ ?side1 ?side2 A25.out).mono ?_); (case side1 => repeat (first | exact (Kd.C_below HR0.out HB.out) | (with_reducible refine Kd.C_alloc ?_ _) | (with_reducible refine Kd.C_drewN ?_ _) | (with_reducible refine Kd.C_drew ?_))); (case side2 => exact HC0.out); rintro e w32 ⟨v220, rfl, ho0, hb⟩; have n0_ := Aside0.mk (Kd.R_lower ho0 (below_size (by repeat (first | (with_reducible first | exact HB.out | apply below_alloc | apply pw_below_drewN | apply below_drew1) | exact HB.out)))); have n1_ := Aside0.mk (below_step (by repeat (first | (with_reducible first | exact HB.out | apply below_alloc | apply pw_below_drewN | apply below_drew1) | exact HB.out)) hb); clear HB; have HO221 := n0_; have HB := n1_; clear n0_ n1_; (try clear hb); (try clear hb2); (try clear hk); (try clear hi); (try clear ho0); obtain ⟨Ao33, co33, eo33⟩ := Kd.R_slice HO221.out; subst eo33; have p222 : 0 ≤ (x5_3 : Int) := of_decide_eq_true (by first | (with_reducible assumption) | assumption); have q222 : x5_3 < (l0.length : Int) := of_decide_eq_true (by first | (with_reducible assumption) | assumption); obtain ⟨ad222, e222, hx222_0, hx222_1⟩ := at_T29 HR0.out x5_3 p222 q222; cases e222; replace hx222_0 := (HB.out.cell (World.block_lt_of_cell? w _ hx222_0)).trans hx222_0; replace hx222_1 := (HB.out.cell (World.block_lt_of_cell? w _ hx222_1)).trans hx222_1; replace p222 := eq_true p222; replace q222 := eq_true q222)))
                            go_ret
                            exact ⟨by first | rfl | (simp [errW_none, errW_some] <;> rfl) | (simp [*, errW_none, errW_some] <;> rfl), by repeat (first | (with_reducible first | exact HB.out | apply below_alloc | apply pw_below_drewN | apply below_drew1) | exact HB.out)⟩
                          · rw [if_neg c31] at H
                            have c31b0 : decide (8 < (t219.length : Int)) = false := decide_eq_false c31
                            have c31b1 : decide (8 < t219.length) = false := decide_eq_false (by omega)
                            clear c31
                            have H' := Aside0.mk H
                            clear H
                            go_wp2_with (first | (go_at_call 21; (with_reducible refine (catafalqueref01_Kids.calls k3 _ _ l0 x5_3 t219 _ ?side1 ?side2 A25.out).mono ?_); (case side1 => repeat (first | exact (Kd.C_below HR0.out HB.out) | (with_reducible refine Kd.C_alloc ?_ _) | (with_reducible refine Kd.C_drewN ?_ _) | (with_reducible refine Kd.C_drew ?_))); (case side2 => exact HC0.out); rintro e w34 ⟨v220, rfl, ho0, hb⟩; have n0_ := Aside0.mk (Kd.R_lower ho0 (below_size (by repeat (first | (with_reducible first | exact HB.out | apply below_alloc | apply pw_below_drewN | apply below_drew1) | exact HB.out)))); have n1_ := Aside0.mk (below_step (by repeat (first | (with_reducible first | exact HB.out | apply below_alloc | apply pw_below_drewN | apply below_drew1) | exact HB.out)) hb); clear HB; have HO221 := n0_; have HB := n1_; clear n0_ n1_; (try clear hb); (try clear hb2); (try clear hk); (try clear hi); (try clear ho0); obtain ⟨Ao35, co35, eo35⟩ := Kd.R_slice HO221.out; subst eo35; have p222 : 0 ≤ (x5_3 : Int) := of_decide_eq_true (by first | (with_reducible assumption) | assumption); have q222 : x5_3 < (l0.length : Int) := of_decide_eq_true (by first | (with_reducible assumption) | assumption); obtain ⟨ad222, e222, hx222_0, hx222_1⟩ := at_T29 HR0.out x5_3 p222 q222; cases e222; replace hx222_0 := (HB.out.cell (World.block_lt_of_cell? w _ hx222_0)).trans hx222_0; replace hx222_1 := (HB.out.cell (World.block_lt_of_cell? w _ hx222_1)).trans hx222_1; replace p222 := eq_true p222; replace q222 := eq_true q222))
                            repeat (go_quiet (first | (go_at_call 21; (with_reducible refine (catafalqueref01_Kids.calls k3 _ _ l0 x5_3 t219 _ ?side1 ?side2 A25.out).mono ?_); (case side1 => repeat (first | exact (Kd.C_below HR0.out HB.out) | (with_reducible refine Kd.C_alloc ?_ _) | (with_reducible refine Kd.C_drewN ?_ _) | (with_reducible refine Kd.C_drew ?_))); (case side2 => exact HC0.out); rintro e w34 ⟨v220, rfl, ho0, hb⟩; have n0_ := Aside0.mk (Kd.R_lower ho0 (below_size (by repeat (first | (with_reducible first | exact HB.out | apply below_alloc | apply pw_below_drewN | apply below_drew1) | exact HB.out)))); have n1_ := Aside0.mk (below_step (by repeat (first | (with_reducible first | exact HB.out | apply below_alloc | apply pw_below_drewN | apply below_drew1) | exact HB.out)) hb); clear HB; have HO221 := n0_; have HB := n1_; clear n0_ n1_; (try clear hb); (try clear hb2); (try clear hk); (try clear hi); (try clear ho0); obtain ⟨Ao35, co35, eo35⟩ := Kd.R_slice HO221.out; subst eo35; have p222 : 0 ≤ (x5_3 : Int) := of_decide_eq_true (by first | (with_reducible assumption) | assumption); have q222 : x5_3 < (l0.length : Int) := of_decide_eq_true (by first | (with_reducible assumption) | assumption); obtain ⟨ad222, e222, hx222_0, hx222_1⟩ := at_T29 HR0.out x5_3 p222 q222; cases e222; replace hx222_0 := (HB.out.cell (World.block_lt_of_cell? w _ hx222_0)).trans hx222_0; replace hx222_1 := (HB.out.cell (World.block_lt_of_cell? w _ hx222_1)).trans hx222_1; replace p222 := eq_true p222; replace q222 := eq_true q222)); try go_wp2_with (first | (go_at_call 21; (with_reducible refine (catafalqueref01_Kids.calls k3 _ _ l0 x5_3 t219 _ ?side1 ?side2 A25.out).mono ?_); (case side1 => repeat (first | exact (Kd.C_below HR0.out HB.out) | (with_reducible refine Kd.C_alloc ?_ _) | (with_reducible refine Kd.C_drewN ?_ _) | (with_reducible refine Kd.C_drew ?_))); (case side2 => exact HC0.out); rintro e w34 ⟨v220, rfl, ho0, hb⟩; have n0_ := Aside0.mk (Kd.R_lower ho0 (below_size (by repeat (first | (with_reducible first | exact HB.out | apply below_alloc | apply pw_below_drewN | apply below_drew1) | exact HB.out)))); have n1_ := Aside0.mk (below_step (by repeat (first | (with_reducible first | exact HB.out | apply below_alloc | apply pw_below_drewN | apply below_drew1) | exact HB.out)) hb); clear HB; have HO221 := n0_; have HB := n1_; clear n0_ n1_; (try clear hb); (try clear hb2); (try clear hk); (try clear hi); (try clear ho0); obtain ⟨Ao35, co35, eo35⟩ := Kd.R_slice HO221.out; subst eo35; have p222 : 0 ≤ (x5_3 : Int) := of_decide_eq_true (by first | (with_reducible assumption) | assumption); have q222 : x5_3 < (l0.length : Int) := of_decide_eq_true (by first | (with_reducible assumption) | assumption); obtain ⟨ad222, e222, hx222_0, hx222_1⟩ := at_T29 HR0.out x5_3 p222 q222; cases e222; replace hx222_0 := (HB.out.cell (World.block_lt_of_cell? w _ hx222_0)).trans hx222_0; replace hx222_1 := (HB.out.cell (World.block_lt_of_cell? w _ hx222_1)).trans hx222_1; replace p222 := eq_true p222; replace q222 := eq_true q222)))
                            go_roundg k3
                            case measure => have := HJ1.out; have := HK2.out; have := HK3.out; omega
                            case rel => exact ⟨(wrap64 (x5_3 + 1)), (by first | rfl | (simp; done) | (simp [*]; done)), H', ⟨by have := HJ1.out; have := HK2.out; have := HK3.out; omega⟩, ⟨by repeat (first | (with_reducible first | exact HB.out | apply below_alloc | apply pw_below_drewN | apply below_drew1) | exact HB.out)⟩⟩
                      · rw [if_neg c27] at H
                        have c27b0 : decide (((rd_T29 l0 x5_3).f1) < 3) = false := decide_eq_false c27
                        clear c27
                        have H' := Aside0.mk H
                        clear H
                        go_wp2_with (first | (go_at_call 21; (with_reducible refine (catafalqueref01_Kids.calls k3 _ _ l0 x5_3 t219 _ ?side1 ?side2 A25.out).mono ?_); (case side1 => repeat (first | exact (Kd.C_below HR0.out HB.out) | (with_reducible refine Kd.C_alloc ?_ _) | (with_reducible refine Kd.C_drewN ?_ _) | (with_reducible refine Kd.C_drew ?_))); (case side2 => exact HC0.out); rintro e w36 ⟨v220, rfl, ho0, hb⟩; have n0_ := Aside0.mk (Kd.R_lower ho0 (below_size (by repeat (first | (with_reducible first | exact HB.out | apply below_alloc | apply pw_below_drewN | apply below_drew1) | exact HB.out)))); have n1_ := Aside0.mk (below_step (by repeat (first | (with_reducible first | exact HB.out | apply below_alloc | apply pw_below_drewN | apply below_drew1) | exact HB.out)) hb); clear HB; have HO221 := n0_; have HB := n1_; clear n0_ n1_; (try clear hb); (try clear hb2); (try clear hk); (try clear hi); (try clear ho0); obtain ⟨Ao37, co37, eo37⟩ := Kd.R_slice HO221.out; subst eo37; have p222 : 0 ≤ (x5_3 : Int) := of_decide_eq_true (by first | (with_reducible assumption) | assumption); have q222 : x5_3 < (l0.length : Int) := of_decide_eq_true (by first | (with_reducible assumption) | assumption); obtain ⟨ad222, e222, hx222_0, hx222_1⟩ := at_T29 HR0.out x5_3 p222 q222; cases e222; replace hx222_0 := (HB.out.cell (World.block_lt_of_cell? w _ hx222_0)).trans hx222_0; replace hx222_1 := (HB.out.cell (World.block_lt_of_cell? w _ hx222_1)).trans hx222_1; replace p222 := eq_true p222; replace q222 := eq_true q222))
                        repeat (go_quiet (first | (go_at_call 21; (with_reducible refine (catafalqueref01_Kids.calls k3 _ _ l0 x5_3 t219 _ ?side1 ?side2 A25.out).mono ?_); (case side1 => repeat (first | exact (Kd.C_below HR0.out HB.out) | (with_reducible refine Kd.C_alloc ?_ _) | (with_reducible refine Kd.C_drewN ?_ _) | (with_reducible refine Kd.C_drew ?_))); (case side2 => exact HC0.out); rintro e w36 ⟨v220, rfl, ho0, hb⟩; have n0_ := Aside0.mk (Kd.R_lower ho0 (below_size (by repeat (first | (with_reducible first | exact HB.out | apply below_alloc | apply pw_below_drewN | apply below_drew1) | exact HB.out)))); have n1_ := Aside0.mk (below_step (by repeat (first | (with_reducible first | exact HB.out | apply below_alloc | apply pw_below_drewN | apply below_drew1) | exact HB.out)) hb); clear HB; have HO221 := n0_; have HB := n1_; clear n0_ n1_; (try clear hb); (try clear hb2); (try clear hk); (try clear hi); (try clear ho0); obtain ⟨Ao37, co37, eo37⟩ := Kd.R_slice HO221.out; subst eo37; have p222 : 0 ≤ (x5_3 : Int) := of_decide_eq_true (by first | (with_reducible assumption) | assumption); have q222 : x5_3 < (l0.length : Int) := of_decide_eq_true (by first | (with_reducible assumption) | assumption); obtain ⟨ad222, e222, hx222_0, hx222_1⟩ := at_T29 HR0.out x5_3 p222 q222; cases e222; replace hx222_0 := (HB.out.cell (World.block_lt_of_cell? w _ hx222_0)).trans hx222_0; replace hx222_1 := (HB.out.cell (World.block_lt_of_cell? w _ hx222_1)).trans hx222_1; replace p222 := eq_true p222; replace q222 := eq_true q222)); try go_wp2_with (first | (go_at_call 21; (with_reducible refine (catafalqueref01_Kids.calls k3 _ _ l0 x5_3 t219 _ ?side1 ?side2 A25.out).mono ?_); (case side1 => repeat (first | exact (Kd.C_below HR0.out HB.out) | (with_reducible refine Kd.C_alloc ?_ _) | (with_reducible refine Kd.C_drewN ?_ _) | (with_reducible refine Kd.C_drew ?_))); (case side2 => exact HC0.out); rintro e w36 ⟨v220, rfl, ho0, hb⟩; have n0_ := Aside0.mk (Kd.R_lower ho0 (below_size (by repeat (first | (with_reducible first | exact HB.out | apply below_alloc | apply pw_below_drewN | apply below_drew1) | exact HB.out)))); have n1_ := Aside0.mk (below_step (by repeat (first | (with_reducible first | exact HB.out | apply below_alloc | apply pw_below_drewN | apply below_drew1) | exact HB.out)) hb); clear HB; have HO221 := n0_; have HB := n1_; clear n0_ n1_; (try clear hb); (try clear hb2); (try clear hk); (try clear hi); (try clear ho0); obtain ⟨Ao37, co37, eo37⟩ := Kd.R_slice HO221.out; subst eo37; have p222 : 0 ≤ (x5_3 : Int) := of_decide_eq_true (by first | (with_reducible assumption) | assumption); have q222 : x5_3 < (l0.length : Int) := of_decide_eq_true (by first | (with_reducible assumption) | assumption); obtain ⟨ad222, e222, hx222_0, hx222_1⟩ := at_T29 HR0.out x5_3 p222 q222; cases e222; replace hx222_0 := (HB.out.cell (World.block_lt_of_cell? w _ hx222_0)).trans hx222_0; replace hx222_1 := (HB.out.cell (World.block_lt_of_cell? w _ hx222_1)).trans hx222_1; replace p222 := eq_true p222; replace q222 := eq_true q222)))
                        go_roundg k3
                        case measure => have := HJ1.out; have := HK2.out; have := HK3.out; omega
                        case rel => exact ⟨(wrap64 (x5_3 + 1)), (by first | rfl | (simp; done) | (simp [*]; done)), H', ⟨by have := HJ1.out; have := HK2.out; have := HK3.out; omega⟩, ⟨by repeat (first | (with_reducible first | exact HB.out | apply below_alloc | apply pw_below_drewN | apply below_drew1) | exact HB.out)⟩⟩
                    · rw [if_neg c26] at H
                      exact absurd H (by simp)
                  · rw [if_neg c24] at H
                    have c24b0 : decide (x5_3 < (l0.length : Int)) = false := decide_eq_false c24
                    clear c24
                    obtain rfl := Option.some.inj H
                    go_wp2
                    repeat (go_quiet (fail); try go_wp2)
                    go_ret
                    exact ⟨by first | rfl | (simp [errW_none, errW_some] <;> rfl) | (simp [*, errW_none, errW_some] <;> rfl), by repeat (first | (with_reducible first | exact HB.out | apply below_alloc | apply pw_below_drewN | apply below_drew1) | exact HB.out)⟩

/-! ### catafalqueref01_Up: function 26 -/
mutual
def catafalqueref01_Up.j0 : Nat → List (S29) → Int → Int → Bool → Option (Int)
  | 0, _, _, _, _ => none
  | k + 1, x0, x1, x2, x14 => if x14 = true then (some (-1)) else (if 0 ≤ x1 then (if x1 < (x0.length : Int) then (if ((rd_T29 x0 x1).f1) = x2 then (some x1) else (if ((rd_T29 x0 x1).f0) ≥ x1 then (some (-1)) else ((catafalqueref01_Up.f k x0 ((rd_T29 x0 x1).f0) x2).bind fun t226 => (some t226)))) else (none)) else (none))
def catafalqueref01_Up.f : Nat → List (S29) → Int → Int → Option (Int)
  | 0, _, _, _ => none
  | k + 1, l0, a1, a2 => if a1 < 0 then (catafalqueref01_Up.j0 k l0 a1 a2 true) else (catafalqueref01_Up.j0 k l0 a1 a2 (decide (a1 ≥ (l0.length : Int))))
end
theorem catafalqueref01_Up.mono_l : ∀ k, (∀ y0 y1 y2, LeO (catafalqueref01_Up.f k y0 y1 y2) (catafalqueref01_Up.f (k + 1) y0 y1 y2)) ∧ (∀ y0 y1 y2 y3, LeO (catafalqueref01_Up.j0 k y0 y1 y2 y3) (catafalqueref01_Up.j0 (k + 1) y0 y1 y2 y3))
  | 0 => ⟨fun _ _ _ r h => by simp [catafalqueref01_Up.f] at h, fun _ _ _ _ r h => by simp [catafalqueref01_Up.j0] at h⟩
  | k + 1 => by
    obtain ⟨ih0, ih1⟩ := catafalqueref01_Up.mono_l k
    refine ⟨?_, ?_⟩
    · intro y0 y1 y2
      unfold catafalqueref01_Up.f
      repeat' first
      | (with_reducible exact ih0 _ _ _)
      | (with_reducible exact ih1 _ _ _ _)
      | (with_reducible exact LeO.refl _)
      | (with_reducible exact LeO.none _)
      | (with_reducible refine LeO.ite ?_ ?_)
      | (with_reducible refine LeO.bind ?_ (fun _ => ?_))
      | exact ih0 _ _ _
      | exact ih1 _ _ _ _
      | exact LeO.none _
      | refine LeO.ite ?_ ?_
      | refine LeO.bind ?_ (fun _ => ?_)
    · intro y0 y1 y2 y3
      unfold catafalqueref01_Up.j0
      repeat' first
      | (with_reducible exact ih0 _ _ _)
      | (with_reducible exact ih1 _ _ _ _)
      | (with_reducible exact LeO.refl _)
      | (with_reducible exact LeO.none _)
      | (with_reducible refine LeO.ite ?_ ?_)
      | (with_reducible refine LeO.bind ?_ (fun _ => ?_))
      | exact ih0 _ _ _
      | exact ih1 _ _ _ _
      | exact LeO.none _
      | refine LeO.ite ?_ ?_
      | refine LeO.bind ?_ (fun _ => ?_)
theorem catafalqueref01_Up.mono : ∀ a0 a1 a2 k, LeO (catafalqueref01_Up.f k a0 a1 a2) (catafalqueref01_Up.f (k + 1) a0 a1 a2) := by
  intro a0 a1 a2 k
  obtain ⟨ih0, ih1⟩ := catafalqueref01_Up.mono_l k
  exact ih0 a0 a1 a2
set_option maxHeartbeats 8000000 in
set_option maxRecDepth 100000 in
theorem catafalqueref01_Up.calls (k : Nat) : ∀ (A0 : Option Addr) (c0 : Nat) (l0 : List (S29)) (a1 : Int) (a2 : Int) (r : Int) (w : World) (hr0 : Kd.C k29 w A0 l0.length l0) (hc0 : l0.length ≤ c0) (h : catafalqueref01_Up.f k l0 a1 a2 = some r),
    Calls Try.prog 26 #[.slice A0 l0.length c0, .int .i64 a1, .int .i64 a2] w fun e w' => e = .returned (.int .i64 r) ∧ Drawn0 w w' := by
  induction k using Nat.strongRecOn with
  | _ k ih =>
  intro A0 c0 l0 a1 a2 r w hr0 hc0 h
  cases k with
  | zero => exact absurd h (by simp [catafalqueref01_Up.f])
  | succ k =>
  simp only [catafalqueref01_Up.f] at h
  have HR0 := Aside0.mk hr0
  have HC0 := Aside0.mk hc0
  clear hr0 hc0
  have H : (if a1 < 0 then (catafalqueref01_Up.j0 k l0 a1 a2 true) else (catafalqueref01_Up.j0 k l0 a1 a2 (decide (a1 ≥ (l0.length : Int))))) = some r := h
  clear h
  have HC4 := Aside0.mk H
  clear H
  go_enter Try.func26, Try.ntmps26
  go_upto_region 1 with (fail)
  go_cut [14] (fun v14 wc => ∃ (kq : Nat) (x14_3 : Bool), v14 = .bool x14_3 ∧ Aside0 (catafalqueref01_Up.j0 kq l0 a1 a2 x14_3 = some r) ∧ Aside0 (kq ≤ k) ∧ Drawn0 w wc)
  case first =>
    have H := HC4.out
    clear HC4
    by_cases c5 : a1 < 0
    · rw [if_pos c5] at H
      have c5b0 : decide (a1 < 0) = true := decide_eq_true c5
      clear c5
      (first | rw [c5b0] | (simp only [i64_w, i32_w]; rw [c5b0]) | skip)
      have H' := Aside0.mk H
      clear H
      go_wp2
      go_meet
      case rel => exact ⟨_, (true), (by first | rfl | (simp; done) | (simp [*]; done)), H', ⟨by first | omega | exact Nat.le_refl _⟩, by repeat (first | exact Drawn0.refl _ | apply Drawn0.step)⟩
    · rw [if_neg c5] at H
      have c5b0 : decide (a1 < 0) = false := decide_eq_false c5
      clear c5
      (first | rw [c5b0] | (simp only [i64_w, i32_w]; rw [c5b0]) | skip)
      have H' := Aside0.mk H
      clear H
      go_wp2
      go_meet
      case rel => exact ⟨_, (decide (a1 ≥ (l0.length : Int))), (by first | rfl | (simp; done) | (simp [*]; done)), H', ⟨by first | omega | exact Nat.le_refl _⟩, by repeat (first | exact Drawn0.refl _ | apply Drawn0.step)⟩
  case rest =>
    clear HC4
    try clear c2
    try clear p2
    try clear c5
    try clear c5b0
    obtain ⟨kq, x14_3, rfl, HA, HJ3, ⟨mc3, rfl⟩⟩ := hcut
    cases kq with
    | zero => exact absurd HA.out (by simp [catafalqueref01_Up.j0])
    | succ kj3 =>
      have H := HA.out
      clear HA
      simp only [catafalqueref01_Up.j0] at H
      by_cases c6 : x14_3 = true
      · subst c6
        have H1 : (some (-1)) = some r := by rw [if_pos rfl] at H; exact H
        clear H
        have H := H1
        clear H1
        obtain rfl := Option.some.inj H
        go_wp2
        go_ret
        exact ⟨by first | rfl | (simp; done) | (simp [*]; done), by repeat (first | exact Drawn0.refl _ | apply Drawn0.step)⟩
      · replace c6 := Bool.eq_false_iff.mpr c6
        subst c6
        have H1 : (if 0 ≤ a1 then (if a1 < (l0.length : Int) then (if ((rd_T29 l0 a1).f1) = a2 then (some a1) else (if ((rd_T29 l0 a1).f0) ≥ a1 then (some (-1)) else ((catafalqueref01_Up.f kj3 l0 ((rd_T29 l0 a1).f0) a2).bind fun t226 => (some t226)))) else (none)) else (none)) = some r := by rw [if_neg (show ¬ (false = true) by decide)] at H; exact H
        clear H
        have H := H1
        clear H1
        by_cases c7 : 0 ≤ a1
        · rw [if_pos c7] at H
          have c7b0 : decide (0 ≤ a1) = true := decide_eq_true c7
          clear c7
          by_cases c8 : a1 < (l0.length : Int)
          · rw [if_pos c8] at H
            have c8b0 : decide (a1 < (l0.length : Int)) = true := decide_eq_true c8
            clear c8
            by_cases c9 : ((rd_T29 l0 a1).f1) = a2
            · rw [if_pos c9] at H
              have c9b0 : (((rd_T29 l0 a1).f1) == a2) = true := beq_iff_eq.mpr c9
              have c9b1 : (((rd_T29 l0 a1).f1) != a2) = false := bne_eq_false_iff_eq.mpr c9
              clear c9
              obtain rfl := Option.some.inj H
              have p223 : 0 ≤ (a1 : Int) := of_decide_eq_true (by first | (with_reducible assumption) | assumption)
              have q223 : a1 < (l0.length : Int) := of_decide_eq_true (by first | (with_reducible assumption) | assumption)
              obtain ⟨ad223, e223, hx223_0, hx223_1⟩ := at_T29 HR0.out a1 p223 q223
              cases e223
              replace p223 := eq_true p223
              replace q223 := eq_true q223
              go_wp2
              go_ret
              exact ⟨by first | rfl | (simp; done) | (simp [*]; done), by repeat (first | exact Drawn0.refl _ | apply Drawn0.step)⟩
            · rw [if_neg c9] at H
              have c9b0 : (((rd_T29 l0 a1).f1) == a2) = false := beq_eq_false_iff_ne.mpr c9
              have c9b1 : (((rd_T29 l0 a1).f1) != a2) = true := bne_iff_ne.mpr c9
              by_cases c10 : ((rd_T29 l0 a1).f0) ≥ a1
              · rw [if_pos c10] at H
                have c10b0 : decide (a1 ≤ ((rd_T29 l0 a1).f0)) = true := decide_eq_true c10
                clear c10
                obtain rfl := Option.some.inj H
                have p223 : 0 ≤ (a1 : Int) := of_decide_eq_true (by first | (with_reducible assumption) | assumption)
                have q223 : a1 < (l0.length : Int) := of_decide_eq_true (by first | (with_reducible assumption) | assumption)
                obtain ⟨ad223, e223, hx223_0, hx223_1⟩ := at_T29 HR0.out a1 p223 q223
                cases e223
                replace p223 := eq_true p223
                replace q223 := eq_true q223
                have p224 : 0 ≤ (a1 : Int) := of_decide_eq_true (by first | (with_reducible assumption) | assumption)
                have q224 : a1 < (l0.length : Int) := of_decide_eq_true (by first | (with_reducible assumption) | assumption)
                obtain ⟨ad224, e224, hx224_0, hx224_1⟩ := at_T29 HR0.out a1 p224 q224
                obtain rfl : ad223 = ad224 := (by injection e224)
                replace p224 := eq_true p224
                replace q224 := eq_true q224
                go_wp2
                go_ret
                exact ⟨by first | rfl | (simp; done) | (simp [*]; done), by repeat (first | exact Drawn0.refl _ | apply Drawn0.step)⟩
              · rw [if_neg c10] at H
                have c10b0 : decide (a1 ≤ ((rd_T29 l0 a1).f0)) = false := decide_eq_false c10
                clear c10
                replace H := Option.bind_eq_some_iff.mp H
                obtain ⟨t226, A110, H⟩ := H
                replace H : (some t226) = some r := H
                have A11 := Aside0.mk A110
                clear A110
                obtain rfl := Option.some.inj H
                have p223 : 0 ≤ (a1 : Int) := of_decide_eq_true (by first | (with_reducible assumption) | assumption)
                have q223 : a1 < (l0.length : Int) := of_decide_eq_true (by first | (with_reducible assumption) | assumption)
                obtain ⟨ad223, e223, hx223_0, hx223_1⟩ := at_T29 HR0.out a1 p223 q223
                cases e223
                replace p223 := eq_true p223
                replace q223 := eq_true q223
                have p224 : 0 ≤ (a1 : Int) := of_decide_eq_true (by first | (with_reducible assumption) | assumption)
                have q224 : a1 < (l0.length : Int) := of_decide_eq_true (by first | (with_reducible assumption) | assumption)
                obtain ⟨ad224, e224, hx224_0, hx224_1⟩ := at_T29 HR0.out a1 p224 q224
                obtain rfl : ad223 = ad224 := (by injection e224)
                replace p224 := eq_true p224
                replace q224 := eq_true q224
                have p225 : 0 ≤ (a1 : Int) := of_decide_eq_true (by first | (with_reducible assumption) | assumption)
                have q225 : a1 < (l0.length : Int) := of_decide_eq_true (by first | (with_reducible assumption) | assumption)
                obtain ⟨ad225, e225, hx225_0, hx225_1⟩ := at_T29 HR0.out a1 p225 q225
                obtain rfl : ad223 = ad225 := (by injection e225)
                replace p225 := eq_true p225
                replace q225 := eq_true q225
                go_wp2_with (first | ((with_reducible refine gate_callee (f := 26) rfl ?_); refine goesL_ (some 37) rfl rfl Try.func26 (by kernel_rfl) rfl #[.slice (some ad223) l0.length c0, .int .i64 ((rd_T29 l0 a1).f0), .int .i64 a2] rfl (by (try simp only [List.map_toArray, List.map_cons, List.map_nil]); first | done | rfl | (simp only [List.length_drop, List.length_take]; rfl)) ?_; (with_reducible refine (ih kj3 (by have := HJ3.out; omega) _ _ l0 ((rd_T29 l0 a1).f0) a2 t226 _ ?side1 ?side2 A11.out).mono ?_); (case side1 => repeat (first | exact HR0.out | (with_reducible refine Kd.C_alloc ?_ _) | (with_reducible refine Kd.C_drewN ?_ _) | (with_reducible refine Kd.C_drew ?_))); (case side2 => exact HC0.out); rintro e w' ⟨rfl, ⟨nd, rfl⟩⟩; refine ⟨_, rfl, ?_⟩))
                go_ret
                exact ⟨by first | rfl | (simp; done) | (simp [*]; done), by repeat (first | exact Drawn0.refl _ | apply Drawn0.step)⟩
          · rw [if_neg c8] at H
            exact absurd H (by simp)
        · rw [if_neg c7] at H
          exact absurd H (by simp)

end Go.Proofs.Ytbcemjanpmbdeaa.QTopo
