/- Printed by a program of this session (over the kit's print): functions in plain form, and what their calls come to. -/
import Derived.Test.YtibkpacjijbblaaQStatusx0
import Derived.Test.YtibkpacjijbblaaQStatusx1
namespace Go.Proofs.Ytibkpacjijbblaa.QStatus
open Go.RowKit Go.Proofs.YtibkpacjijbblaaW.PrintWords Go.Proofs.YtibkpacjijbblaaW.PrintLast Go.Proofs.YtibkpacjijbblaaW.PrintMore
attribute [local go_sem] max2_int min2_int max_two min_two max_three min_three max_four min_four   -- for this text's walks alone
set_option linter.unusedVariables false
set_option linter.unusedSimpArgs false

/-! ### catafalquelaw09_StatusWalks: function 7 -/
theorem catafalquelaw09_StatusWalks.nn (l : List UInt8) : (l != ([] : List UInt8)) = !l.isEmpty := by cases l <;> rfl
theorem catafalquelaw09_StatusWalks.nm (l : List UInt8) : (l == ([] : List UInt8)) = l.isEmpty := by cases l <;> rfl
mutual
def catafalquelaw09_StatusWalks.j0 : Nat → List Int → List Int → Bool → Bool → Option (Bool)
  | 0, _, _, _, _ => none
  | k + 1, x0, x1, x5, x27 => if x27 = true then (some x5) else (catafalquelaw09_StatusWalks.l0 k x0 x1 x5 ([] : List Int) 0)
def catafalquelaw09_StatusWalks.l0 : Nat → List Int → List Int → Bool → List Int → Int → Option (Bool)
  | 0, _, _, _, _, _ => none
  | k + 1, x0, x1, x5, x6, x8 => if x8 < (x0.length : Int) then (if 0 ≤ x8 then (if x6.length < 17592186044416 then (catafalquelaw09_StatusWalks.l0 k x0 x1 x5 (x6 ++ [wrap64 (Int.tmod (rd x0 x8) 6)]) (wrap64 (x8 + 1))) else (none)) else (none)) else (catafalquelaw09_StatusWalks.l1 k x1 x5 x6 ([] : List Int) 0)
def catafalquelaw09_StatusWalks.l1 : Nat → List Int → Bool → List Int → List Int → Int → Option (Bool)
  | 0, _, _, _, _, _ => none
  | k + 1, x1, x5, x6, x7, x9 => if x9 < (x1.length : Int) then (if 0 ≤ x9 then (if x7.length < 17592186044416 then (catafalquelaw09_StatusWalks.l1 k x1 x5 x6 (x7 ++ [wrap64 (Int.tmod (rd x1 x9) 6)]) (wrap64 (x9 + 1))) else (none)) else (none)) else ((status_Walk.f k x6).bind fun bt123 => ((status_Walk.f k x7).bind fun bt125 => ((some (([] : List Int) : List Int)).bind fun y127 => (if y127.length + x6.length < 17592186044416 then ((some (y127 ++ x6 : List Int)).bind fun y130 => (if y130.length + x7.length < 17592186044416 then ((status_Walk.f k (y130 ++ x7)).bind fun bt136 => (if (x6.length : Int) = 0 then (catafalquelaw09_StatusWalks.j3 k x5 x6 bt123.1 bt123.2 bt125.2 bt136.2 true) else (if (x7.length : Int) = 0 then (catafalquelaw09_StatusWalks.j3 k x5 x6 bt123.1 bt123.2 bt125.2 bt136.2 true) else (if 0 ≤ (wrap64 ((x6.length : Int) - 1)) then (if (wrap64 ((x6.length : Int) - 1)) < (x6.length : Int) then (if 0 < (x7.length : Int) then ((status_May.f k (rd x6 (wrap64 ((x6.length : Int) - 1))) (rd x7 0)).bind fun t140 => (catafalquelaw09_StatusWalks.j3 k x5 x6 bt123.1 bt123.2 bt125.2 bt136.2 t140)) else (none)) else (none)) else (none))))) else (none))) else (none)))))
def catafalquelaw09_StatusWalks.j3 : Nat → Bool → List Int → Int → Bool → Bool → Bool → Bool → Option (Bool)
  | 0, _, _, _, _, _, _, _ => none
  | k + 1, x5, x6, x10, x11, x13, x15, x16 => if x10 < 0 then (catafalquelaw09_StatusWalks.j4 k x5 x6 x10 x11 x13 x15 x16 true) else (if x10 > (x6.length : Int) then (catafalquelaw09_StatusWalks.j4 k x5 x6 x10 x11 x13 x15 x16 true) else (catafalquelaw09_StatusWalks.j4 k x5 x6 x10 x11 x13 x15 x16 (x11 != (x10 == (x6.length : Int)))))
def catafalquelaw09_StatusWalks.j4 : Nat → Bool → List Int → Int → Bool → Bool → Bool → Bool → Bool → Option (Bool)
  | 0, _, _, _, _, _, _, _, _ => none
  | k + 1, x5, x6, x10, x11, x13, x15, x16, x113 => if x113 = true then (some false) else (if 0 ≤ (mn (wrap64 (x10 + 1)) (x6.length : Int)) then (if (mn (wrap64 (x10 + 1)) (x6.length : Int)) ≤ (x6.length : Int) then ((status_Walk.f k (x6.take ((mn (wrap64 (x10 + 1)) (x6.length : Int)) : Int).toNat)).bind fun bt145 => (if x5 = true then (if x11 = true then (if x13 = true then (if (x15 == x16) = true then (some true) else (some false)) else (if (x15 == false) = true then (some true) else (some false))) else (if (x15 == false) = true then (if 0 ≤ x10 then (if x10 < (x6.length : Int) then ((status_Name.f (rd x6 x10)).bind fun t148 => (some (bt145.2 == (t148.toList != ([] : List UInt8))))) else (none)) else (none)) else (some false))) else (some false))) else (none)) else (none))
end
def catafalquelaw09_StatusWalks.f (k : Nat) (l0 : List Int) (l1 : List Int) : Option (Bool) := (catafalquelaw09_shown.f k).bind fun t114 => (if (l0.length : Int) > 200 then (catafalquelaw09_StatusWalks.j0 k l0 l1 t114 true) else (catafalquelaw09_StatusWalks.j0 k l0 l1 t114 (decide ((l1.length : Int) > 200))))
theorem catafalquelaw09_StatusWalks.mono_l : ∀ k, (∀ y0 y1 y2 y3, LeO (catafalquelaw09_StatusWalks.j0 k y0 y1 y2 y3) (catafalquelaw09_StatusWalks.j0 (k + 1) y0 y1 y2 y3)) ∧ (∀ y0 y1 y2 y3 y4, LeO (catafalquelaw09_StatusWalks.l0 k y0 y1 y2 y3 y4) (catafalquelaw09_StatusWalks.l0 (k + 1) y0 y1 y2 y3 y4)) ∧ (∀ y0 y1 y2 y3 y4, LeO (catafalquelaw09_StatusWalks.l1 k y0 y1 y2 y3 y4) (catafalquelaw09_StatusWalks.l1 (k + 1) y0 y1 y2 y3 y4)) ∧ (∀ y0 y1 y2 y3 y4 y5 y6, LeO (catafalquelaw09_StatusWalks.j3 k y0 y1 y2 y3 y4 y5 y6) (catafalquelaw09_StatusWalks.j3 (k + 1) y0 y1 y2 y3 y4 y5 y6)) ∧ (∀ y0 y1 y2 y3 y4 y5 y6 y7, LeO (catafalquelaw09_StatusWalks.j4 k y0 y1 y2 y3 y4 y5 y6 y7) (catafalquelaw09_StatusWalks.j4 (k + 1) y0 y1 y2 y3 y4 y5 y6 y7))
  | 0 => ⟨fun _ _ _ _ r h => by simp [catafalquelaw09_StatusWalks.j0] at h, fun _ _ _ _ _ r h => by simp [catafalquelaw09_StatusWalks.l0] at h, fun _ _ _ _ _ r h => by simp [catafalquelaw09_StatusWalks.l1] at h, fun _ _ _ _ _ _ _ r h => by simp [catafalquelaw09_StatusWalks.j3] at h, fun _ _ _ _ _ _ _ _ r h => by simp [catafalquelaw09_StatusWalks.j4] at h⟩
  | k + 1 => by
    obtain ⟨ih0, ih1, ih2, ih3, ih4⟩ := catafalquelaw09_StatusWalks.mono_l k
    refine ⟨?_, ?_, ?_, ?_, ?_⟩
    · intro y0 y1 y2 y3
      unfold catafalquelaw09_StatusWalks.j0
      repeat' first
      | (with_reducible exact ih0 _ _ _ _)
      | (with_reducible exact ih1 _ _ _ _ _)
      | (with_reducible exact ih2 _ _ _ _ _)
      | (with_reducible exact ih3 _ _ _ _ _ _ _)
      | (with_reducible exact ih4 _ _ _ _ _ _ _ _)
      | (with_reducible exact catafalquelaw09_shown.mono _)
      | (with_reducible exact status_May.mono _ _ _)
      | (with_reducible exact status_Walk.mono _ _)
      | (with_reducible exact LeO.refl _)
      | (with_reducible exact LeO.none _)
      | (with_reducible refine LeO.ite ?_ ?_)
      | (with_reducible refine LeO.bind ?_ (fun _ => ?_))
      | exact ih0 _ _ _ _
      | exact ih1 _ _ _ _ _
      | exact ih2 _ _ _ _ _
      | exact ih3 _ _ _ _ _ _ _
      | exact ih4 _ _ _ _ _ _ _ _
      | exact catafalquelaw09_shown.mono _
      | exact status_May.mono _ _ _
      | exact status_Walk.mono _ _
      | exact LeO.none _
      | refine LeO.ite ?_ ?_
      | refine LeO.bind ?_ (fun _ => ?_)
    · intro y0 y1 y2 y3 y4
      unfold catafalquelaw09_StatusWalks.l0
      repeat' first
      | (with_reducible exact ih0 _ _ _ _)
      | (with_reducible exact ih1 _ _ _ _ _)
      | (with_reducible exact ih2 _ _ _ _ _)
      | (with_reducible exact ih3 _ _ _ _ _ _ _)
      | (with_reducible exact ih4 _ _ _ _ _ _ _ _)
      | (with_reducible exact catafalquelaw09_shown.mono _)
      | (with_reducible exact status_May.mono _ _ _)
      | (with_reducible exact status_Walk.mono _ _)
      | (with_reducible exact LeO.refl _)
      | (with_reducible exact LeO.none _)
      | (with_reducible refine LeO.ite ?_ ?_)
      | (with_reducible refine LeO.bind ?_ (fun _ => ?_))
      | exact ih0 _ _ _ _
      | exact ih1 _ _ _ _ _
      | exact ih2 _ _ _ _ _
      | exact ih3 _ _ _ _ _ _ _
      | exact ih4 _ _ _ _ _ _ _ _
      | exact catafalquelaw09_shown.mono _
      | exact status_May.mono _ _ _
      | exact status_Walk.mono _ _
      | exact LeO.none _
      | refine LeO.ite ?_ ?_
      | refine LeO.bind ?_ (fun _ => ?_)
    · intro y0 y1 y2 y3 y4
      unfold catafalquelaw09_StatusWalks.l1
      repeat' first
      | (with_reducible exact ih0 _ _ _ _)
      | (with_reducible exact ih1 _ _ _ _ _)
      | (with_reducible exact ih2 _ _ _ _ _)
      | (with_reducible exact ih3 _ _ _ _ _ _ _)
      | (with_reducible exact ih4 _ _ _ _ _ _ _ _)
      | (with_reducible exact catafalquelaw09_shown.mono _)
      | (with_reducible exact status_May.mono _ _ _)
      | (with_reducible exact status_Walk.mono _ _)
      | (with_reducible exact LeO.refl _)
      | (with_reducible exact LeO.none _)
      | (with_reducible refine LeO.ite ?_ ?_)
      | (with_reducible refine LeO.bind ?_ (fun _ => ?_))
      | exact ih0 _ _ _ _
      | exact ih1 _ _ _ _ _
      | exact ih2 _ _ _ _ _
      | exact ih3 _ _ _ _ _ _ _
      | exact ih4 _ _ _ _ _ _ _ _
      | exact catafalquelaw09_shown.mono _
      | exact status_May.mono _ _ _
      | exact status_Walk.mono _ _
      | exact LeO.none _
      | refine LeO.ite ?_ ?_
      | refine LeO.bind ?_ (fun _ => ?_)
    · intro y0 y1 y2 y3 y4 y5 y6
      unfold catafalquelaw09_StatusWalks.j3
      repeat' first
      | (with_reducible exact ih0 _ _ _ _)
      | (with_reducible exact ih1 _ _ _ _ _)
      | (with_reducible exact ih2 _ _ _ _ _)
      | (with_reducible exact ih3 _ _ _ _ _ _ _)
      | (with_reducible exact ih4 _ _ _ _ _ _ _ _)
      | (with_reducible exact catafalquelaw09_shown.mono _)
      | (with_reducible exact status_May.mono _ _ _)
      | (with_reducible exact status_Walk.mono _ _)
      | (with_reducible exact LeO.refl _)
      | (with_reducible exact LeO.none _)
      | (with_reducible refine LeO.ite ?_ ?_)
      | (with_reducible refine LeO.bind ?_ (fun _ => ?_))
      | exact ih0 _ _ _ _
      | exact ih1 _ _ _ _ _
      | exact ih2 _ _ _ _ _
      | exact ih3 _ _ _ _ _ _ _
      | exact ih4 _ _ _ _ _ _ _ _
      | exact catafalquelaw09_shown.mono _
      | exact status_May.mono _ _ _
      | exact status_Walk.mono _ _
      | exact LeO.none _
      | refine LeO.ite ?_ ?_
      | refine LeO.bind ?_ (fun _ => ?_)
    · intro y0 y1 y2 y3 y4 y5 y6 y7
      unfold catafalquelaw09_StatusWalks.j4
      repeat' first
      | (with_reducible exact ih0 _ _ _ _)
      | (with_reducible exact ih1 _ _ _ _ _)
      | (with_reducible exact ih2 _ _ _ _ _)
      | (with_reducible exact ih3 _ _ _ _ _ _ _)
      | (with_reducible exact ih4 _ _ _ _ _ _ _ _)
      | (with_reducible exact catafalquelaw09_shown.mono _)
      | (with_reducible exact status_May.mono _ _ _)
      | (with_reducible exact status_Walk.mono _ _)
      | (with_reducible exact LeO.refl _)
      | (with_reducible exact LeO.none _)
      | (with_reducible refine LeO.ite ?_ ?_)
      | (with_reducible refine LeO.bind ?_ (fun _ => ?_))
      | exact ih0 _ _ _ _
      | exact ih1 _ _ _ _ _
      | exact ih2 _ _ _ _ _
      | exact ih3 _ _ _ _ _ _ _
      | exact ih4 _ _ _ _ _ _ _ _
      | exact catafalquelaw09_shown.mono _
      | exact status_May.mono _ _ _
      | exact status_Walk.mono _ _
      | exact LeO.none _
      | refine LeO.ite ?_ ?_
      | refine LeO.bind ?_ (fun _ => ?_)
theorem catafalquelaw09_StatusWalks.mono : ∀ a0 a1 k, LeO (catafalquelaw09_StatusWalks.f k a0 a1) (catafalquelaw09_StatusWalks.f (k + 1) a0 a1) := by
  intro a0 a1 k
  obtain ⟨ih0, ih1, ih2, ih3, ih4⟩ := catafalquelaw09_StatusWalks.mono_l k
  unfold catafalquelaw09_StatusWalks.f
  repeat' first
      | (with_reducible exact ih0 _ _ _ _)
      | (with_reducible exact ih1 _ _ _ _ _)
      | (with_reducible exact ih2 _ _ _ _ _)
      | (with_reducible exact ih3 _ _ _ _ _ _ _)
      | (with_reducible exact ih4 _ _ _ _ _ _ _ _)
      | (with_reducible exact catafalquelaw09_shown.mono _)
      | (with_reducible exact status_May.mono _ _ _)
      | (with_reducible exact status_Walk.mono _ _)
      | (with_reducible exact LeO.refl _)
      | (with_reducible exact LeO.none _)
      | (with_reducible refine LeO.ite ?_ ?_)
      | (with_reducible refine LeO.bind ?_ (fun _ => ?_))
      | exact ih0 _ _ _ _
      | exact ih1 _ _ _ _ _
      | exact ih2 _ _ _ _ _
      | exact ih3 _ _ _ _ _ _ _
      | exact ih4 _ _ _ _ _ _ _ _
      | exact catafalquelaw09_shown.mono _
      | exact status_May.mono _ _ _
      | exact status_Walk.mono _ _
      | exact LeO.none _
      | refine LeO.ite ?_ ?_
      | refine LeO.bind ?_ (fun _ => ?_)
set_option maxHeartbeats 8000000 in
set_option maxRecDepth 100000 in
theorem catafalquelaw09_StatusWalks.calls (k : Nat) (A0 : Option Addr) (c0 : Nat) (l0 : List Int) (A1 : Option Addr) (c1 : Nat) (l1 : List Int) (r : Bool) (w : World) (hr0 : Kd.C (Kd.int .u8) w A0 l0.length l0) (hc0 : l0.length ≤ c0) (hr1 : Kd.C (Kd.int .u8) w A1 l1.length l1) (hc1 : l1.length ≤ c1) (h : catafalquelaw09_StatusWalks.f k l0 l1 = some r) :
    Calls Try.prog 7 #[.slice A0 l0.length c0, .slice A1 l1.length c1] w fun e w' => e = .returned (.bool r) ∧ Below w.heap.size w w' := by
  have HR0 := Aside0.mk hr0
  have HC0 := Aside0.mk hc0
  clear hr0 hc0
  have HR1 := Aside0.mk hr1
  have HC1 := Aside0.mk hc1
  clear hr1 hc1
  have HB := Aside0.mk (Below.refl w.heap.size w)
  have H : ((catafalquelaw09_shown.f k).bind fun t114 => (if (l0.length : Int) > 200 then (catafalquelaw09_StatusWalks.j0 k l0 l1 t114 true) else (catafalquelaw09_StatusWalks.j0 k l0 l1 t114 (decide ((l1.length : Int) > 200))))) = some r := h
  clear h
  replace H := Option.bind_eq_some_iff.mp H
  obtain ⟨t114, A30, H⟩ := H
  replace H : (if (l0.length : Int) > 200 then (catafalquelaw09_StatusWalks.j0 k l0 l1 t114 true) else (catafalquelaw09_StatusWalks.j0 k l0 l1 t114 (decide ((l1.length : Int) > 200)))) = some r := H
  have A3 := Aside0.mk A30
  clear A30
  have HC4 := Aside0.mk H
  clear H
  go_enter Try.func7, Try.ntmps7
  go_upto_region 2 with (first | (go_at_call 20; (with_reducible refine (catafalquelaw09_shown.calls k  t114 _ A3.out).mono ?_); rintro e w5 ⟨rfl, hb⟩; have n0_ := Aside0.mk (below_step (by repeat (first | (with_reducible first | exact HB.out | apply below_alloc | apply pw_below_drewN | apply below_drew1) | exact HB.out)) hb); clear HB; have HB := n0_; clear n0_; (try clear hb); (try clear hb2); (try clear hk); (try clear hi)))
  repeat (go_quiet (first | (go_at_call 20; (with_reducible refine (catafalquelaw09_shown.calls k  t114 _ A3.out).mono ?_); rintro e w5 ⟨rfl, hb⟩; have n0_ := Aside0.mk (below_step (by repeat (first | (with_reducible first | exact HB.out | apply below_alloc | apply pw_below_drewN | apply below_drew1) | exact HB.out)) hb); clear HB; have HB := n0_; clear n0_; (try clear hb); (try clear hb2); (try clear hk); (try clear hi))); go_upto_region 2 with (first | (go_at_call 20; (with_reducible refine (catafalquelaw09_shown.calls k  t114 _ A3.out).mono ?_); rintro e w5 ⟨rfl, hb⟩; have n0_ := Aside0.mk (below_step (by repeat (first | (with_reducible first | exact HB.out | apply below_alloc | apply pw_below_drewN | apply below_drew1) | exact HB.out)) hb); clear HB; have HB := n0_; clear n0_; (try clear hb); (try clear hb2); (try clear hk); (try clear hi))))
  (try simp only [Act.put, List.setIfInBounds_toArray, List.set_cons_zero, List.set_cons_succ])
  go_cut [27] (fun v27 wc => ∃ (kq : Nat) (x27_3 : Bool), v27 = .bool x27_3 ∧ Aside0 (catafalquelaw09_StatusWalks.j0 kq l0 l1 t114 x27_3 = some r) ∧ Aside0 (kq ≤ k) ∧ Aside0 (Below w.heap.size w wc))
  case first =>
    have H := HC4.out
    clear HC4
    by_cases c6 : (l0.length : Int) > 200
    · rw [if_pos c6] at H
      have c6b0 : decide (200 < (l0.length : Int)) = true := decide_eq_true c6
      have c6b1 : decide (200 < l0.length) = true := decide_eq_true (by omega)
      clear c6
      (first | rw [c6b0] | (simp only [i64_w, i32_w]; rw [c6b0]) | skip)
      have H' := Aside0.mk H
      clear H
      go_wp2
      repeat (go_quiet (fail); try go_wp2)
      go_meet
      case rel => exact ⟨_, (true), (by first | rfl | (simp; done) | (simp [*]; done)), H', ⟨by first | omega | exact Nat.le_refl _⟩, ⟨by repeat (first | (with_reducible first | exact HB.out | apply below_alloc | apply pw_below_drewN | apply below_drew1) | exact HB.out)⟩⟩
    · rw [if_neg c6] at H
      have c6b0 : decide (200 < (l0.length : Int)) = false := decide_eq_false c6
      have c6b1 : decide (200 < l0.length) = false := decide_eq_false (by omega)
      clear c6
      (first | rw [c6b0] | (simp only [i64_w, i32_w]; rw [c6b0]) | skip)
      have H' := Aside0.mk H
      clear H
      go_wp2
      repeat (go_quiet (fail); try go_wp2)
      go_meet
      case rel => exact ⟨_, (decide ((l1.length : Int) > 200)), (by first | rfl | (simp; done) | (simp [*]; done)), H', ⟨by first | omega | exact Nat.le_refl _⟩, ⟨by repeat (first | (with_reducible first | exact HB.out | apply below_alloc | apply pw_below_drewN | apply below_drew1) | exact HB.out)⟩⟩
  case rest =>
    clear HC4
    try clear c1
    try clear p2
    try clear c6
    try clear c6b0
    try clear c6b1
    obtain ⟨kq, x27_3, rfl, HA, HJ3, HB⟩ := hcut
    cases kq with
    | zero => exact absurd HA.out (by simp [catafalquelaw09_StatusWalks.j0])
    | succ kj3 =>
      have H := HA.out
      clear HA
      simp only [catafalquelaw09_StatusWalks.j0] at H
      by_cases c7 : x27_3 = true
      · subst c7
        have H1 : (some t114) = some r := by rw [if_pos rfl] at H; exact H
        clear H
        have H := H1
        clear H1
        obtain rfl := Option.some.inj H
        go_wp2
        repeat (go_quiet (fail); try go_wp2)
        go_ret
        exact ⟨by first | rfl | (simp only [catafalquelaw09_StatusWalks.nn, catafalquelaw09_StatusWalks.nm] <;> rfl) | (simp [errW_none, errW_some] <;> rfl) | (simp [*, errW_none, errW_some] <;> rfl), by repeat (first | (with_reducible first | exact HB.out | apply below_alloc | apply pw_below_drewN | apply below_drew1) | exact HB.out)⟩
      · replace c7 := Bool.eq_false_iff.mpr c7
        subst c7
        have H1 : (catafalquelaw09_StatusWalks.l0 kj3 l0 l1 t114 ([] : List Int) 0) = some r := by rw [if_neg (show ¬ (false = true) by decide)] at H; exact H
        clear H
        have H := H1
        clear H1
        have H' := Aside0.mk H
        clear H
        go_wp2
        repeat (go_quiet (fail); try go_wp2)
        go_loopg [6, 8] kj3 (fun kq v6 v8 w' => ∃ (x6_2 : List Int) (x8_2 : Int), v8 = .int .i64 x8_2 ∧ Aside0 (catafalquelaw09_StatusWalks.l0 kq l0 l1 t114 x6_2 x8_2 = some r) ∧ Aside0 (kq ≤ kj3) ∧ Aside0 (Kd.R (Kd.int .i64) 3 w' w.heap.size (fun _ => True) v6 x6_2) ∧ Aside0 (Below w.heap.size w w'))
        case atStart => exact ⟨(([] : List Int)), (0), (by first | rfl | (simp; done) | (simp [*]; done)), H', ⟨Nat.le_refl _⟩, ⟨by first | exact Kd.R_nil _ _ _ _ _ | exact Kd.N_nil _ _ _ _ _ | exact Kd.V_nil _ _ _ _ _ | exact Kd.Q_nil _ _ _ _ _ | exact Kd.S_nil _ _ _ _ _⟩, ⟨by repeat (first | (with_reducible first | exact HB.out | apply below_alloc | apply pw_below_drewN | apply below_drew1) | exact HB.out)⟩⟩
        case round =>
          clear H'
          try clear c1
          try clear p2
          try clear c6
          try clear c6b0
          try clear c6b1
          try clear c7
          try clear p2
          obtain ⟨x6_2, x8_2, rfl, HA, HK2, HO_6, HB⟩ := hrel
          cases gk with
          | zero => exact absurd HA.out (by simp [catafalquelaw09_StatusWalks.l0])
          | succ k2 =>
            have H := HA.out
            clear HA
            simp only [catafalquelaw09_StatusWalks.l0] at H
            by_cases c8 : x8_2 < (l0.length : Int)
            · rw [if_pos c8] at H
              have c8b0 : decide (x8_2 < (l0.length : Int)) = true := decide_eq_true c8
              clear c8
              by_cases c9 : 0 ≤ x8_2
              · rw [if_pos c9] at H
                have c9b0 : decide (0 ≤ x8_2) = true := decide_eq_true c9
                clear c9
                by_cases c10 : x6_2.length < 17592186044416
                · rw [if_pos c10] at H
                  have LMc10 := Aside0.mk c10
                  clear c10
                  obtain ⟨y116, hy116⟩ : ∃ y_ : List Int, y_ = (x6_2 ++ [wrap64 (Int.tmod (rd l0 x8_2) 6)]) := ⟨_, rfl⟩
                  replace H : (catafalquelaw09_StatusWalks.l0 k2 l0 l1 t114 y116 (wrap64 (x8_2 + 1))) = some r := by first | (rw [hy116]; with_reducible exact H) | (have H2_ := (Option.bind_some _ _).symm.trans H; rw [hy116]; with_reducible exact H2_) | (have H2_ := (Option.bind_some _ _).symm.trans H; with_reducible exact H2_) | with_reducible exact H | (rw [hy116]; exact H) | exact H
                  have Ny116 := Aside0.mk hy116
                  clear hy116
                  have H' := Aside0.mk H
                  clear H
                  have p115 : 0 ≤ (x8_2 : Int) := of_decide_eq_true (by first | (with_reducible assumption) | assumption)
                  have q115 : x8_2 < (l0.length : Int) := of_decide_eq_true (by first | (with_reducible assumption) | assumption)
                  obtain ⟨ad115, e115, hx115_0⟩ := Kd.at_int HR0.out x8_2 p115 q115
                  cases e115
                  replace hx115_0 := (HB.out.cell (World.block_lt_of_cell? w _ hx115_0)).trans hx115_0
                  replace p115 := eq_true p115
                  replace q115 := eq_true q115
                  go_wp2_with (first | ((with_reducible refine gate_builtin (b := .append) (xs := #[.tmp 35, .tmp 42]) rfl ?_); (try (refine gate_guard (by rfl) ?_; dsimp only)); at_builtin; refine Kd.R_append (Kd.int .i64) (w0 := w) w.heap.size rfl (.tmp 35) (.tmp 42) 25 3 (.int .i64 0) 8 rfl Try.underlying25 info3 rfl (by decide) (by omega) u6 x6_2 (wrap64 (Int.tmod (rd l0 x8_2) 6)) [.int .i64 (wrap64 (Int.tmod (rd l0 x8_2) 6))] (fun _ => True) (fun _ => False) rfl rfl ?aP (fun _ hk => hk.elim) ?aF ?aO ?aB ?aS ?aL ?_; (case aP => exact rfl); (case aB => exact (by repeat (first | (with_reducible first | exact HB.out | apply below_alloc | apply pw_below_drewN | apply below_drew1) | exact HB.out))); (case aF => exact (fun _ _ => trivial)); (case aO => exact (by (with_reducible repeat (first | apply Kd.R_alloc | apply Kd.R_drewN | apply Kd.R_drew)); exact HO_6.out)); (case aS => exact (below_size (by repeat (first | (with_reducible first | exact HB.out | apply below_alloc | apply pw_below_drewN | apply below_drew1) | exact HB.out)))); (case aL => have := LMc10.out; omega); intro v117 w11 ho hb hg hat; rw [← Ny116.out] at ho; have n0_ := Aside0.mk (hb); have n1_ := Aside0.mk (ho); clear HB; clear HO_6; have HB := n0_; have HO118 := n1_; clear n0_ n1_; clear ho hb hg hat))
                  repeat (go_quiet (first | ((with_reducible refine gate_builtin (b := .append) (xs := #[.tmp 35, .tmp 42]) rfl ?_); (try (refine gate_guard (by rfl) ?_; dsimp only)); at_builtin; refine Kd.R_append (Kd.int .i64) (w0 := w) w.heap.size rfl (.tmp 35) (.tmp 42) 25 3 (.int .i64 0) 8 rfl Try.underlying25 info3 rfl (by decide) (by omega) u6 x6_2 (wrap64 (Int.tmod (rd l0 x8_2) 6)) [.int .i64 (wrap64 (Int.tmod (rd l0 x8_2) 6))] (fun _ => True) (fun _ => False) rfl rfl ?aP (fun _ hk => hk.elim) ?aF ?aO ?aB ?aS ?aL ?_; (case aP => exact rfl); (case aB => exact (by repeat (first | (with_reducible first | exact HB.out | apply below_alloc | apply pw_below_drewN | apply below_drew1) | exact HB.out))); (case aF => exact (fun _ _ => trivial)); (case aO => exact (by (with_reducible repeat (first | apply Kd.R_alloc | apply Kd.R_drewN | apply Kd.R_drew)); exact HO_6.out)); (case aS => exact (below_size (by repeat (first | (with_reducible first | exact HB.out | apply below_alloc | apply pw_below_drewN | apply below_drew1) | exact HB.out)))); (case aL => have := LMc10.out; omega); intro v117 w11 ho hb hg hat; rw [← Ny116.out] at ho; have n0_ := Aside0.mk (hb); have n1_ := Aside0.mk (ho); clear HB; clear HO_6; have HB := n0_; have HO118 := n1_; clear n0_ n1_; clear ho hb hg hat)); try go_wp2_with (first | ((with_reducible refine gate_builtin (b := .append) (xs := #[.tmp 35, .tmp 42]) rfl ?_); (try (refine gate_guard (by rfl) ?_; dsimp only)); at_builtin; refine Kd.R_append (Kd.int .i64) (w0 := w) w.heap.size rfl (.tmp 35) (.tmp 42) 25 3 (.int .i64 0) 8 rfl Try.underlying25 info3 rfl (by decide) (by omega) u6 x6_2 (wrap64 (Int.tmod (rd l0 x8_2) 6)) [.int .i64 (wrap64 (Int.tmod (rd l0 x8_2) 6))] (fun _ => True) (fun _ => False) rfl rfl ?aP (fun _ hk => hk.elim) ?aF ?aO ?aB ?aS ?aL ?_; (case aP => exact rfl); (case aB => exact (by repeat (first | (with_reducible first | exact HB.out | apply below_alloc | apply pw_below_drewN | apply below_drew1) | exact HB.out))); (case aF => exact (fun _ _ => trivial)); (case aO => exact (by (with_reducible repeat (first | apply Kd.R_alloc | apply Kd.R_drewN | apply Kd.R_drew)); exact HO_6.out)); (case aS => exact (below_size (by repeat (first | (with_reducible first | exact HB.out | apply below_alloc | apply pw_below_drewN | apply below_drew1) | exact HB.out)))); (case aL => have := LMc10.out; omega); intro v117 w11 ho hb hg hat; rw [← Ny116.out] at ho; have n0_ := Aside0.mk (hb); have n1_ := Aside0.mk (ho); clear HB; clear HO_6; have HB := n0_; have HO118 := n1_; clear n0_ n1_; clear ho hb hg hat)))
                  go_roundg k2
                  case measure => have := HJ3.out; have := HK2.out; omega
                  case rel => exact ⟨(y116), (wrap64 (x8_2 + 1)), (by first | rfl | (simp; done) | (simp [*]; done)), H', ⟨by have := HJ3.out; have := HK2.out; omega⟩, ⟨by (with_reducible repeat (first | apply Kd.R_alloc | apply Kd.R_drewN | apply Kd.R_drew)); exact HO118.out⟩, ⟨by repeat (first | (with_reducible first | exact HB.out | apply below_alloc | apply pw_below_drewN | apply below_drew1) | exact HB.out)⟩⟩
                · rw [if_neg c10] at H
                  exact absurd H (by simp)
              · rw [if_neg c9] at H
                exact absurd H (by simp)
            · rw [if_neg c8] at H
              have c8b0 : decide (x8_2 < (l0.length : Int)) = false := decide_eq_false c8
              clear c8
              have H' := Aside0.mk H
              clear H
              go_wp2
              repeat (go_quiet (fail); try go_wp2)
              go_loopg [7, 9] k2 (fun kq v7 v9 w' => ∃ (x7_3 : List Int) (x9_3 : Int), v9 = .int .i64 x9_3 ∧ Aside0 (catafalquelaw09_StatusWalks.l1 kq l1 t114 x6_2 x7_3 x9_3 = some r) ∧ Aside0 (kq ≤ k2) ∧ Aside0 (Kd.R (Kd.int .i64) 3 w' w.heap.size (fun k_ => some k_ ≠ (v7 : Value).ownBlock) u6 x6_2) ∧ Aside0 (Kd.R (Kd.int .i64) 3 w' w.heap.size (fun k_ => some k_ ≠ (u6 : Value).ownBlock) v7 x7_3) ∧ Aside0 (Below w.heap.size w w'))
              case atStart => exact ⟨(([] : List Int)), (0), (by first | rfl | (simp; done) | (simp [*]; done)), H', ⟨Nat.le_refl _⟩, ⟨by (with_reducible repeat (first | apply Kd.R_alloc | apply Kd.R_drewN | apply Kd.R_drew)); exact Kd.R_mono HO_6.out (fun _ hk => (by simp [Value.ownBlock]))⟩, ⟨by first | exact Kd.R_nil _ _ _ _ _ | exact Kd.N_nil _ _ _ _ _ | exact Kd.V_nil _ _ _ _ _ | exact Kd.Q_nil _ _ _ _ _ | exact Kd.S_nil _ _ _ _ _⟩, ⟨by repeat (first | (with_reducible first | exact HB.out | apply below_alloc | apply pw_below_drewN | apply below_drew1) | exact HB.out)⟩⟩
              case round =>
                clear H'
                try clear c1
                try clear p1
                try clear q1
                try clear hx1
                try clear p2
                try clear c6
                try clear c6b0
                try clear c6b1
                try clear p6
                try clear c7
                try clear c8
                try clear c8b0
                try clear c9
                try clear c9b0
                try clear c10
                try clear p11
                try clear q11
                try clear hx11
                try clear hx115_0
                try clear p115
                try clear p2
                try clear q115
                obtain ⟨x7_3, x9_3, rfl, HA, HK3, HO_6, HO_7, HB⟩ := hrel
                cases gk with
                | zero => exact absurd HA.out (by simp [catafalquelaw09_StatusWalks.l1])
                | succ k3 =>
                  have H := HA.out
                  clear HA
                  simp only [catafalquelaw09_StatusWalks.l1] at H
                  by_cases c12 : x9_3 < (l1.length : Int)
                  · rw [if_pos c12] at H
                    have c12b0 : decide (x9_3 < (l1.length : Int)) = true := decide_eq_true c12
                    clear c12
                    by_cases c13 : 0 ≤ x9_3
                    · rw [if_pos c13] at H
                      have c13b0 : decide (0 ≤ x9_3) = true := decide_eq_true c13
                      clear c13
                      by_cases c14 : x7_3.length < 17592186044416
                      · rw [if_pos c14] at H
                        have LMc14 := Aside0.mk c14
                        clear c14
                        obtain ⟨y120, hy120⟩ : ∃ y_ : List Int, y_ = (x7_3 ++ [wrap64 (Int.tmod (rd l1 x9_3) 6)]) := ⟨_, rfl⟩
                        replace H : (catafalquelaw09_StatusWalks.l1 k3 l1 t114 x6_2 y120 (wrap64 (x9_3 + 1))) = some r := by first | (rw [hy120]; with_reducible exact H) | (have H2_ := (Option.bind_some _ _).symm.trans H; rw [hy120]; with_reducible exact H2_) | (have H2_ := (Option.bind_some _ _).symm.trans H; with_reducible exact H2_) | with_reducible exact H | (rw [hy120]; exact H) | exact H
                        have Ny120 := Aside0.mk hy120
                        clear hy120
                        have H' := Aside0.mk H
                        clear H
                        have p119 : 0 ≤ (x9_3 : Int) := of_decide_eq_true (by first | (with_reducible assumption) | assumption)
                        have q119 : x9_3 < (l1.length : Int) := of_decide_eq_true (by first | (with_reducible assumption) | assumption)
                        obtain ⟨ad119, e119, hx119_0⟩ := Kd.at_int HR1.out x9_3 p119 q119
                        cases e119
                        replace hx119_0 := (HB.out.cell (World.block_lt_of_cell? w _ hx119_0)).trans hx119_0
                        replace p119 := eq_true p119
                        replace q119 := eq_true q119
                        go_wp2_with (first | ((with_reducible refine gate_builtin (b := .append) (xs := #[.tmp 50, .tmp 57]) rfl ?_); (try (refine gate_guard (by rfl) ?_; dsimp only)); at_builtin; refine Kd.R_append (Kd.int .i64) (w0 := w) w.heap.size rfl (.tmp 50) (.tmp 57) 25 3 (.int .i64 0) 8 rfl Try.underlying25 info3 rfl (by decide) (by omega) u7 x7_3 (wrap64 (Int.tmod (rd l1 x9_3) 6)) [.int .i64 (wrap64 (Int.tmod (rd l1 x9_3) 6))] (fun k_ => some k_ ≠ (u6 : Value).ownBlock) (fun _ => False) rfl rfl ?aP (fun _ hk => hk.elim) ?aF ?aO ?aB ?aS ?aL ?_; (case aP => exact rfl); (case aB => exact (by repeat (first | (with_reducible first | exact HB.out | apply below_alloc | apply pw_below_drewN | apply below_drew1) | exact HB.out))); (case aF => exact (fun k_ hk => Kd.fresh' (Kd.R_lt (by (with_reducible repeat (first | apply Kd.R_alloc | apply Kd.R_drewN | apply Kd.R_drew)); exact HO_6.out)) k_ hk)); (case aO => exact (by (with_reducible repeat (first | apply Kd.R_alloc | apply Kd.R_drewN | apply Kd.R_drew)); exact HO_7.out)); (case aS => exact (below_size (by repeat (first | (with_reducible first | exact HB.out | apply below_alloc | apply pw_below_drewN | apply below_drew1) | exact HB.out)))); (case aL => have := LMc14.out; omega); intro v121 w15 ho hb hg hat; rw [← Ny120.out] at ho; have n0_ := Aside0.mk (Kd.R_after (ok := (fun _ => True)) (by (with_reducible repeat (first | apply Kd.R_alloc | apply Kd.R_drewN | apply Kd.R_drew)); exact Kd.R_mono HO_6.out (fun _ hk => ⟨trivial, hk⟩)) hg hat); have n1_ := Aside0.mk (hb); have n2_ := Aside0.mk (ho); clear HO_6; clear HB; clear HO_7; have HO_6 := n0_; have HB := n1_; have HO122 := n2_; clear n0_ n1_ n2_; clear ho hb hg hat))
                        repeat (go_quiet (first | ((with_reducible refine gate_builtin (b := .append) (xs := #[.tmp 50, .tmp 57]) rfl ?_); (try (refine gate_guard (by rfl) ?_; dsimp only)); at_builtin; refine Kd.R_append (Kd.int .i64) (w0 := w) w.heap.size rfl (.tmp 50) (.tmp 57) 25 3 (.int .i64 0) 8 rfl Try.underlying25 info3 rfl (by decide) (by omega) u7 x7_3 (wrap64 (Int.tmod (rd l1 x9_3) 6)) [.int .i64 (wrap64 (Int.tmod (rd l1 x9_3) 6))] (fun k_ => some k_ ≠ (u6 : Value).ownBlock) (fun _ => False) rfl rfl ?aP (fun _ hk => hk.elim) ?aF ?aO ?aB ?aS ?aL ?_; (case aP => exact rfl); (case aB => exact (by repeat (first | (with_reducible first | exact HB.out | apply below_alloc | apply pw_below_drewN | apply below_drew1) | exact HB.out))); (case aF => exact (fun k_ hk => Kd.fresh' (Kd.R_lt (by (with_reducible repeat (first | apply Kd.R_alloc | apply Kd.R_drewN | apply Kd.R_drew)); exact HO_6.out)) k_ hk)); (case aO => exact (by (with_reducible repeat (first | apply Kd.R_alloc | apply Kd.R_drewN | apply Kd.R_drew)); exact HO_7.out)); (case aS => exact (below_size (by repeat (first | (with_reducible first | exact HB.out | apply below_alloc | apply pw_below_drewN | apply below_drew1) | exact HB.out)))); (case aL => have := LMc14.out; omega); intro v121 w15 ho hb hg hat; rw [← Ny120.out] at ho; have n0_ := Aside0.mk (Kd.R_after (ok := (fun _ => True)) (by (with_reducible repeat (first | apply Kd.R_alloc | apply Kd.R_drewN | apply Kd.R_drew)); exact Kd.R_mono HO_6.out (fun _ hk => ⟨trivial, hk⟩)) hg hat); have n1_ := Aside0.mk (hb); have n2_ := Aside0.mk (ho); clear HO_6; clear HB; clear HO_7; have HO_6 := n0_; have HB := n1_; have HO122 := n2_; clear n0_ n1_ n2_; clear ho hb hg hat)); try go_wp2_with (first | ((with_reducible refine gate_builtin (b := .append) (xs := #[.tmp 50, .tmp 57]) rfl ?_); (try (refine gate_guard (by rfl) ?_; dsimp only)); at_builtin; refine Kd.R_append (Kd.int .i64) (w0 := w) w.heap.size rfl (.tmp 50) (.tmp 57) 25 3 (.int .i64 0) 8 rfl Try.underlying25 info3 rfl (by decide) (by omega) u7 x7_3 (wrap64 (Int.tmod (rd l1 x9_3) 6)) [.int .i64 (wrap64 (Int.tmod (rd l1 x9_3) 6))] (fun k_ => some k_ ≠ (u6 : Value).ownBlock) (fun _ => False) rfl rfl ?aP (fun _ hk => hk.elim) ?aF ?aO ?aB ?aS ?aL ?_; (case aP => exact rfl); (case aB => exact (by repeat (first | (with_reducible first | exact HB.out | apply below_alloc | apply pw_below_drewN | apply below_drew1) | exact HB.out))); (case aF => exact (fun k_ hk => Kd.fresh' (Kd.R_lt (by (with_reducible repeat (first | apply Kd.R_alloc | apply Kd.R_drewN | apply Kd.R_drew)); exact HO_6.out)) k_ hk)); (case aO => exact (by (with_reducible repeat (first | apply Kd.R_alloc | apply Kd.R_drewN | apply Kd.R_drew)); exact HO_7.out)); (case aS => exact (below_size (by repeat (first | (with_reducible first | exact HB.out | apply below_alloc | apply pw_below_drewN | apply below_drew1) | exact HB.out)))); (case aL => have := LMc14.out; omega); intro v121 w15 ho hb hg hat; rw [← Ny120.out] at ho; have n0_ := Aside0.mk (Kd.R_after (ok := (fun _ => True)) (by (with_reducible repeat (first | apply Kd.R_alloc | apply Kd.R_drewN | apply Kd.R_drew)); exact Kd.R_mono HO_6.out (fun _ hk => ⟨trivial, hk⟩)) hg hat); have n1_ := Aside0.mk (hb); have n2_ := Aside0.mk (ho); clear HO_6; clear HB; clear HO_7; have HO_6 := n0_; have HB := n1_; have HO122 := n2_; clear n0_ n1_ n2_; clear ho hb hg hat)))
                        go_roundg k3
                        case measure => have := HJ3.out; have := HK2.out; have := HK3.out; omega
                        case rel => exact ⟨(y120), (wrap64 (x9_3 + 1)), (by first | rfl | (simp; done) | (simp [*]; done)), H', ⟨by have := HJ3.out; have := HK2.out; have := HK3.out; omega⟩, ⟨by (with_reducible repeat (first | apply Kd.R_alloc | apply Kd.R_drewN | apply Kd.R_drew)); exact Kd.R_mono HO_6.out (fun _ hk => hk.2)⟩, ⟨by (with_reducible repeat (first | apply Kd.R_alloc | apply Kd.R_drewN | apply Kd.R_drew)); exact HO122.out⟩, ⟨by repeat (first | (with_reducible first | exact HB.out | apply below_alloc | apply pw_below_drewN | apply below_drew1) | exact HB.out)⟩⟩
                      · rw [if_neg c14] at H
                        exact absurd H (by simp)
                    · rw [if_neg c13] at H
                      exact absurd H (by simp)
                  · rw [if_neg c12] at H
                    have c12b0 : decide (x9_3 < (l1.length : Int)) = false := decide_eq_false c12
                    clear c12
                    replace H := Option.bind_eq_some_iff.mp H
                    obtain ⟨⟨t123, t124⟩, A160, H⟩ := H
                    replace H : ((status_Walk.f k3 x7_3).bind fun bt125 => ((some (([] : List Int) : List Int)).bind fun y127 => (if y127.length + x6_2.length < 17592186044416 then ((some (y127 ++ x6_2 : List Int)).bind fun y130 => (if y130.length + x7_3.length < 17592186044416 then ((status_Walk.f k3 (y130 ++ x7_3)).bind fun bt136 => (if (x6_2.length : Int) = 0 then (catafalquelaw09_StatusWalks.j3 k3 t114 x6_2 t123 t124 bt125.2 bt136.2 true) else (if (x7_3.length : Int) = 0 then (catafalquelaw09_StatusWalks.j3 k3 t114 x6_2 t123 t124 bt125.2 bt136.2 true) else (if 0 ≤ (wrap64 ((x6_2.length : Int) - 1)) then (if (wrap64 ((x6_2.length : Int) - 1)) < (x6_2.length : Int) then (if 0 < (x7_3.length : Int) then ((status_May.f k3 (rd x6_2 (wrap64 ((x6_2.length : Int) - 1))) (rd x7_3 0)).bind fun t140 => (catafalquelaw09_StatusWalks.j3 k3 t114 x6_2 t123 t124 bt125.2 bt136.2 t140)) else (none)) else (none)) else (none))))) else (none))) else (none)))) = some r := H
                    have A16 := Aside0.mk A160
                    clear A160
                    replace H := Option.bind_eq_some_iff.mp H
                    obtain ⟨⟨t125, t126⟩, A170, H⟩ := H
                    replace H : ((some (([] : List Int) : List Int)).bind fun y127 => (if y127.length + x6_2.length < 17592186044416 then ((some (y127 ++ x6_2 : List Int)).bind fun y130 => (if y130.length + x7_3.length < 17592186044416 then ((status_Walk.f k3 (y130 ++ x7_3)).bind fun bt136 => (if (x6_2.length : Int) = 0 then (catafalquelaw09_StatusWalks.j3 k3 t114 x6_2 t123 t124 t126 bt136.2 true) else (if (x7_3.length : Int) = 0 then (catafalquelaw09_StatusWalks.j3 k3 t114 x6_2 t123 t124 t126 bt136.2 true) else (if 0 ≤ (wrap64 ((x6_2.length : Int) - 1)) then (if (wrap64 ((x6_2.length : Int) - 1)) < (x6_2.length : Int) then (if 0 < (x7_3.length : Int) then ((status_May.f k3 (rd x6_2 (wrap64 ((x6_2.length : Int) - 1))) (rd x7_3 0)).bind fun t140 => (catafalquelaw09_StatusWalks.j3 k3 t114 x6_2 t123 t124 t126 bt136.2 t140)) else (none)) else (none)) else (none))))) else (none))) else (none))) = some r := H
                    have A17 := Aside0.mk A170
                    clear A170
                    obtain ⟨y127, hy127⟩ : ∃ y_ : List Int, y_ = (([] : List Int)) := ⟨_, rfl⟩
                    replace H : (if y127.length + x6_2.length < 17592186044416 then ((some (y127 ++ x6_2 : List Int)).bind fun y130 => (if y130.length + x7_3.length < 17592186044416 then ((status_Walk.f k3 (y130 ++ x7_3)).bind fun bt136 => (if (x6_2.length : Int) = 0 then (catafalquelaw09_StatusWalks.j3 k3 t114 x6_2 t123 t124 t126 bt136.2 true) else (if (x7_3.length : Int) = 0 then (catafalquelaw09_StatusWalks.j3 k3 t114 x6_2 t123 t124 t126 bt136.2 true) else (if 0 ≤ (wrap64 ((x6_2.length : Int) - 1)) then (if (wrap64 ((x6_2.length : Int) - 1)) < (x6_2.length : Int) then (if 0 < (x7_3.length : Int) then ((status_May.f k3 (rd x6_2 (wrap64 ((x6_2.length : Int) - 1))) (rd x7_3 0)).bind fun t140 => (catafalquelaw09_StatusWalks.j3 k3 t114 x6_2 t123 t124 t126 bt136.2 t140)) else (none)) else (none)) else (none))))) else (none))) else (none)) = some r := by first | (rw [hy127]; with_reducible exact H) | (have H2_ := (Option.bind_some _ _).symm.trans H; rw [hy127]; with_reducible exact H2_) | (have H2_ := (Option.bind_some _ _).symm.trans H; with_reducible exact H2_) | with_reducible exact H | (rw [hy127]; exact H) | exact H
                    have Ny127 := Aside0.mk hy127
                    clear hy127
                    by_cases c18 : y127.length + x6_2.length < 17592186044416
                    · rw [if_pos c18] at H
                      have LMc18 := Aside0.mk c18
                      clear c18
                      obtain ⟨y130, hy130⟩ : ∃ y_ : List Int, y_ = (y127 ++ x6_2) := ⟨_, rfl⟩
                      replace H : (if y130.length + x7_3.length < 17592186044416 then ((status_Walk.f k3 (y130 ++ x7_3)).bind fun bt136 => (if (x6_2.length : Int) = 0 then (catafalquelaw09_StatusWalks.j3 k3 t114 x6_2 t123 t124 t126 bt136.2 true) else (if (x7_3.length : Int) = 0 then (catafalquelaw09_StatusWalks.j3 k3 t114 x6_2 t123 t124 t126 bt136.2 true) else (if 0 ≤ (wrap64 ((x6_2.length : Int) - 1)) then (if (wrap64 ((x6_2.length : Int) - 1)) < (x6_2.length : Int) then (if 0 < (x7_3.length : Int) then ((status_May.f k3 (rd x6_2 (wrap64 ((x6_2.length : Int) - 1))) (rd x7_3 0)).bind fun t140 => (catafalquelaw09_StatusWalks.j3 k3 t114 x6_2 t123 t124 t126 bt136.2 t140)) else (none)) else (none)) else (none))))) else (none)) = some r := by first | (rw [hy130]; with_reducible exact H) | (have H2_ := (Option.bind_some _ _).symm.trans H; rw [hy130]; with_reducible exact H2_) | (have H2_ := (Option.bind_some _ _).symm.trans H; with_reducible exact H2_) | with_reducible exact H | (rw [hy130]; exact H) | exact H
                      have Ny130 := Aside0.mk hy130
                      clear hy130
                      by_cases c19 : y130.length + x7_3.length < 17592186044416
                      · rw [if_pos c19] at H
                        have LMc19 := Aside0.mk c19
                        clear c19
                        obtain ⟨y133, hy133⟩ : ∃ y_ : List Int, y_ = (y130 ++ x7_3) := ⟨_, rfl⟩
                        replace H : ((status_Walk.f k3 y133).bind fun bt136 => (if (x6_2.length : Int) = 0 then (catafalquelaw09_StatusWalks.j3 k3 t114 x6_2 t123 t124 t126 bt136.2 true) else (if (x7_3.length : Int) = 0 then (catafalquelaw09_StatusWalks.j3 k3 t114 x6_2 t123 t124 t126 bt136.2 true) else (if 0 ≤ (wrap64 ((x6_2.length : Int) - 1)) then (if (wrap64 ((x6_2.length : Int) - 1)) < (x6_2.length : Int) then (if 0 < (x7_3.length : Int) then ((status_May.f k3 (rd x6_2 (wrap64 ((x6_2.length : Int) - 1))) (rd x7_3 0)).bind fun t140 => (catafalquelaw09_StatusWalks.j3 k3 t114 x6_2 t123 t124 t126 bt136.2 t140)) else (none)) else (none)) else (none))))) = some r := by first | (rw [hy133]; with_reducible exact H) | (have H2_ := (Option.bind_some _ _).symm.trans H; rw [hy133]; with_reducible exact H2_) | (have H2_ := (Option.bind_some _ _).symm.trans H; with_reducible exact H2_) | with_reducible exact H | (rw [hy133]; exact H) | exact H
                        have Ny133 := Aside0.mk hy133
                        clear hy133
                        replace H := Option.bind_eq_some_iff.mp H
                        obtain ⟨⟨t136, t137⟩, A200, H⟩ := H
                        replace H : (if (x6_2.length : Int) = 0 then (catafalquelaw09_StatusWalks.j3 k3 t114 x6_2 t123 t124 t126 t137 true) else (if (x7_3.length : Int) = 0 then (catafalquelaw09_StatusWalks.j3 k3 t114 x6_2 t123 t124 t126 t137 true) else (if 0 ≤ (wrap64 ((x6_2.length : Int) - 1)) then (if (wrap64 ((x6_2.length : Int) - 1)) < (x6_2.length : Int) then (if 0 < (x7_3.length : Int) then ((status_May.f k3 (rd x6_2 (wrap64 ((x6_2.length : Int) - 1))) (rd x7_3 0)).bind fun t140 => (catafalquelaw09_StatusWalks.j3 k3 t114 x6_2 t123 t124 t126 t137 t140)) else (none)) else (none)) else (none)))) = some r := H
                        have A20 := Aside0.mk A200
                        clear A200
                        have HC21 := Aside0.mk H
                        clear H
                        obtain ⟨Ao22, co22, eo22⟩ := Kd.R_slice HO_6.out
                        subst eo22
                        go_upto_region 17 with (first | (go_at_call 23; (with_reducible refine (status_Walk.calls k3 _ _ x6_2 t123 t124 _ ?side1 ?side2 A16.out).mono ?_); (case side1 => repeat (first | exact (Kd.R_reads' HO_6.out).2.2 | (with_reducible refine Kd.C_alloc ?_ _) | (with_reducible refine Kd.C_drewN ?_ _) | (with_reducible refine Kd.C_drew ?_))); (case side2 => exact (Kd.R_reads' HO_6.out).2.1); rintro e w' ⟨rfl, ⟨nd, rfl⟩⟩; (try first | exact ⟨rfl, _, World.drewN_drewN _ _ _⟩ | exact ⟨rfl, _, Eq.trans (World.drewN_drewN _ _ _) (congrArg (World.drewN _) (Nat.add_assoc _ _ _))⟩); obtain ⟨Ao23, co23, eo23⟩ := Kd.R_slice HO_7.out; subst eo23) | (go_at_call 23; (with_reducible refine (status_Walk.calls k3 _ _ x7_3 t125 t126 _ ?side1 ?side2 A17.out).mono ?_); (case side1 => repeat (first | exact (Kd.R_reads' HO_7.out).2.2 | (with_reducible refine Kd.C_alloc ?_ _) | (with_reducible refine Kd.C_drewN ?_ _) | (with_reducible refine Kd.C_drew ?_))); (case side2 => exact (Kd.R_reads' HO_7.out).2.1); rintro e w' ⟨rfl, ⟨nd, rfl⟩⟩; (try first | exact ⟨rfl, _, World.drewN_drewN _ _ _⟩ | exact ⟨rfl, _, Eq.trans (World.drewN_drewN _ _ _) (congrArg (World.drewN _) (Nat.add_assoc _ _ _))⟩)) | ((with_reducible refine gate_dst (N := 70) rfl ?_); (try (refine gate_guard (by rfl) ?_; dsimp only)); refine Kd.R_lit (Kd.int .i64) _ 3 ?hg (N := 70) ?hd (xs := ([] : List Int)) (inner := []) (ok := fun _ => True) (okp := fun _ => True) ?hr ?hp (fun _ hk => hk) trivial (Below.refl _ _) (Nat.le_refl _) (by simp) ?_; (case hd => rfl); (case hg => rfl); (case hr => first | (go_simp; done) | (go_simp; rfl)); (case hp => exact (Reps.none _ _)); intro v128 w24 ho25 hb hg_ hnew_; clear hg_ hnew_; (first | rw [← Ny127.out] at ho25 | (simp only [Int.reduceToNat] at ho25; rw [← Ny127.out] at ho25)); have n0_ := Aside0.mk (Kd.R_elder' (by (with_reducible repeat (first | apply Kd.R_alloc | apply Kd.R_drewN | apply Kd.R_drew)); exact HO_6.out) (Kd.R_base ho25) hb); have n1_ := Aside0.mk (Kd.R_elder' (by (with_reducible repeat (first | apply Kd.R_alloc | apply Kd.R_drewN | apply Kd.R_drew)); exact HO_7.out) (Kd.R_base ho25) hb); have n2_ := Aside0.mk (Kd.R_lower (Kd.R_new' (Kd.R_new' ho25 (Kd.R_lt (by (with_reducible repeat (first | apply Kd.R_alloc | apply Kd.R_drewN | apply Kd.R_drew)); exact HO_6.out))) (Kd.R_lt (by (with_reducible repeat (first | apply Kd.R_alloc | apply Kd.R_drewN | apply Kd.R_drew)); exact HO_7.out))) (below_size (by repeat (first | (with_reducible first | exact HB.out | apply below_alloc | apply pw_below_drewN | apply below_drew1) | exact HB.out)))); have n3_ := Aside0.mk (below_step (by repeat (first | (with_reducible first | exact HB.out | apply below_alloc | apply pw_below_drewN | apply below_drew1) | exact HB.out)) hb); clear HO_6; clear HO_7; clear HB; have HO_6 := n0_; have HO_7 := n1_; have HO129 := n2_; have HB := n3_; clear n0_ n1_ n2_ n3_; clear hb ho25) | ((with_reducible refine gate_builtin (b := .append) (xs := #[.tmp 70, .tmp 71]) rfl ?_); (try (refine gate_guard (by rfl) ?_; dsimp only)); at_builtin; refine Kd.R_append_rows (Kd.int .i64) (w0 := w) w.heap.size rfl (.tmp 70) (.tmp 71) 25 3 (.int .i64 0) 8 rfl Try.underlying25 info3 rfl (by decide) (by omega) v128 y127 x6_2 _ _ _ (fun k_ => some k_ ≠ (.slice Ao22 x6_2.length co22 : Value).ownBlock ∧ some k_ ≠ (.slice Ao23 x7_3.length co23 : Value).ownBlock) (fun _ => False) rfl rfl ?aO ?aR (fun _ _ h => h) (fun _ h => h.elim) ?aF ?aB ?aS ?aL ?_; (case aR => repeat (first | exact (Kd.R_reads' HO_6.out).2.2 | (with_reducible refine Kd.C_alloc ?_ _) | (with_reducible refine Kd.C_drewN ?_ _) | (with_reducible refine Kd.C_drew ?_))); (case aB => exact (by repeat (first | (with_reducible first | exact HB.out | apply below_alloc | apply pw_below_drewN | apply below_drew1) | exact HB.out))); (case aF => exact (fun k_ hk => ⟨Kd.fresh' (Kd.R_lt (by (with_reducible repeat (first | apply Kd.R_alloc | apply Kd.R_drewN | apply Kd.R_drew)); exact HO_6.out)) k_ hk, Kd.fresh' (Kd.R_lt (by (with_reducible repeat (first | apply Kd.R_alloc | apply Kd.R_drewN | apply Kd.R_drew)); exact HO_7.out)) k_ hk⟩)); (case aO => exact (by (with_reducible repeat (first | apply Kd.R_alloc | apply Kd.R_drewN | apply Kd.R_drew)); exact Kd.R_mono HO129.out (fun _ hk => ⟨hk.1.2, hk.2⟩))); (case aS => exact (below_size (by repeat (first | (with_reducible first | exact HB.out | apply below_alloc | apply pw_below_drewN | apply below_drew1) | exact HB.out)))); (case aL => have := LMc18.out; omega); intro v131 w26 ho hb hg hat; rw [← Ny130.out] at ho; have n0_ := Aside0.mk (Kd.R_after (ok := (fun k_ => some k_ ≠ (.slice Ao23 x7_3.length co23 : Value).ownBlock)) (by (with_reducible repeat (first | apply Kd.R_alloc | apply Kd.R_drewN | apply Kd.R_drew)); exact HO_6.out) hg hat); have n1_ := Aside0.mk (Kd.R_after (ok := (fun k_ => some k_ ≠ (.slice Ao22 x6_2.length co22 : Value).ownBlock)) (by (with_reducible repeat (first | apply Kd.R_alloc | apply Kd.R_drewN | apply Kd.R_drew)); exact HO_7.out) hg hat); have n2_ := Aside0.mk (hb); have n3_ := Aside0.mk (ho); clear HO_6; clear HO_7; clear HB; clear HO129; have HO_6 := n0_; have HO_7 := n1_; have HB := n2_; have HO132 := n3_; clear n0_ n1_ n2_ n3_; clear ho hb hg hat) | ((with_reducible refine gate_builtin (b := .append) (xs := #[.tmp 72, .tmp 73]) rfl ?_); (try (refine gate_guard (by rfl) ?_; dsimp only)); at_builtin; refine Kd.R_append_rows (Kd.int .i64) (w0 := w) w.heap.size rfl (.tmp 72) (.tmp 73) 25 3 (.int .i64 0) 8 rfl Try.underlying25 info3 rfl (by decide) (by omega) v131 y130 x7_3 _ _ _ (fun k_ => some k_ ≠ (.slice Ao22 x6_2.length co22 : Value).ownBlock ∧ some k_ ≠ (.slice Ao23 x7_3.length co23 : Value).ownBlock) (fun _ => False) rfl rfl ?aO ?aR (fun _ _ h => h) (fun _ h => h.elim) ?aF ?aB ?aS ?aL ?_; (case aR => repeat (first | exact (Kd.R_reads' HO_7.out).2.2 | (with_reducible refine Kd.C_alloc ?_ _) | (with_reducible refine Kd.C_drewN ?_ _) | (with_reducible refine Kd.C_drew ?_))); (case aB => exact (by repeat (first | (with_reducible first | exact HB.out | apply below_alloc | apply pw_below_drewN | apply below_drew1) | exact HB.out))); (case aF => exact (fun k_ hk => ⟨Kd.fresh' (Kd.R_lt (by (with_reducible repeat (first | apply Kd.R_alloc | apply Kd.R_drewN | apply Kd.R_drew)); exact HO_6.out)) k_ hk, Kd.fresh' (Kd.R_lt (by (with_reducible repeat (first | apply Kd.R_alloc | apply Kd.R_drewN | apply Kd.R_drew)); exact HO_7.out)) k_ hk⟩)); (case aO => exact (by (with_reducible repeat (first | apply Kd.R_alloc | apply Kd.R_drewN | apply Kd.R_drew)); exact HO132.out)); (case aS => exact (below_size (by repeat (first | (with_reducible first | exact HB.out | apply below_alloc | apply pw_below_drewN | apply below_drew1) | exact HB.out)))); (case aL => have := LMc19.out; omega); intro v134 w27 ho hb hg hat; rw [← Ny133.out] at ho; have n0_ := Aside0.mk (Kd.R_after (ok := (fun k_ => some k_ ≠ (.slice Ao23 x7_3.length co23 : Value).ownBlock)) (by (with_reducible repeat (first | apply Kd.R_alloc | apply Kd.R_drewN | apply Kd.R_drew)); exact HO_6.out) hg hat); have n1_ := Aside0.mk (Kd.R_after (ok := (fun k_ => some k_ ≠ (.slice Ao22 x6_2.length co22 : Value).ownBlock)) (by (with_reducible repeat (first | apply Kd.R_alloc | apply Kd.R_drewN | apply Kd.R_drew)); exact HO_7.out) hg hat); have n2_ := Aside0.mk (hb); have n3_ := Aside0.mk (ho); clear HO_6; clear HO_7; clear HB; clear HO132; have HO_6 := n0_; have HO_7 := n1_; have HB := n2_; have HO135 := n3_; clear n0_ n1_ n2_ n3_; clear ho hb hg hat; obtain ⟨Ao28, co28, eo28⟩ := Kd.R_slice HO135.out; subst eo28) | (go_at_call 23; (with_reducible refine (status_Walk.calls k3 _ _ y133 t136 t137 _ ?side1 ?side2 A20.out).mono ?_); (case side1 => repeat (first | exact (Kd.R_reads' HO135.out).2.2 | (with_reducible refine Kd.C_alloc ?_ _) | (with_reducible refine Kd.C_drewN ?_ _) | (with_reducible refine Kd.C_drew ?_))); (case side2 => exact (Kd.R_reads' HO135.out).2.1); rintro e w' ⟨rfl, ⟨nd, rfl⟩⟩; (try first | exact ⟨rfl, _, World.drewN_drewN _ _ _⟩ | exact ⟨rfl, _, Eq.trans (World.drewN_drewN _ _ _) (congrArg (World.drewN _) (Nat.add_assoc _ _ _))⟩)))
                        repeat (go_quiet (first | (go_at_call 23; (with_reducible refine (status_Walk.calls k3 _ _ x6_2 t123 t124 _ ?side1 ?side2 A16.out).mono ?_); (case side1 => repeat (first | exact (Kd.R_reads' HO_6.out).2.2 | (with_reducible refine Kd.C_alloc ?_ _) | (with_reducible refine Kd.C_drewN ?_ _) | (with_reducible refine Kd.C_drew ?_))); (case side2 => exact (Kd.R_reads' HO_6.out).2.1); rintro e w' ⟨rfl, ⟨nd, rfl⟩⟩; (try first | exact ⟨rfl, _, World.drewN_drewN _ _ _⟩ | exact ⟨rfl, _, Eq.trans (World.drewN_drewN _ _ _) (congrArg (World.drewN _) (Nat.add_assoc _ _ _))⟩); obtain ⟨Ao23, co23, eo23⟩ := Kd.R_slice HO_7.out; subst eo23) | (go_at_call 23; (with_reducible refine (status_Walk.calls k3 _ _ x7_3 t125 t126 _ ?side1 ?side2 A17.out).mono ?_); (case side1 => repeat (first | exact (Kd.R_reads' HO_7.out).2.2 | (with_reducible refine Kd.C_alloc ?_ _) | (with_reducible refine Kd.C_drewN ?_ _) | (with_reducible refine Kd.C_drew ?_))); (case side2 => exact (Kd.R_reads' HO_7.out).2.1); rintro e w' ⟨rfl, ⟨nd, rfl⟩⟩; (try first | exact ⟨rfl, _, World.drewN_drewN _ _ _⟩ | exact ⟨rfl, _, Eq.trans (World.drewN_drewN _ _ _) (congrArg (World.drewN _) (Nat.add_assoc _ _ _))⟩)) | ((with_reducible refine gate_dst (N := 70) rfl ?_); (try (refine gate_guard (by rfl) ?_; dsimp only)); refine Kd.R_lit (Kd.int .i64) _ 3 ?hg (N := 70) ?hd (xs := ([] : List Int)) (inner := []) (ok := fun _ => True) (okp := fun _ => True) ?hr ?hp (fun _ hk => hk) trivial (Below.refl _ _) (Nat.le_refl _) (by simp) ?_; (case hd => rfl); (case hg => rfl); (case hr => first | (go_simp; done) | (go_simp; rfl)); (case hp => exact (Reps.none _ _)); intro v128 w24 ho25 hb hg_ hnew_; clear hg_ hnew_; (first | rw [← Ny127.out] at ho25 | (simp only [Int.reduceToNat] at ho25; rw [← Ny127.out] at ho25)); have n0_ := Aside0.mk (Kd.R_elder' (by (with_reducible repeat (first | apply Kd.R_alloc | apply Kd.R_drewN | apply Kd.R_drew)); exact HO_6.out) (Kd.R_base ho25) hb); have n1_ := Aside0.mk (Kd.R_elder' (by (with_reducible repeat (first | apply Kd.R_alloc | apply Kd.R_drewN | apply Kd.R_drew)); exact HO_7.out) (Kd.R_base ho25) hb); have n2_ := Aside0.mk (Kd.R_lower (Kd.R_new' (Kd.R_new' ho25 (Kd.R_lt (by (with_reducible repeat (first | apply Kd.R_alloc | apply Kd.R_drewN | apply Kd.R_drew)); exact HO_6.out))) (Kd.R_lt (by (with_reducible repeat (first | apply Kd.R_alloc | apply Kd.R_drewN | apply Kd.R_drew)); exact HO_7.out))) (below_size (by repeat (first | (with_reducible first | exact HB.out | apply below_alloc | apply pw_below_drewN | apply below_drew1) | exact HB.out)))); have n3_ := Aside0.mk (below_step (by repeat (first | (with_reducible first | exact HB.out | apply below_alloc | apply pw_below_drewN | apply below_drew1) | exact HB.out)) hb); clear HO_6; clear HO_7; clear HB; have HO_6 := n0_; have HO_7 := n1_; have HO129 := n2_; have HB := n3_; clear n0_ n1_ n2_ n3_; clear hb ho25) | ((with_reducible refine gate_builtin (b := .append) (xs := #[.tmp 70, .tmp 71]) rfl ?_); (try (refine gate_guard (by rfl) ?_; dsimp only)); at_builtin; refine Kd.R_append_rows (Kd.int .i64) (w0 := w) w.heap.size rfl (.tmp 70) (.tmp 71) 25 3 (.int .i64 0) 8 rfl Try.underlying25 info3 rfl (by decide) (by omega) v128 y127 x6_2 _ _ _ (fun k_ => some k_ ≠ (.slice Ao22 x6_2.length co22 : Value).ownBlock ∧ some k_ ≠ (.slice Ao23 x7_3.length co23 : Value).ownBlock) (fun _ => False) rfl rfl ?aO ?aR (fun _ _ h => h) (fun _ h => h.elim) ?aF ?aB ?aS ?aL ?_; (case aR => repeat (first | exact (Kd.R_reads' HO_6.out).2.2 | (with_reducible refine Kd.C_alloc ?_ _) | (with_reducible refine Kd.C_drewN ?_ _) | (with_reducible refine Kd.C_drew ?_))); (case aB => exact (by repeat (first | (with_reducible first | exact HB.out | apply below_alloc | apply pw_below_drewN | apply below_drew1) | exact HB.out))); (case aF => exact (fun k_ hk => ⟨Kd.fresh' (Kd.R_lt (by (with_reducible repeat (first | apply Kd.R_alloc | apply Kd.R_drewN | apply Kd.R_drew)); exact HO_6.out)) k_ hk, Kd.fresh' (Kd.R_lt (by (with_reducible repeat (first | apply Kd.R_alloc | apply Kd.R_drewN | apply Kd.R_drew)); exact HO_7.out)) k_ hk⟩)); (case aO => exact (by (with_reducible repeat (first | apply Kd.R_alloc | apply Kd.R_drewN | apply Kd.R_drew)); exact Kd.R_mono HO129.out (fun _ hk => ⟨hk.1.2, hk.2⟩))); (case aS => exact (below_size (by repeat (first | (with_reducible first | exact HB.out | apply below_alloc | apply pw_below_drewN | apply below_drew1) | exact HB.out)))); (case aL => have := LMc18.out; omega); intro v131 w26 ho hb hg hat; rw [← Ny130.out] at ho; have n0_ := Aside0.mk (Kd.R_after (ok := (fun k_ => some k_ ≠ (.slice Ao23 x7_3.length co23 : Value).ownBlock)) (by (with_reducible repeat (first | apply Kd.R_alloc | apply Kd.R_drewN | apply Kd.R_drew)); exact HO_6.out) hg hat); have n1_ := Aside0.mk (Kd.R_after (ok := (fun k_ => some k_ ≠ (.slice Ao22 x6_2.length co22 : Value).ownBlock)) (by (with_reducible repeat (first | apply Kd.R_alloc | apply Kd.R_drewN | apply Kd.R_drew)); exact HO_7.out) hg hat); have n2_ := Aside0.mk (hb); have n3_ := Aside0.mk (ho); clear HO_6; clear HO_7; clear HB; clear HO129; have HO_6 := n0_; have HO_7 := n1_; have HB := n2_; have HO132 := n3_; clear n0_ n1_ n2_ n3_; clear ho hb hg hat) | ((with_reducible refine gate_builtin (b := .append) (xs := #[.tmp 72, .tmp 73]) rfl ?_); (try (refine gate_guard (by rfl) ?_; dsimp only)); at_builtin; refine Kd.R_append_rows (Kd.int .i64) (w0 := w) w.heap.size rfl (.tmp 72) (.tmp 73) 25 3 (.int .i64 0) 8 rfl Try.underlying25 info3 rfl (by decide) (by omega) v131 y130 x7_3 _ _ _ (fun k_ => some k_ ≠ (.slice Ao22 x6_2.length co22 : Value).ownBlock ∧ some k_ ≠ (.slice Ao23 x7_3.length co23 : Value).ownBlock) (fun _ => False) rfl rfl ?aO ?aR (fun _ _ h => h) (fun _ h => h.elim) ?aF ?aB ?aS ?aL ?_; (case aR => repeat (first | exact (Kd.R_reads' HO_7.out).2.2 | (with_reducible refine Kd.C_alloc ?_ _) | (with_reducible refine Kd.C_drewN ?_ _) | (with_reducible refine Kd.C_drew ?_))); (case aB => exact (by repeat (first | (with_reducible first | exact HB.out | apply below_alloc | apply pw_below_drewN | apply below_drew1) | exact HB.out))); (case aF => exact (fun k_ hk => ⟨Kd.fresh' (Kd.R_lt (by (with_reducible repeat (first | apply Kd.R_alloc | apply Kd.R_drewN | apply Kd.R_drew)); exact HO_6.out)) k_ hk, Kd.fresh' (Kd.R_lt (by (with_reducible repeat (first | apply Kd.R_alloc | apply Kd.R_drewN | apply Kd.R_drew)); exact HO_7.out)) k_ hk⟩)); (case aO => exact (by (with_reducible repeat (first | apply Kd.R_alloc | apply Kd.R_drewN | apply Kd.R_drew)); exact HO132.out)); (case aS => exact (below_size (by repeat (first | (with_reducible first | exact HB.out | apply below_alloc | apply pw_below_drewN | apply below_drew1) | exact HB.out)))); (case aL => have := LMc19.out; omega); intro v134 w27 ho hb hg hat; rw [← Ny133.out] at ho; have n0_ := Aside0.mk (Kd.R_after (ok := (fun k_ => some k_ ≠ (.slice Ao23 x7_3.length co23 : Value).ownBlock)) (by (with_reducible repeat (first | apply Kd.R_alloc | apply Kd.R_drewN | apply Kd.R_drew)); exact HO_6.out) hg hat); have n1_ := Aside0.mk (Kd.R_after (ok := (fun k_ => some k_ ≠ (.slice Ao22 x6_2.length co22 : Value).ownBlock)) (by (with_reducible repeat (first | apply Kd.R_alloc | apply Kd.R_drewN | apply Kd.R_drew)); exact HO_7.out) hg hat); have n2_ := Aside0.mk (hb); have n3_ := Aside0.mk (ho); clear HO_6; clear HO_7; clear HB; clear HO132; have HO_6 := n0_; have HO_7 := n1_; have HB := n2_; have HO135 := n3_; clear n0_ n1_ n2_ n3_; clear ho hb hg hat; obtain ⟨Ao28, co28, eo28⟩ := Kd.R_slice HO135.out; subst eo28) | (go_at_call 23; (with_reducible refine (status_Walk.calls k3 _ _ y133 t136 t137 _ ?side1 ?side2 A20.out).mono ?_); (case side1 => repeat (first | exact (Kd.R_reads' HO135.out).2.2 | (with_reducible refine Kd.C_alloc ?_ _) | (with_reducible refine Kd.C_drewN ?_ _) | (with_reducible refine Kd.C_drew ?_))); (case side2 => exact (Kd.R_reads' HO135.out).2.1); rintro e w' ⟨rfl, ⟨nd, rfl⟩⟩; (try first | exact ⟨rfl, _, World.drewN_drewN _ _ _⟩ | exact ⟨rfl, _, Eq.trans (World.drewN_drewN _ _ _) (congrArg (World.drewN _) (Nat.add_assoc _ _ _))⟩))); go_upto_region 17 with (first | (go_at_call 23; (with_reducible refine (status_Walk.calls k3 _ _ x6_2 t123 t124 _ ?side1 ?side2 A16.out).mono ?_); (case side1 => repeat (first | exact (Kd.R_reads' HO_6.out).2.2 | (with_reducible refine Kd.C_alloc ?_ _) | (with_reducible refine Kd.C_drewN ?_ _) | (with_reducible refine Kd.C_drew ?_))); (case side2 => exact (Kd.R_reads' HO_6.out).2.1); rintro e w' ⟨rfl, ⟨nd, rfl⟩⟩; (try first | exact ⟨rfl, _, World.drewN_drewN _ _ _⟩ | exact ⟨rfl, _, Eq.trans (World.drewN_drewN _ _ _) (congrArg (World.drewN _) (Nat.add_assoc _ _ _))⟩); obtain ⟨Ao23, co23, eo23⟩ := Kd.R_slice HO_7.out; subst eo23) | (go_at_call 23; (with_reducible refine (status_Walk.calls k3 _ _ x7_3 t125 t126 _ ?side1 ?side2 A17.out).mono ?_); (case side1 => repeat (first | exact (Kd.R_reads' HO_7.out).2.2 | (with_reducible refine Kd.C_alloc ?_ _) | (with_reducible refine Kd.C_drewN ?_ _) | (with_reducible refine Kd.C_drew ?_))); (case side2 => exact (Kd.R_reads' HO_7.out).2.1); rintro e w' ⟨rfl, ⟨nd, rfl⟩⟩; (try first | exact ⟨rfl, _, World.drewN_drewN _ _ _⟩ | exact ⟨rfl, _, Eq.trans (World.drewN_drewN _ _ _) (congrArg (World.drewN _) (Nat.add_assoc _ _ _))⟩)) | ((with_reducible refine gate_dst (N := 70) rfl ?_); (try (refine gate_guard (by rfl) ?_; dsimp only)); refine Kd.R_lit (Kd.int .i64) _ 3 ?hg (N := 70) ?hd (xs := ([] : List Int)) (inner := []) (ok := fun _ => True) (okp := fun _ => True) ?hr ?hp (fun _ hk => hk) trivial (Below.refl _ _) (Nat.le_refl _) (by simp) ?_; (case hd => rfl); (case hg => rfl); (case hr => first | (go_simp; done) | (go_simp; rfl)); (case hp => exact (Reps.none _ _)); intro v128 w24 ho25 hb hg_ hnew_; clear hg_ hnew_; (first | rw [← Ny127.out] at ho25 | (simp only [Int.reduceToNat] at ho25; rw [← Ny127.out] at ho25)); have n0_ := Aside0.mk (Kd.R_elder' (by (with_reducible repeat (first | apply Kd.R_alloc | apply Kd.R_drewN | apply Kd.R_drew)); exact HO_6.out) (Kd.R_base ho25) hb); have n1_ := Aside0.mk (Kd.R_elder' (by (with_reducible repeat (first | apply Kd.R_alloc | apply Kd.R_drewN | apply Kd.R_drew)); exact HO_7.out) (Kd.R_base ho25) hb); have n2_ := Aside0.mk (Kd.R_lower (Kd.R_new' (Kd.R_new' ho25 (Kd.R_lt (by (with_reducible repeat (first | apply Kd.R_alloc | apply Kd.R_drewN | apply Kd.R_drew)); exact HO_6.out))) (Kd.R_lt (by (with_reducible repeat (first | apply Kd.R_alloc | apply Kd.R_drewN | apply Kd.R_drew)); exact HO_7.out))) (below_size (by repeat (first | (with_reducible first | exact HB.out | apply below_alloc | apply pw_below_drewN | apply below_drew1) | exact HB.out)))); have n3_ := Aside0.mk (below_step (by repeat (first | (with_reducible first | exact HB.out | apply below_alloc | apply pw_below_drewN | apply below_drew1) | exact HB.out)) hb); clear HO_6; clear HO_7; clear HB; have HO_6 := n0_; have HO_7 := n1_; have HO129 := n2_; have HB := n3_; clear n0_ n1_ n2_ n3_; clear hb ho25) | ((with_reducible refine gate_builtin (b := .append) (xs := #[.tmp 70, .tmp 71]) rfl ?_); (try (refine gate_guard (by rfl) ?_; dsimp only)); at_builtin; refine Kd.R_append_rows (Kd.int .i64) (w0 := w) w.heap.size rfl (.tmp 70) (.tmp 71) 25 3 (.int .i64 0) 8 rfl Try.underlying25 info3 rfl (by decide) (by omega) v128 y127 x6_2 _ _ _ (fun k_ => some k_ ≠ (.slice Ao22 x6_2.length co22 : Value).ownBlock ∧ some k_ ≠ (.slice Ao23 x7_3.length co23 : Value).ownBlock) (fun _ => False) rfl rfl ?aO ?aR (fun _ _ h => h) (fun _ h => h.elim) ?aF ?aB ?aS ?aL ?_; (case aR => repeat (first | exact (Kd.R_reads' HO_6.out).2.2 | (with_reducible refine Kd.C_alloc ?_ _) | (with_reducible refine Kd.C_drewN ?_ _) | (with_reducible refine Kd.C_drew ?_))); (case aB => exact (by repeat (first | (with_reducible first | exact HB.out | apply below_alloc | apply pw_below_drewN | apply below_drew1) | exact HB.out))); (case aF => exact (fun k_ hk => ⟨Kd.fresh' (Kd.R_lt (by (with_reducible repeat (first | apply Kd.R_alloc | apply Kd.R_drewN | apply Kd.R_drew)); exact HO_6.out)) k_ hk, Kd.fresh' (Kd.R_lt (by (with_reducible repeat (first | apply Kd.R_alloc | apply Kd.R_drewN | apply Kd.R_drew)); exact HO_7.out)) k_ hk⟩)); (case aO => exact (by (with_reducible repeat (first | apply Kd.R_alloc | apply Kd.R_drewN | apply Kd.R_drew)); exact Kd.R_mono HO129.out (fun _ hk => ⟨hk.1.2, hk.2⟩))); (case aS => exact (below_size (by repeat (first | (with_reducible first | exact HB.out | apply below_alloc | apply pw_below_drewN | apply below_drew1) | exact HB.out)))); (case aL => have := LMc18.out; omega); intro v131 w26 ho hb hg hat; rw [← Ny130.out] at ho; have n0_ := Aside0.mk (Kd.R_after (ok := (fun k_ => some k_ ≠ (.slice Ao23 x7_3.length co23 : Value).ownBlock)) (by (with_reducible repeat (first | apply Kd.R_alloc | apply Kd.R_drewN | apply Kd.R_drew)); exact HO_6.out) hg hat); have n1_ := Aside0.mk (Kd.R_after (ok := (fun k_ => some k_ ≠ (.slice Ao22 x6_2.length co22 : Value).ownBlock)) (by (with_reducible repeat (first | apply Kd.R_alloc | apply Kd.R_drewN | apply Kd.R_drew)); exact HO_7.out) hg hat); have n2_ := Aside0.mk (hb); have n3_ := Aside0.mk (ho); clear HO_6; clear HO_7; clear HB; clear HO129; have HO_6 := n0_; have HO_7 := n1_; have HB := n2_; have HO132 := n3_; clear n0_ n1_ n2_ n3_; clear ho hb hg hat) | ((with_reducible refine gate_builtin (b := .append) (xs := #[.tmp 72, .tmp 73]) rfl ?_); (try (refine gate_guard (by rfl) ?_; dsimp only)); at_builtin; refine Kd.R_append_rows (Kd.int .i64) (w0 := w) w.heap.size rfl (.tmp 72) (.tmp 73) 25 3 (.int .i64 0) 8 rfl Try.underlying25 info3 rfl (by decide) (by omega) v131 y130 x7_3 _ _ _ (fun k_ => some k_ ≠ (.slice Ao22 x6_2.length co22 : Value).ownBlock ∧ some k_ ≠ (.slice Ao23 x7_3.length co23 : Value).ownBlock) (fun _ => False) rfl rfl ?aO ?aR (fun _ _ h => h) (fun _ h => h.elim) ?aF ?aB ?aS ?aL ?_; (case aR => repeat (first | exact (Kd.R_reads' HO_7.out).2.2 | (with_reducible refine Kd.C_alloc ?_ _) | (with_reducible refine Kd.C_drewN ?_ _) | (with_reducible refine Kd.C_drew ?_))); (case aB => exact (by repeat (first | (with_reducible first | exact HB.out | apply below_alloc | apply pw_below_drewN | apply below_drew1) | exact HB.out))); (case aF => exact (fun k_ hk => ⟨Kd.fresh' (Kd.R_lt (by (with_reducible repeat (first | apply Kd.R_alloc | apply Kd.R_drewN | apply Kd.R_drew)); exact HO_6.out)) k_ hk, Kd.fresh' (Kd.R_lt (by (with_reducible repeat (first | apply Kd.R_alloc | apply Kd.R_drewN | apply Kd.R_drew)); exact HO_7.out)) k_ hk⟩)); (case aO => exact (by (with_reducible repeat (first | apply Kd.R_alloc | apply Kd.R_drewN | apply Kd.R_drew)); exact HO132.out)); (case aS => exact (below_size (by repeat (first | (with_reducible first | exact HB.out | apply below_alloc | apply pw_below_drewN | apply below_drew1) | exact HB.out)))); (case aL => have := LMc19.out; omega); intro v134 w27 ho hb hg hat; rw [← Ny133.out] at ho; have n0_ := Aside0.mk (Kd.R_after (ok := (fun k_ => some k_ ≠ (.slice Ao23 x7_3.length co23 : Value).ownBlock)) (by (with_reducible repeat (first | apply Kd.R_alloc | apply Kd.R_drewN | apply Kd.R_drew)); exact HO_6.out) hg hat); have n1_ := Aside0.mk (Kd.R_after (ok := (fun k_ => some k_ ≠ (.slice Ao22 x6_2.length co22 : Value).ownBlock)) (by (with_reducible repeat (first | apply Kd.R_alloc | apply Kd.R_drewN | apply Kd.R_drew)); exact HO_7.out) hg hat); have n2_ := Aside0.mk (hb); have n3_ := Aside0.mk (ho); clear HO_6; clear HO_7; clear HB; clear HO132; have HO_6 := n0_; have HO_7 := n1_; have HB := n2_; have HO135 := n3_; clear n0_ n1_ n2_ n3_; clear ho hb hg hat; obtain ⟨Ao28, co28, eo28⟩ := Kd.R_slice HO135.out; subst eo28) | (go_at_call 23; (with_reducible refine (status_Walk.calls k3 _ _ y133 t136 t137 _ ?side1 ?side2 A20.out).mono ?_); (case side1 => repeat (first | exact (Kd.R_reads' HO135.out).2.2 | (with_reducible refine Kd.C_alloc ?_ _) | (with_reducible refine Kd.C_drewN ?_ _) | (with_reducible refine Kd.C_drew ?_))); (case side2 => exact (Kd.R_reads' HO135.out).2.1); rintro e w' ⟨rfl, ⟨nd, rfl⟩⟩; (try first | exact ⟨rfl, _, World.drewN_drewN _ _ _⟩ | exact ⟨rfl, _, Eq.trans (World.drewN_drewN _ _ _) (congrArg (World.drewN _) (Nat.add_assoc _ _ _))⟩))))
                        (try simp only [Act.put, List.setIfInBounds_toArray, List.set_cons_zero, List.set_cons_succ])
                        go_cut [16] (fun v16 wc => ∃ (kq : Nat) (x16_20 : Bool), v16 = .bool x16_20 ∧ Aside0 (catafalquelaw09_StatusWalks.j3 kq t114 x6_2 t123 t124 t126 t137 x16_20 = some r) ∧ Aside0 (kq ≤ k3) ∧ Aside0 (Kd.R (Kd.int .i64) 3 wc w.heap.size (fun _ => True) (.slice Ao22 x6_2.length co22) x6_2) ∧ Aside0 (Below w.heap.size w wc))
                        case first =>
                          have H := HC21.out
                          clear HC21
                          by_cases c29 : (x6_2.length : Int) = 0
                          · rw [if_pos c29] at H
                            have c29b0 : ((x6_2.length : Int) == 0) = true := beq_iff_eq.mpr c29
                            have c29b1 : ((x6_2.length : Int) != 0) = false := bne_eq_false_iff_eq.mpr c29
                            clear c29
                            (first | rw [c29b0] | (simp only [i64_w, i32_w]; rw [c29b0]) | skip)
                            have H' := Aside0.mk H
                            clear H
                            go_wp2
                            repeat (go_quiet (fail); try go_wp2)
                            go_meet
                            case rel => exact ⟨_, (true), (by first | rfl | (simp; done) | (simp [*]; done)), H', ⟨by have := HJ3.out; have := HK2.out; have := HK3.out; first | omega | exact Nat.le_refl _⟩, ⟨by (with_reducible repeat (first | apply Kd.R_alloc | apply Kd.R_drewN | apply Kd.R_drew)); exact Kd.R_mono HO_6.out (fun _ hk => trivial)⟩, ⟨by repeat (first | (with_reducible first | exact HB.out | apply below_alloc | apply pw_below_drewN | apply below_drew1) | exact HB.out)⟩⟩
                          · rw [if_neg c29] at H
                            have c29b0 : ((x6_2.length : Int) == 0) = false := beq_eq_false_iff_ne.mpr c29
                            have c29b1 : ((x6_2.length : Int) != 0) = true := bne_iff_ne.mpr c29
                            have c29b2 : ¬ (x6_2 = []) := fun h_ => c29 (by rw [h_]; rfl)
                            (first | rw [c29b0] | (simp only [i64_w, i32_w]; rw [c29b0]) | skip)
                            by_cases c30 : (x7_3.length : Int) = 0
                            · rw [if_pos c30] at H
                              have c30b0 : ((x7_3.length : Int) == 0) = true := beq_iff_eq.mpr c30
                              have c30b1 : ((x7_3.length : Int) != 0) = false := bne_eq_false_iff_eq.mpr c30
                              clear c30
                              have H' := Aside0.mk H
                              clear H
                              go_wp2
                              repeat (go_quiet (fail); try go_wp2)
                              go_meet
                              case rel => exact ⟨_, (true), (by first | rfl | (simp; done) | (simp [*]; done)), H', ⟨by have := HJ3.out; have := HK2.out; have := HK3.out; first | omega | exact Nat.le_refl _⟩, ⟨by (with_reducible repeat (first | apply Kd.R_alloc | apply Kd.R_drewN | apply Kd.R_drew)); exact Kd.R_mono HO_6.out (fun _ hk => trivial)⟩, ⟨by repeat (first | (with_reducible first | exact HB.out | apply below_alloc | apply pw_below_drewN | apply below_drew1) | exact HB.out)⟩⟩
                            · rw [if_neg c30] at H
                              have c30b0 : ((x7_3.length : Int) == 0) = false := beq_eq_false_iff_ne.mpr c30
                              have c30b1 : ((x7_3.length : Int) != 0) = true := bne_iff_ne.mpr c30
                              have c30b2 : ¬ (x7_3 = []) := fun h_ => c30 (by rw [h_]; rfl)
                              obtain ⟨ji31, hji31⟩ : ∃ j_ : Int, (wrap64 ((x6_2.length : Int) - 1)) = j_ := ⟨_, rfl⟩
                              replace H : (if 0 ≤ (ji31) then (if (ji31) < (x6_2.length : Int) then (if 0 < (x7_3.length : Int) then ((status_May.f k3 (rd x6_2 (ji31)) (rd x7_3 0)).bind fun t140 => (catafalquelaw09_StatusWalks.j3 k3 t114 x6_2 t123 t124 t126 t137 t140)) else (none)) else (none)) else (none)) = some r := by first | (rw [hji31] at H; exact H) | (simp only [hji31] at H ⊢; exact H)
                              have hji31w : (IntKind.i64.wrap ((x6_2.length : Int) - 1)) = ji31 := (i64_w _).trans hji31
                              by_cases c32 : 0 ≤ (ji31)
                              · rw [if_pos c32] at H
                                have c32b0 : decide (0 ≤ (ji31)) = true := decide_eq_true c32
                                clear c32
                                by_cases c33 : (ji31) < (x6_2.length : Int)
                                · rw [if_pos c33] at H
                                  have c33b0 : decide ((ji31) < (x6_2.length : Int)) = true := decide_eq_true c33
                                  clear c33
                                  by_cases c34 : 0 < (x7_3.length : Int)
                                  · rw [if_pos c34] at H
                                    have c34b0 : decide (0 < (x7_3.length : Int)) = true := decide_eq_true c34
                                    have c34b1 : decide (0 < x7_3.length) = true := decide_eq_true (by omega)
                                    clear c34
                                    replace H := Option.bind_eq_some_iff.mp H
                                    obtain ⟨t140, A350, H⟩ := H
                                    replace H : (catafalquelaw09_StatusWalks.j3 k3 t114 x6_2 t123 t124 t126 t137 t140) = some r := H
                                    have A35 := Aside0.mk A350
                                    clear A350
                                    have H' := Aside0.mk H
                                    clear H
                                    have p138 : 0 ≤ ((ji31) : Int) := of_decide_eq_true (by first | (with_reducible assumption) | assumption)
                                    have q138 : (ji31) < (x6_2.length : Int) := of_decide_eq_true (by first | (with_reducible assumption) | assumption)
                                    obtain ⟨ad138, e138, hx138_0⟩ := Kd.at_int (Kd.R_reads' HO_6.out).2.2 (ji31) p138 q138
                                    cases e138
                                    replace p138 := eq_true p138
                                    replace q138 := eq_true q138
                                    have p139 : 0 ≤ (0 : Int) := (by omega)
                                    have q139 : 0 < (x7_3.length : Int) := of_decide_eq_true (by first | (with_reducible assumption) | assumption)
                                    obtain ⟨ad139, e139, hx139_0⟩ := Kd.at_int (Kd.R_reads' HO_7.out).2.2 0 p139 q139
                                    cases e139
                                    have qi139 : (0 < x7_3.length) = True := eq_true (by omega)
                                    (try rw [show ((0 : Int)).toNat = 0 from rfl] at hx139_0)
                                    (try rw [Addr.add_zero'] at hx139_0)
                                    replace p139 := eq_true p139
                                    replace q139 := eq_true q139
                                    go_wp2_with (first | (go_at_call 21; (with_reducible refine (status_May.calls k3 (rd x6_2 (ji31)) (rd x7_3 0) t140 _ A35.out).mono ?_); rintro e w' ⟨rfl, ⟨nd, rfl⟩⟩; (try first | exact ⟨rfl, _, World.drewN_drewN _ _ _⟩ | exact ⟨rfl, _, Eq.trans (World.drewN_drewN _ _ _) (congrArg (World.drewN _) (Nat.add_assoc _ _ _))⟩)))
                                    repeat (go_quiet (first | (go_at_call 21; (with_reducible refine (status_May.calls k3 (rd x6_2 (ji31)) (rd x7_3 0) t140 _ A35.out).mono ?_); rintro e w' ⟨rfl, ⟨nd, rfl⟩⟩; (try first | exact ⟨rfl, _, World.drewN_drewN _ _ _⟩ | exact ⟨rfl, _, Eq.trans (World.drewN_drewN _ _ _) (congrArg (World.drewN _) (Nat.add_assoc _ _ _))⟩))); try go_wp2_with (first | (go_at_call 21; (with_reducible refine (status_May.calls k3 (rd x6_2 (ji31)) (rd x7_3 0) t140 _ A35.out).mono ?_); rintro e w' ⟨rfl, ⟨nd, rfl⟩⟩; (try first | exact ⟨rfl, _, World.drewN_drewN _ _ _⟩ | exact ⟨rfl, _, Eq.trans (World.drewN_drewN _ _ _) (congrArg (World.drewN _) (Nat.add_assoc _ _ _))⟩))))
                                    go_meet
                                    case rel => exact ⟨_, (t140), (by first | rfl | (simp; done) | (simp [*]; done)), H', ⟨by have := HJ3.out; have := HK2.out; have := HK3.out; first | omega | exact Nat.le_refl _⟩, ⟨by (with_reducible repeat (first | apply Kd.R_alloc | apply Kd.R_drewN | apply Kd.R_drew)); exact Kd.R_mono HO_6.out (fun _ hk => trivial)⟩, ⟨by repeat (first | (with_reducible first | exact HB.out | apply below_alloc | apply pw_below_drewN | apply below_drew1) | exact HB.out)⟩⟩
                                  · rw [if_neg c34] at H
                                    exact absurd H (by simp)
                                · rw [if_neg c33] at H
                                  exact absurd H (by simp)
                              · rw [if_neg c32] at H
                                exact absurd H (by simp)
                        case rest =>
                          clear HC21
                          try clear c1
                          try clear p1
                          try clear q1
                          try clear hx1
                          try clear qi1
                          try clear c2
                          try clear p2
                          try clear c3
                          try clear c6
                          try clear c6b0
                          try clear c6b1
                          try clear p6
                          try clear c7
                          try clear c8
                          try clear c8b0
                          try clear c9
                          try clear c9b0
                          try clear c10
                          try clear p11
                          try clear q11
                          try clear hx11
                          try clear c12
                          try clear c12b0
                          try clear c13
                          try clear c13b0
                          try clear p13
                          try clear q13
                          try clear hx13
                          try clear qi13
                          try clear c14
                          try clear c18
                          try clear c19
                          try clear c29
                          try clear c29b0
                          try clear c29b1
                          try clear c29b2
                          try clear c30
                          try clear c30b0
                          try clear c30b1
                          try clear c30b2
                          try clear c32
                          try clear c32b0
                          try clear c33
                          try clear c33b0
                          try clear c34
                          try clear c34b0
                          try clear c34b1
                          try clear hx115_0
                          try clear hx119_0
                          try clear hx138_0
                          try clear hx139_0
                          try clear p1
                          try clear p11
                          try clear p115
                          try clear p119
                          try clear p138
                          try clear p139
                          try clear p2
                          try clear p6
                          try clear q1
                          try clear q11
                          try clear q115
                          try clear q119
                          try clear q138
                          try clear q139
                          obtain ⟨kq, x16_20, rfl, HA, HJ20, HO_6, HB⟩ := hcut
                          cases kq with
                          | zero => exact absurd HA.out (by simp [catafalquelaw09_StatusWalks.j3])
                          | succ kj20 =>
                            have H := HA.out
                            clear HA
                            simp only [catafalquelaw09_StatusWalks.j3] at H
                            have HC36 := Aside0.mk H
                            clear H
                            go_upto_region 18 with (fail)
                            repeat (go_quiet (fail); go_upto_region 18 with (fail))
                            go_cut [113] (fun v113 wc => ∃ (kq : Nat) (x113_35 : Bool), v113 = .bool x113_35 ∧ Aside0 (catafalquelaw09_StatusWalks.j4 kq t114 x6_2 t123 t124 t126 t137 x16_20 x113_35 = some r) ∧ Aside0 (kq ≤ kj20) ∧ Aside0 (Kd.R (Kd.int .i64) 3 wc w.heap.size (fun _ => True) (.slice Ao22 x6_2.length co22) x6_2) ∧ Aside0 (Below w.heap.size w wc))
                            case first =>
                              have H := HC36.out
                              clear HC36
                              by_cases c37 : t123 < 0
                              · rw [if_pos c37] at H
                                have c37b0 : decide (t123 < 0) = true := decide_eq_true c37
                                clear c37
                                (first | rw [c37b0] | (simp only [i64_w, i32_w]; rw [c37b0]) | skip)
                                have H' := Aside0.mk H
                                clear H
                                go_wp2
                                repeat (go_quiet (fail); try go_wp2)
                                go_meet
                                case rel => exact ⟨_, (true), (by first | rfl | (simp; done) | (simp [*]; done)), H', ⟨by have := HJ3.out; have := HK2.out; have := HK3.out; have := HJ20.out; first | omega | exact Nat.le_refl _⟩, ⟨by (with_reducible repeat (first | apply Kd.R_alloc | apply Kd.R_drewN | apply Kd.R_drew)); exact HO_6.out⟩, ⟨by repeat (first | (with_reducible first | exact HB.out | apply below_alloc | apply pw_below_drewN | apply below_drew1) | exact HB.out)⟩⟩
                              · rw [if_neg c37] at H
                                have c37b0 : decide (t123 < 0) = false := decide_eq_false c37
                                clear c37
                                (first | rw [c37b0] | (simp only [i64_w, i32_w]; rw [c37b0]) | skip)
                                by_cases c38 : t123 > (x6_2.length : Int)
                                · rw [if_pos c38] at H
                                  have c38b0 : decide ((x6_2.length : Int) < t123) = true := decide_eq_true c38
                                  clear c38
                                  have H' := Aside0.mk H
                                  clear H
                                  go_wp2
                                  repeat (go_quiet (fail); try go_wp2)
                                  go_meet
                                  case rel => exact ⟨_, (true), (by first | rfl | (simp; done) | (simp [*]; done)), H', ⟨by have := HJ3.out; have := HK2.out; have := HK3.out; have := HJ20.out; first | omega | exact Nat.le_refl _⟩, ⟨by (with_reducible repeat (first | apply Kd.R_alloc | apply Kd.R_drewN | apply Kd.R_drew)); exact HO_6.out⟩, ⟨by repeat (first | (with_reducible first | exact HB.out | apply below_alloc | apply pw_below_drewN | apply below_drew1) | exact HB.out)⟩⟩
                                · rw [if_neg c38] at H
                                  have c38b0 : decide ((x6_2.length : Int) < t123) = false := decide_eq_false c38
                                  clear c38
                                  have H' := Aside0.mk H
                                  clear H
                                  go_wp2
                                  repeat (go_quiet (fail); try go_wp2)
                                  go_meet
                                  case rel => exact ⟨_, ((t124 != (t123 == (x6_2.length : Int)))), (by first | rfl | (simp; done) | (simp [*]; done)), H', ⟨by have := HJ3.out; have := HK2.out; have := HK3.out; have := HJ20.out; first | omega | exact Nat.le_refl _⟩, ⟨by (with_reducible repeat (first | apply Kd.R_alloc | apply Kd.R_drewN | apply Kd.R_drew)); exact HO_6.out⟩, ⟨by repeat (first | (with_reducible first | exact HB.out | apply below_alloc | apply pw_below_drewN | apply below_drew1) | exact HB.out)⟩⟩
                            case rest =>
                              clear HC36
                              try clear c1
                              try clear p1
                              try clear q1
                              try clear hx1
                              try clear qi1
                              try clear c2
                              try clear p2
                              try clear c3
                              try clear c6
                              try clear c6b0
                              try clear c6b1
                              try clear p6
                              try clear c7
                              try clear c8
                              try clear c8b0
                              try clear c9
                              try clear c9b0
                              try clear c10
                              try clear p11
                              try clear q11
                              try clear hx11
                              try clear c12
                              try clear c12b0
                              try clear c13
                              try clear c13b0
                              try clear p13
                              try clear q13
                              try clear hx13
                              try clear qi13
                              try clear c14
                              try clear c18
                              try clear c19
                              try clear c29
                              try clear c29b0
                              try clear c29b1
                              try clear c29b2
                              try clear c30
                              try clear c30b0
                              try clear c30b1
                              try clear c30b2
                              try clear c32
                              try clear c32b0
                              try clear c33
                              try clear c33b0
                              try clear c34
                              try clear c34b0
                              try clear c34b1
                              try clear c37
                              try clear c37b0
                              try clear c38
                              try clear c38b0
                              try clear hx115_0
                              try clear hx119_0
                              try clear hx138_0
                              try clear hx139_0
                              try clear p1
                              try clear p11
                              try clear p115
                              try clear p119
                              try clear p13
                              try clear p138
                              try clear p139
                              try clear p2
                              try clear p6
                              try clear q1
                              try clear q11
                              try clear q115
                              try clear q119
                              try clear q13
                              try clear q138
                              try clear q139
                              obtain ⟨kq, x113_35, rfl, HA, HJ35, HO_6, HB⟩ := hcut
                              cases kq with
                              | zero => exact absurd HA.out (by simp [catafalquelaw09_StatusWalks.j4])
                              | succ kj35 =>
                                have H := HA.out
                                clear HA
                                simp only [catafalquelaw09_StatusWalks.j4] at H
                                by_cases c39 : x113_35 = true
                                · subst c39
                                  have H1 : (some false) = some r := by rw [if_pos rfl] at H; exact H
                                  clear H
                                  have H := H1
                                  clear H1
                                  obtain rfl := Option.some.inj H
                                  go_wp2
                                  repeat (go_quiet (fail); try go_wp2)
                                  go_ret
                                  exact ⟨by first | rfl | (simp only [catafalquelaw09_StatusWalks.nn, catafalquelaw09_StatusWalks.nm] <;> rfl) | (simp [errW_none, errW_some] <;> rfl) | (simp [*, errW_none, errW_some] <;> rfl), by repeat (first | (with_reducible first | exact HB.out | apply below_alloc | apply pw_below_drewN | apply below_drew1) | exact HB.out)⟩
                                · replace c39 := Bool.eq_false_iff.mpr c39
                                  subst c39
                                  have H1 : (if 0 ≤ (mn (wrap64 (t123 + 1)) (x6_2.length : Int)) then (if (mn (wrap64 (t123 + 1)) (x6_2.length : Int)) ≤ (x6_2.length : Int) then ((status_Walk.f kj35 (x6_2.take ((mn (wrap64 (t123 + 1)) (x6_2.length : Int)) : Int).toNat)).bind fun bt145 => (if t114 = true then (if t124 = true then (if t126 = true then (if (t137 == x16_20) = true then (some true) else (some false)) else (if (t137 == false) = true then (some true) else (some false))) else (if (t137 == false) = true then (if 0 ≤ t123 then (if t123 < (x6_2.length : Int) then ((status_Name.f (rd x6_2 t123)).bind fun t148 => (some (bt145.2 == (t148.toList != ([] : List UInt8))))) else (none)) else (none)) else (some false))) else (some false))) else (none)) else (none)) = some r := by rw [if_neg (show ¬ (false = true) by decide)] at H; exact H
                                  clear H
                                  have H := H1
                                  clear H1
                                  obtain ⟨ji40, hji40⟩ : ∃ j_ : Int, (mn (wrap64 (t123 + 1)) (x6_2.length : Int)) = j_ := ⟨_, rfl⟩
                                  replace H : (if 0 ≤ (ji40) then (if (ji40) ≤ (x6_2.length : Int) then ((status_Walk.f kj35 (x6_2.take ((ji40) : Int).toNat)).bind fun bt145 => (if t114 = true then (if t124 = true then (if t126 = true then (if (t137 == x16_20) = true then (some true) else (some false)) else (if (t137 == false) = true then (some true) else (some false))) else (if (t137 == false) = true then (if 0 ≤ t123 then (if t123 < (x6_2.length : Int) then ((status_Name.f (rd x6_2 t123)).bind fun t148 => (some (bt145.2 == (t148.toList != ([] : List UInt8))))) else (none)) else (none)) else (some false))) else (some false))) else (none)) else (none)) = some r := by first | (rw [hji40] at H; exact H) | (simp only [hji40] at H ⊢; exact H)
                                  have hji40_ : (if (x6_2.length : Int) < (wrap64 (t123 + 1)) then (x6_2.length : Int) else (wrap64 (t123 + 1))) = ji40 := hji40
                                  by_cases c41 : 0 ≤ (ji40)
                                  · rw [if_pos c41] at H
                                    have c41b0 := eq_true c41
                                    have c41b1 : decide (0 ≤ (ji40)) = true := decide_eq_true c41
                                    clear c41
                                    by_cases c42 : (ji40) ≤ (x6_2.length : Int)
                                    · rw [if_pos c42] at H
                                      have c42b0 := eq_true c42
                                      have c42b1 : decide ((ji40) ≤ (x6_2.length : Int)) = true := decide_eq_true c42
                                      clear c42
                                      obtain ⟨y141, hy141⟩ : ∃ y_ : List Int, y_ = (x6_2.take ((ji40) : Int).toNat) := ⟨_, rfl⟩
                                      replace H : ((status_Walk.f kj35 y141).bind fun bt145 => (if t114 = true then (if t124 = true then (if t126 = true then (if (t137 == x16_20) = true then (some true) else (some false)) else (if (t137 == false) = true then (some true) else (some false))) else (if (t137 == false) = true then (if 0 ≤ t123 then (if t123 < (x6_2.length : Int) then ((status_Name.f (rd x6_2 t123)).bind fun t148 => (some (bt145.2 == (t148.toList != ([] : List UInt8))))) else (none)) else (none)) else (some false))) else (some false))) = some r := by first | (rw [hy141]; with_reducible exact H) | (have H2_ := (Option.bind_some _ _).symm.trans H; rw [hy141]; with_reducible exact H2_) | (have H2_ := (Option.bind_some _ _).symm.trans H; with_reducible exact H2_) | with_reducible exact H | (rw [hy141]; exact H) | exact H
                                      have Ny141 := Aside0.mk hy141
                                      clear hy141
                                      replace H := Option.bind_eq_some_iff.mp H
                                      obtain ⟨⟨t145, t146⟩, A430, H⟩ := H
                                      replace H : (if t114 = true then (if t124 = true then (if t126 = true then (if (t137 == x16_20) = true then (some true) else (some false)) else (if (t137 == false) = true then (some true) else (some false))) else (if (t137 == false) = true then (if 0 ≤ t123 then (if t123 < (x6_2.length : Int) then ((status_Name.f (rd x6_2 t123)).bind fun t148 => (some (t146 == (t148.toList != ([] : List UInt8))))) else (none)) else (none)) else (some false))) else (some false)) = some r := H
                                      have A43 := Aside0.mk A430
                                      clear A430
                                      by_cases c44 : t114 = true
                                      · subst c44
                                        have H1 : (if t124 = true then (if t126 = true then (if (t137 == x16_20) = true then (some true) else (some false)) else (if (t137 == false) = true then (some true) else (some false))) else (if (t137 == false) = true then (if 0 ≤ t123 then (if t123 < (x6_2.length : Int) then ((status_Name.f (rd x6_2 t123)).bind fun t148 => (some (t146 == (t148.toList != ([] : List UInt8))))) else (none)) else (none)) else (some false))) = some r := by rw [if_pos rfl] at H; exact H
                                        clear H
                                        have H := H1
                                        clear H1
                                        by_cases c45 : t124 = true
                                        · subst c45
                                          have H1 : (if t126 = true then (if (t137 == x16_20) = true then (some true) else (some false)) else (if (t137 == false) = true then (some true) else (some false))) = some r := by rw [if_pos rfl] at H; exact H
                                          clear H
                                          have H := H1
                                          clear H1
                                          by_cases c46 : t126 = true
                                          · subst c46
                                            have H1 : (if (t137 == x16_20) = true then (some true) else (some false)) = some r := by rw [if_pos rfl] at H; exact H
                                            clear H
                                            have H := H1
                                            clear H1
                                            by_cases c47 : (t137 == x16_20) = true
                                            · rw [if_pos c47] at H
                                              have c47b0 : (t137 == x16_20) = true := c47
                                              (try (have c47b1 : decide (t137 = x16_20) = true := by simpa using c47))
                                              (try (have c47b2 : (t137 == x16_20) = true := by simpa using c47))
                                              clear c47
                                              obtain rfl := Option.some.inj H
                                              have q48 : ((ji40) : Int) ≤ ((x6_2.length : Int) : Int) := of_decide_eq_true (by first | (with_reducible assumption) | assumption)
                                              obtain ⟨i048, hi048, _, hsz48, _⟩ := info_parts info3
                                              have hroom48 : x6_2.length ≤ co22 := (Kd.R_reads' HO_6.out).2.1
                                              have hC48 : Kd.C (Kd.int .i64) _ Ao22 x6_2.length x6_2 := (Kd.R_reads' HO_6.out).2.2
                                              have hcut48 := cut_to (P := Try.prog) 25 3 .i64 Try.underlying25 hi048 Ao22 x6_2.length co22 (ji40) (of_decide_eq_true (by first | (with_reducible assumption) | assumption)) q48 hroom48
                                              have hr48 := Kd.C_take (m := ((ji40) : Int).toNat) hC48 (by omega)
                                              have hy48 : y141.length = ((ji40) : Int).toNat := (by rw [Ny141.out, List.length_take]; omega)
                                              rw [← Ny141.out] at hr48
                                              rw [← hy48] at hcut48
                                              have HR144 := Aside0.mk hr48
                                              have HC144 := Aside0.mk (show y141.length ≤ co22 from by omega)
                                              clear hr48 hC48 hroom48 hi048 hsz48
                                              have KY48 := Aside0.mk hy48
                                              clear hy48
                                              have KL48 := Aside0.mk (show ((ji40) : Int).toNat ≤ x6_2.length from by omega)
                                              replace q48 := eq_true q48
                                              go_wp2_with (first | (go_at_call 23; (with_reducible refine (status_Walk.calls kj35 _ _ y141 t145 t146 _ ?side1 ?side2 A43.out).mono ?_); (case side1 => repeat (first | exact (by repeat (first | (with_reducible exact HR144.out) | (with_reducible refine Kd.C_alloc ?_ _) | (with_reducible refine Kd.C_drewN ?_ _) | (with_reducible refine Kd.C_drew ?_) | exact HR144.out)) | (with_reducible refine Kd.C_alloc ?_ _) | (with_reducible refine Kd.C_drewN ?_ _) | (with_reducible refine Kd.C_drew ?_))); (case side2 => exact HC144.out); rintro e w' ⟨rfl, ⟨nd, rfl⟩⟩; (try first | exact ⟨rfl, _, World.drewN_drewN _ _ _⟩ | exact ⟨rfl, _, Eq.trans (World.drewN_drewN _ _ _) (congrArg (World.drewN _) (Nat.add_assoc _ _ _))⟩)))
                                              repeat (go_quiet (first | (go_at_call 23; (with_reducible refine (status_Walk.calls kj35 _ _ y141 t145 t146 _ ?side1 ?side2 A43.out).mono ?_); (case side1 => repeat (first | exact (by repeat (first | (with_reducible exact HR144.out) | (with_reducible refine Kd.C_alloc ?_ _) | (with_reducible refine Kd.C_drewN ?_ _) | (with_reducible refine Kd.C_drew ?_) | exact HR144.out)) | (with_reducible refine Kd.C_alloc ?_ _) | (with_reducible refine Kd.C_drewN ?_ _) | (with_reducible refine Kd.C_drew ?_))); (case side2 => exact HC144.out); rintro e w' ⟨rfl, ⟨nd, rfl⟩⟩; (try first | exact ⟨rfl, _, World.drewN_drewN _ _ _⟩ | exact ⟨rfl, _, Eq.trans (World.drewN_drewN _ _ _) (congrArg (World.drewN _) (Nat.add_assoc _ _ _))⟩))); try go_wp2_with (first | (go_at_call 23; (with_reducible refine (status_Walk.calls kj35 _ _ y141 t145 t146 _ ?side1 ?side2 A43.out).mono ?_); (case side1 => repeat (first | exact (by repeat (first | (with_reducible exact HR144.out) | (with_reducible refine Kd.C_alloc ?_ _) | (with_reducible refine Kd.C_drewN ?_ _) | (with_reducible refine Kd.C_drew ?_) | exact HR144.out)) | (with_reducible refine Kd.C_alloc ?_ _) | (with_reducible refine Kd.C_drewN ?_ _) | (with_reducible refine Kd.C_drew ?_))); (case side2 => exact HC144.out); rintro e w' ⟨rfl, ⟨nd, rfl⟩⟩; (try first | exact ⟨rfl, _, World.drewN_drewN _ _ _⟩ | exact ⟨rfl, _, Eq.trans (World.drewN_drewN _ _ _) (congrArg (World.drewN _) (Nat.add_assoc _ _ _))⟩))))
                                              go_ret
                                              exact ⟨by first | rfl | (simp only [catafalquelaw09_StatusWalks.nn, catafalquelaw09_StatusWalks.nm] <;> rfl) | (simp [errW_none, errW_some] <;> rfl) | (simp only [← hji40]; first | rfl | (simp [errW_none, errW_some] <;> rfl)) | (simp [*, errW_none, errW_some] <;> rfl), by repeat (first | (with_reducible first | exact HB.out | apply below_alloc | apply pw_below_drewN | apply below_drew1) | exact HB.out)⟩
                                            · rw [if_neg c47] at H
                                              have c47b0 : (t137 == x16_20) = false := by simpa using c47
                                              (try (have c47b1 : decide (t137 = x16_20) = false := by simpa using c47))
                                              (try (have c47b2 : (t137 == x16_20) = false := by simpa using c47))
                                              (try (have c47b3 : ¬ (t137 = x16_20) := by simpa using c47))
                                              clear c47
                                              obtain rfl := Option.some.inj H
                                              have q49 : ((ji40) : Int) ≤ ((x6_2.length : Int) : Int) := of_decide_eq_true (by first | (with_reducible assumption) | assumption)
                                              obtain ⟨i049, hi049, _, hsz49, _⟩ := info_parts info3
                                              have hroom49 : x6_2.length ≤ co22 := (Kd.R_reads' HO_6.out).2.1
                                              have hC49 : Kd.C (Kd.int .i64) _ Ao22 x6_2.length x6_2 := (Kd.R_reads' HO_6.out).2.2
                                              have hcut49 := cut_to (P := Try.prog) 25 3 .i64 Try.underlying25 hi049 Ao22 x6_2.length co22 (ji40) (of_decide_eq_true (by first | (with_reducible assumption) | assumption)) q49 hroom49
                                              have hr49 := Kd.C_take (m := ((ji40) : Int).toNat) hC49 (by omega)
                                              have hy49 : y141.length = ((ji40) : Int).toNat := (by rw [Ny141.out, List.length_take]; omega)
                                              rw [← Ny141.out] at hr49
                                              rw [← hy49] at hcut49
                                              have HR144 := Aside0.mk hr49
                                              have HC144 := Aside0.mk (show y141.length ≤ co22 from by omega)
                                              clear hr49 hC49 hroom49 hi049 hsz49
                                              have KY49 := Aside0.mk hy49
                                              clear hy49
                                              have KL49 := Aside0.mk (show ((ji40) : Int).toNat ≤ x6_2.length from by omega)
                                              replace q49 := eq_true q49
                                              go_wp2_with (first | (go_at_call 23; (with_reducible refine (status_Walk.calls kj35 _ _ y141 t145 t146 _ ?side1 ?side2 A43.out).mono ?_); (case side1 => repeat (first | exact (by repeat (first | (with_reducible exact HR144.out) | (with_reducible refine Kd.C_alloc ?_ _) | (with_reducible refine Kd.C_drewN ?_ _) | (with_reducible refine Kd.C_drew ?_) | exact HR144.out)) | (with_reducible refine Kd.C_alloc ?_ _) | (with_reducible refine Kd.C_drewN ?_ _) | (with_reducible refine Kd.C_drew ?_))); (case side2 => exact HC144.out); rintro e w' ⟨rfl, ⟨nd, rfl⟩⟩; (try first | exact ⟨rfl, _, World.drewN_drewN _ _ _⟩ | exact ⟨rfl, _, Eq.trans (World.drewN_drewN _ _ _) (congrArg (World.drewN _) (Nat.add_assoc _ _ _))⟩)))
                                              repeat (go_quiet (first | (go_at_call 23; (with_reducible refine (status_Walk.calls kj35 _ _ y141 t145 t146 _ ?side1 ?side2 A43.out).mono ?_); (case side1 => repeat (first | exact (by repeat (first | (with_reducible exact HR144.out) | (with_reducible refine Kd.C_alloc ?_ _) | (with_reducible refine Kd.C_drewN ?_ _) | (with_reducible refine Kd.C_drew ?_) | exact HR144.out)) | (with_reducible refine Kd.C_alloc ?_ _) | (with_reducible refine Kd.C_drewN ?_ _) | (with_reducible refine Kd.C_drew ?_))); (case side2 => exact HC144.out); rintro e w' ⟨rfl, ⟨nd, rfl⟩⟩; (try first | exact ⟨rfl, _, World.drewN_drewN _ _ _⟩ | exact ⟨rfl, _, Eq.trans (World.drewN_drewN _ _ _) (congrArg (World.drewN _) (Nat.add_assoc _ _ _))⟩))); try go_wp2_with (first | (go_at_call 23; (with_reducible refine (status_Walk.calls kj35 _ _ y141 t145 t146 _ ?side1 ?side2 A43.out).mono ?_); (case side1 => repeat (first | exact (by repeat (first | (with_reducible exact HR144.out) | (with_reducible refine Kd.C_alloc ?_ _) | (with_reducible refine Kd.C_drewN ?_ _) | (with_reducible refine Kd.C_drew ?_) | exact HR144.out)) | (with_reducible refine Kd.C_alloc ?_ _) | (with_reducible refine Kd.C_drewN ?_ _) | (with_reducible refine Kd.C_drew ?_))); (case side2 => exact HC144.out); rintro e w' ⟨rfl, ⟨nd, rfl⟩⟩; (try first | exact ⟨rfl, _, World.drewN_drewN _ _ _⟩ | exact ⟨rfl, _, Eq.trans (World.drewN_drewN _ _ _) (congrArg (World.drewN _) (Nat.add_assoc _ _ _))⟩))))
                                              go_ret
                                              exact ⟨by first | rfl | (simp only [catafalquelaw09_StatusWalks.nn, catafalquelaw09_StatusWalks.nm] <;> rfl) | (simp [errW_none, errW_some] <;> rfl) | (simp only [← hji40]; first | rfl | (simp [errW_none, errW_some] <;> rfl)) | (simp [*, errW_none, errW_some] <;> rfl), by repeat (first | (with_reducible first | exact HB.out | apply below_alloc | apply pw_below_drewN | apply below_drew1) | exact HB.out)⟩
                                          · replace c46 := Bool.eq_false_iff.mpr c46
                                            subst c46
                                            have H1 : (if (t137 == false) = true then (some true) else (some false)) = some r := by rw [if_neg (show ¬ (false = true) by decide)] at H; exact H
                                            clear H
                                            have H := H1
                                            clear H1
                                            by_cases c50 : (t137 == false) = true
                                            · rw [if_pos c50] at H
                                              have c50b0 : (t137 == false) = true := c50
                                              (try (have c50b1 : decide (t137 = false) = true := by simpa using c50))
                                              (try (have c50b2 : (t137 == false) = true := by simpa using c50))
                                              clear c50
                                              obtain rfl := Option.some.inj H
                                              have q51 : ((ji40) : Int) ≤ ((x6_2.length : Int) : Int) := of_decide_eq_true (by first | (with_reducible assumption) | assumption)
                                              obtain ⟨i051, hi051, _, hsz51, _⟩ := info_parts info3
                                              have hroom51 : x6_2.length ≤ co22 := (Kd.R_reads' HO_6.out).2.1
                                              have hC51 : Kd.C (Kd.int .i64) _ Ao22 x6_2.length x6_2 := (Kd.R_reads' HO_6.out).2.2
                                              have hcut51 := cut_to (P := Try.prog) 25 3 .i64 Try.underlying25 hi051 Ao22 x6_2.length co22 (ji40) (of_decide_eq_true (by first | (with_reducible assumption) | assumption)) q51 hroom51
                                              have hr51 := Kd.C_take (m := ((ji40) : Int).toNat) hC51 (by omega)
                                              have hy51 : y141.length = ((ji40) : Int).toNat := (by rw [Ny141.out, List.length_take]; omega)
                                              rw [← Ny141.out] at hr51
                                              rw [← hy51] at hcut51
                                              have HR144 := Aside0.mk hr51
                                              have HC144 := Aside0.mk (show y141.length ≤ co22 from by omega)
                                              clear hr51 hC51 hroom51 hi051 hsz51
                                              have KY51 := Aside0.mk hy51
                                              clear hy51
                                              have KL51 := Aside0.mk (show ((ji40) : Int).toNat ≤ x6_2.length from by omega)
                                              replace q51 := eq_true q51
                                              go_wp2_with (first | (go_at_call 23; (with_reducible refine (status_Walk.calls kj35 _ _ y141 t145 t146 _ ?side1 ?side2 A43.out).mono ?_); (case side1 => repeat (first | exact (by repeat (first | (with_reducible exact HR144.out) | (with_reducible refine Kd.C_alloc ?_ _) | (with_reducible refine Kd.C_drewN ?_ _) | (with_reducible refine Kd.C_drew ?_) | exact HR144.out)) | (with_reducible refine Kd.C_alloc ?_ _) | (with_reducible refine Kd.C_drewN ?_ _) | (with_reducible refine Kd.C_drew ?_))); (case side2 => exact HC144.out); rintro e w' ⟨rfl, ⟨nd, rfl⟩⟩; (try first | exact ⟨rfl, _, World.drewN_drewN _ _ _⟩ | exact ⟨rfl, _, Eq.trans (World.drewN_drewN _ _ _) (congrArg (World.drewN _) (Nat.add_assoc _ _ _))⟩)))
                                              repeat (go_quiet (first | (go_at_call 23; (with_reducible refine (status_Walk.calls kj35 _ _ y141 t145 t146 _ ?side1 ?side2 A43.out).mono ?_); (case side1 => repeat (first | exact (by repeat (first | (with_reducible exact HR144.out) | (with_reducible refine Kd.C_alloc ?_ _) | (with_reducible refine Kd.C_drewN ?_ _) | (with_reducible refine Kd.C_drew ?_) | exact HR144.out)) | (with_reducible refine Kd.C_alloc ?_ _) | (with_reducible refine Kd.C_drewN ?_ _) | (with_reducible refine Kd.C_drew ?_))); (case side2 => exact HC144.out); rintro e w' ⟨rfl, ⟨nd, rfl⟩⟩; (try first | exact ⟨rfl, _, World.drewN_drewN _ _ _⟩ | exact ⟨rfl, _, Eq.trans (World.drewN_drewN _ _ _) (congrArg (World.drewN _) (Nat.add_assoc _ _ _))⟩))); try go_wp2_with (first | (go_at_call 23; (with_reducible refine (status_Walk.calls kj35 _ _ y141 t145 t146 _ ?side1 ?side2 A43.out).mono ?_); (case side1 => repeat (first | exact (by repeat (first | (with_reducible exact HR144.out) | (with_reducible refine Kd.C_alloc ?_ _) | (with_reducible refine Kd.C_drewN ?_ _) | (with_reducible refine Kd.C_drew ?_) | exact HR144.out)) | (with_reducible refine Kd.C_alloc ?_ _) | (with_reducible refine Kd.C_drewN ?_ _) | (with_reducible refine Kd.C_drew ?_))); (case side2 => exact HC144.out); rintro e w' ⟨rfl, ⟨nd, rfl⟩⟩; (try first | exact ⟨rfl, _, World.drewN_drewN _ _ _⟩ | exact ⟨rfl, _, Eq.trans (World.drewN_drewN _ _ _) (congrArg (World.drewN _) (Nat.add_assoc _ _ _))⟩))))
                                              go_ret
                                              exact ⟨by first | rfl | (simp only [catafalquelaw09_StatusWalks.nn, catafalquelaw09_StatusWalks.nm] <;> rfl) | (simp [errW_none, errW_some] <;> rfl) | (simp only [← hji40]; first | rfl | (simp [errW_none, errW_some] <;> rfl)) | (simp [*, errW_none, errW_some] <;> rfl), by repeat (first | (with_reducible first | exact HB.out | apply below_alloc | apply pw_below_drewN | apply below_drew1) | exact HB.out)⟩
                                            · rw [if_neg c50] at H
                                              have c50b0 : (t137 == false) = false := by simpa using c50
                                              (try (have c50b1 : decide (t137 = false) = false := by simpa using c50))
                                              (try (have c50b2 : (t137 == false) = false := by simpa using c50))
                                              (try (have c50b3 : ¬ (t137 = false) := by simpa using c50))
                                              clear c50
                                              obtain rfl := Option.some.inj H
                                              have q52 : ((ji40) : Int) ≤ ((x6_2.length : Int) : Int) := of_decide_eq_true (by first | (with_reducible assumption) | assumption)
                                              obtain ⟨i052, hi052, _, hsz52, _⟩ := info_parts info3
                                              have hroom52 : x6_2.length ≤ co22 := (Kd.R_reads' HO_6.out).2.1
                                              have hC52 : Kd.C (Kd.int .i64) _ Ao22 x6_2.length x6_2 := (Kd.R_reads' HO_6.out).2.2
                                              have hcut52 := cut_to (P := Try.prog) 25 3 .i64 Try.underlying25 hi052 Ao22 x6_2.length co22 (ji40) (of_decide_eq_true (by first | (with_reducible assumption) | assumption)) q52 hroom52
                                              have hr52 := Kd.C_take (m := ((ji40) : Int).toNat) hC52 (by omega)
                                              have hy52 : y141.length = ((ji40) : Int).toNat := (by rw [Ny141.out, List.length_take]; omega)
                                              rw [← Ny141.out] at hr52
                                              rw [← hy52] at hcut52
                                              have HR144 := Aside0.mk hr52
                                              have HC144 := Aside0.mk (show y141.length ≤ co22 from by omega)
                                              clear hr52 hC52 hroom52 hi052 hsz52
                                              have KY52 := Aside0.mk hy52
                                              clear hy52
                                              have KL52 := Aside0.mk (show ((ji40) : Int).toNat ≤ x6_2.length from by omega)
                                              replace q52 := eq_true q52
                                              go_wp2_with (first | (go_at_call 23; (with_reducible refine (status_Walk.calls kj35 _ _ y141 t145 t146 _ ?side1 ?side2 A43.out).mono ?_); (case side1 => repeat (first | exact (by repeat (first | (with_reducible exact HR144.out) | (with_reducible refine Kd.C_alloc ?_ _) | (with_reducible refine Kd.C_drewN ?_ _) | (with_reducible refine Kd.C_drew ?_) | exact HR144.out)) | (with_reducible refine Kd.C_alloc ?_ _) | (with_reducible refine Kd.C_drewN ?_ _) | (with_reducible refine Kd.C_drew ?_))); (case side2 => exact HC144.out); rintro e w' ⟨rfl, ⟨nd, rfl⟩⟩; (try first | exact ⟨rfl, _, World.drewN_drewN _ _ _⟩ | exact ⟨rfl, _, Eq.trans (World.drewN_drewN _ _ _) (congrArg (World.drewN _) (Nat.add_assoc _ _ _))⟩)))
                                              repeat (go_quiet (first | (go_at_call 23; (with_reducible refine (status_Walk.calls kj35 _ _ y141 t145 t146 _ ?side1 ?side2 A43.out).mono ?_); (case side1 => repeat (first | exact (by repeat (first | (with_reducible exact HR144.out) | (with_reducible refine Kd.C_alloc ?_ _) | (with_reducible refine Kd.C_drewN ?_ _) | (with_reducible refine Kd.C_drew ?_) | exact HR144.out)) | (with_reducible refine Kd.C_alloc ?_ _) | (with_reducible refine Kd.C_drewN ?_ _) | (with_reducible refine Kd.C_drew ?_))); (case side2 => exact HC144.out); rintro e w' ⟨rfl, ⟨nd, rfl⟩⟩; (try first | exact ⟨rfl, _, World.drewN_drewN _ _ _⟩ | exact ⟨rfl, _, Eq.trans (World.drewN_drewN _ _ _) (congrArg (World.drewN _) (Nat.add_assoc _ _ _))⟩))); try go_wp2_with (first | (go_at_call 23; (with_reducible refine (status_Walk.calls kj35 _ _ y141 t145 t146 _ ?side1 ?side2 A43.out).mono ?_); (case side1 => repeat (first | exact (by repeat (first | (with_reducible exact HR144.out) | (with_reducible refine Kd.C_alloc ?_ _) | (with_reducible refine Kd.C_drewN ?_ _) | (with_reducible refine Kd.C_drew ?_) | exact HR144.out)) | (with_reducible refine Kd.C_alloc ?_ _) | (with_reducible refine Kd.C_drewN ?_ _) | (with_reducible refine Kd.C_drew ?_))); (case side2 => exact HC144.out); rintro e w' ⟨rfl, ⟨nd, rfl⟩⟩; (try first | exact ⟨rfl, _, World.drewN_drewN _ _ _⟩ | exact ⟨rfl, _, Eq.trans (World.drewN_drewN _ _ _) (congrArg (World.drewN _) (Nat.add_assoc _ _ _))⟩))))
                                              go_ret
                                              exact ⟨by first | rfl | (simp only [catafalquelaw09_StatusWalks.nn, catafalquelaw09_StatusWalks.nm] <;> rfl) | (simp [errW_none, errW_some] <;> rfl) | (simp only [← hji40]; first | rfl | (simp [errW_none, errW_some] <;> rfl)) | (simp [*, errW_none, errW_some] <;> rfl), by repeat (first | (with_reducible first | exact HB.out | apply below_alloc | apply pw_below_drewN | apply below_drew1) | exact HB.out)⟩
                                        · replace c45 := Bool.eq_false_iff.mpr c45
                                          subst c45
                                          have H1 : (if (t137 == false) = true then (if 0 ≤ t123 then (if t123 < (x6_2.length : Int) then ((status_Name.f (rd x6_2 t123)).bind fun t148 => (some (t146 == (t148.toList != ([] : List UInt8))))) else (none)) else (none)) else (some false)) = some r := by rw [if_neg (show ¬ (false = true) by decide)] at H; exact H
                                          clear H
                                          have H := H1
                                          clear H1
                                          by_cases c53 : (t137 == false) = true
                                          · rw [if_pos c53] at H
                                            have c53b0 : (t137 == false) = true := c53
                                            (try (have c53b1 : decide (t137 = false) = true := by simpa using c53))
                                            (try (have c53b2 : (t137 == false) = true := by simpa using c53))
                                            clear c53
                                            by_cases c54 : 0 ≤ t123
                                            · rw [if_pos c54] at H
                                              have c54b0 : decide (0 ≤ t123) = true := decide_eq_true c54
                                              clear c54
                                              by_cases c55 : t123 < (x6_2.length : Int)
                                              · rw [if_pos c55] at H
                                                have c55b0 : decide (t123 < (x6_2.length : Int)) = true := decide_eq_true c55
                                                clear c55
                                                replace H := Option.bind_eq_some_iff.mp H
                                                obtain ⟨t148, A560, H⟩ := H
                                                replace H : (some (t146 == (t148.toList != ([] : List UInt8)))) = some r := H
                                                have A56 := Aside0.mk A560
                                                clear A560
                                                obtain rfl := Option.some.inj H
                                                have q57 : ((ji40) : Int) ≤ ((x6_2.length : Int) : Int) := of_decide_eq_true (by first | (with_reducible assumption) | assumption)
                                                obtain ⟨i057, hi057, _, hsz57, _⟩ := info_parts info3
                                                have hroom57 : x6_2.length ≤ co22 := (Kd.R_reads' HO_6.out).2.1
                                                have hC57 : Kd.C (Kd.int .i64) _ Ao22 x6_2.length x6_2 := (Kd.R_reads' HO_6.out).2.2
                                                have hcut57 := cut_to (P := Try.prog) 25 3 .i64 Try.underlying25 hi057 Ao22 x6_2.length co22 (ji40) (of_decide_eq_true (by first | (with_reducible assumption) | assumption)) q57 hroom57
                                                have hr57 := Kd.C_take (m := ((ji40) : Int).toNat) hC57 (by omega)
                                                have hy57 : y141.length = ((ji40) : Int).toNat := (by rw [Ny141.out, List.length_take]; omega)
                                                rw [← Ny141.out] at hr57
                                                rw [← hy57] at hcut57
                                                have HR144 := Aside0.mk hr57
                                                have HC144 := Aside0.mk (show y141.length ≤ co22 from by omega)
                                                clear hr57 hC57 hroom57 hi057 hsz57
                                                have KY57 := Aside0.mk hy57
                                                clear hy57
                                                have KL57 := Aside0.mk (show ((ji40) : Int).toNat ≤ x6_2.length from by omega)
                                                replace q57 := eq_true q57
                                                go_wp2_with (first | (go_at_call 23; (with_reducible refine (status_Walk.calls kj35 _ _ y141 t145 t146 _ ?side1 ?side2 A43.out).mono ?_); (case side1 => repeat (first | exact (by repeat (first | (with_reducible exact HR144.out) | (with_reducible refine Kd.C_alloc ?_ _) | (with_reducible refine Kd.C_drewN ?_ _) | (with_reducible refine Kd.C_drew ?_) | exact HR144.out)) | (with_reducible refine Kd.C_alloc ?_ _) | (with_reducible refine Kd.C_drewN ?_ _) | (with_reducible refine Kd.C_drew ?_))); (case side2 => exact HC144.out); rintro e w' ⟨rfl, ⟨nd, rfl⟩⟩; (try first | exact ⟨rfl, _, World.drewN_drewN _ _ _⟩ | exact ⟨rfl, _, Eq.trans (World.drewN_drewN _ _ _) (congrArg (World.drewN _) (Nat.add_assoc _ _ _))⟩); have p147 : 0 ≤ (t123 : Int) := of_decide_eq_true (by first | (with_reducible assumption) | assumption); have q147 : t123 < (x6_2.length : Int) := of_decide_eq_true (by first | (with_reducible assumption) | assumption); obtain ⟨ad147, e147, hx147_0⟩ := Kd.at_int (Kd.R_reads' HO_6.out).2.2 t123 p147 q147; cases e147; replace p147 := eq_true p147; replace q147 := eq_true q147) | (go_at_call 22; (with_reducible refine (status_Name.calls (rd x6_2 t123) t148 _ A56.out).mono ?_); rintro e w' ⟨rfl, ⟨nd, rfl⟩⟩; (try first | exact ⟨rfl, _, World.drewN_drewN _ _ _⟩ | exact ⟨rfl, _, Eq.trans (World.drewN_drewN _ _ _) (congrArg (World.drewN _) (Nat.add_assoc _ _ _))⟩)))
                                                repeat (go_quiet (first | (go_at_call 23; (with_reducible refine (status_Walk.calls kj35 _ _ y141 t145 t146 _ ?side1 ?side2 A43.out).mono ?_); (case side1 => repeat (first | exact (by repeat (first | (with_reducible exact HR144.out) | (with_reducible refine Kd.C_alloc ?_ _) | (with_reducible refine Kd.C_drewN ?_ _) | (with_reducible refine Kd.C_drew ?_) | exact HR144.out)) | (with_reducible refine Kd.C_alloc ?_ _) | (with_reducible refine Kd.C_drewN ?_ _) | (with_reducible refine Kd.C_drew ?_))); (case side2 => exact HC144.out); rintro e w' ⟨rfl, ⟨nd, rfl⟩⟩; (try first | exact ⟨rfl, _, World.drewN_drewN _ _ _⟩ | exact ⟨rfl, _, Eq.trans (World.drewN_drewN _ _ _) (congrArg (World.drewN _) (Nat.add_assoc _ _ _))⟩); have p147 : 0 ≤ (t123 : Int) := of_decide_eq_true (by first | (with_reducible assumption) | assumption); have q147 : t123 < (x6_2.length : Int) := of_decide_eq_true (by first | (with_reducible assumption) | assumption); obtain ⟨ad147, e147, hx147_0⟩ := Kd.at_int (Kd.R_reads' HO_6.out).2.2 t123 p147 q147; cases e147; replace p147 := eq_true p147; replace q147 := eq_true q147) | (go_at_call 22; (with_reducible refine (status_Name.calls (rd x6_2 t123) t148 _ A56.out).mono ?_); rintro e w' ⟨rfl, ⟨nd, rfl⟩⟩; (try first | exact ⟨rfl, _, World.drewN_drewN _ _ _⟩ | exact ⟨rfl, _, Eq.trans (World.drewN_drewN _ _ _) (congrArg (World.drewN _) (Nat.add_assoc _ _ _))⟩))); try go_wp2_with (first | (go_at_call 23; (with_reducible refine (status_Walk.calls kj35 _ _ y141 t145 t146 _ ?side1 ?side2 A43.out).mono ?_); (case side1 => repeat (first | exact (by repeat (first | (with_reducible exact HR144.out) | (with_reducible refine Kd.C_alloc ?_ _) | (with_reducible refine Kd.C_drewN ?_ _) | (with_reducible refine Kd.C_drew ?_) | exact HR144.out)) | (with_reducible refine Kd.C_alloc ?_ _) | (with_reducible refine Kd.C_drewN ?_ _) | (with_reducible refine Kd.C_drew ?_))); (case side2 => exact HC144.out); rintro e w' ⟨rfl, ⟨nd, rfl⟩⟩; (try first | exact ⟨rfl, _, World.drewN_drewN _ _ _⟩ | exact ⟨rfl, _, Eq.trans (World.drewN_drewN _ _ _) (congrArg (World.drewN _) (Nat.add_assoc _ _ _))⟩); have p147 : 0 ≤ (t123 : Int) := of_decide_eq_true (by first | (with_reducible assumption) | assumption); have q147 : t123 < (x6_2.length : Int) := of_decide_eq_true (by first | (with_reducible assumption) | assumption); obtain ⟨ad147, e147, hx147_0⟩ := Kd.at_int (Kd.R_reads' HO_6.out).2.2 t123 p147 q147; cases e147; replace p147 := eq_true p147; replace q147 := eq_true q147) | (go_at_call 22; (with_reducible refine (status_Name.calls (rd x6_2 t123) t148 _ A56.out).mono ?_); rintro e w' ⟨rfl, ⟨nd, rfl⟩⟩; (try first | exact ⟨rfl, _, World.drewN_drewN _ _ _⟩ | exact ⟨rfl, _, Eq.trans (World.drewN_drewN _ _ _) (congrArg (World.drewN _) (Nat.add_assoc _ _ _))⟩))))
                                                go_ret
                                                exact ⟨by first | rfl | (simp only [catafalquelaw09_StatusWalks.nn, catafalquelaw09_StatusWalks.nm] <;> rfl) | (simp [errW_none, errW_some] <;> rfl) | (simp only [← hji40]; first | rfl | (simp [errW_none, errW_some] <;> rfl)) | (simp [*, errW_none, errW_some] <;> rfl), by repeat (first | (with_reducible first | exact HB.out | apply below_alloc | apply pw_below_drewN | apply below_drew1) | exact HB.out)⟩
                                              · rw [if_neg c55] at H
                                                exact absurd H (by simp)
                                            · rw [if_neg c54] at H
                                              exact absurd H (by simp)
                                          · rw [if_neg c53] at H
                                            have c53b0 : (t137 == false) = false := by simpa using c53
                                            (try (have c53b1 : decide (t137 = false) = false := by simpa using c53))
                                            (try (have c53b2 : (t137 == false) = false := by simpa using c53))
                                            (try (have c53b3 : ¬ (t137 = false) := by simpa using c53))
                                            clear c53
                                            obtain rfl := Option.some.inj H
                                            have q58 : ((ji40) : Int) ≤ ((x6_2.length : Int) : Int) := of_decide_eq_true (by first | (with_reducible assumption) | assumption)
                                            obtain ⟨i058, hi058, _, hsz58, _⟩ := info_parts info3
                                            have hroom58 : x6_2.length ≤ co22 := (Kd.R_reads' HO_6.out).2.1
                                            have hC58 : Kd.C (Kd.int .i64) _ Ao22 x6_2.length x6_2 := (Kd.R_reads' HO_6.out).2.2
                                            have hcut58 := cut_to (P := Try.prog) 25 3 .i64 Try.underlying25 hi058 Ao22 x6_2.length co22 (ji40) (of_decide_eq_true (by first | (with_reducible assumption) | assumption)) q58 hroom58
                                            have hr58 := Kd.C_take (m := ((ji40) : Int).toNat) hC58 (by omega)
                                            have hy58 : y141.length = ((ji40) : Int).toNat := (by rw [Ny141.out, List.length_take]; omega)
                                            rw [← Ny141.out] at hr58
                                            rw [← hy58] at hcut58
                                            have HR144 := Aside0.mk hr58
                                            have HC144 := Aside0.mk (show y141.length ≤ co22 from by omega)
                                            clear hr58 hC58 hroom58 hi058 hsz58
                                            have KY58 := Aside0.mk hy58
                                            clear hy58
                                            have KL58 := Aside0.mk (show ((ji40) : Int).toNat ≤ x6_2.length from by omega)
                                            replace q58 := eq_true q58
                                            go_wp2_with (first | (go_at_call 23; (with_reducible refine (status_Walk.calls kj35 _ _ y141 t145 t146 _ ?side1 ?side2 A43.out).mono ?_); (case side1 => repeat (first | exact (by repeat (first | (with_reducible exact HR144.out) | (with_reducible refine Kd.C_alloc ?_ _) | (with_reducible refine Kd.C_drewN ?_ _) | (with_reducible refine Kd.C_drew ?_) | exact HR144.out)) | (with_reducible refine Kd.C_alloc ?_ _) | (with_reducible refine Kd.C_drewN ?_ _) | (with_reducible refine Kd.C_drew ?_))); (case side2 => exact HC144.out); rintro e w' ⟨rfl, ⟨nd, rfl⟩⟩; (try first | exact ⟨rfl, _, World.drewN_drewN _ _ _⟩ | exact ⟨rfl, _, Eq.trans (World.drewN_drewN _ _ _) (congrArg (World.drewN _) (Nat.add_assoc _ _ _))⟩)))
                                            repeat (go_quiet (first | (go_at_call 23; (with_reducible refine (status_Walk.calls kj35 _ _ y141 t145 t146 _ ?side1 ?side2 A43.out).mono ?_); (case side1 => repeat (first | exact (by repeat (first | (with_reducible exact HR144.out) | (with_reducible refine Kd.C_alloc ?_ _) | (with_reducible refine Kd.C_drewN ?_ _) | (with_reducible refine Kd.C_drew ?_) | exact HR144.out)) | (with_reducible refine Kd.C_alloc ?_ _) | (with_reducible refine Kd.C_drewN ?_ _) | (with_reducible refine Kd.C_drew ?_))); (case side2 => exact HC144.out); rintro e w' ⟨rfl, ⟨nd, rfl⟩⟩; (try first | exact ⟨rfl, _, World.drewN_drewN _ _ _⟩ | exact ⟨rfl, _, Eq.trans (World.drewN_drewN _ _ _) (congrArg (World.drewN _) (Nat.add_assoc _ _ _))⟩))); try go_wp2_with (first | (go_at_call 23; (with_reducible refine (status_Walk.calls kj35 _ _ y141 t145 t146 _ ?side1 ?side2 A43.out).mono ?_); (case side1 => repeat (first | exact (by repeat (first | (with_reducible exact HR144.out) | (with_reducible refine Kd.C_alloc ?_ _) | (with_reducible refine Kd.C_drewN ?_ _) | (with_reducible refine Kd.C_drew ?_) | exact HR144.out)) | (with_reducible refine Kd.C_alloc ?_ _) | (with_reducible refine Kd.C_drewN ?_ _) | (with_reducible refine Kd.C_drew ?_))); (case side2 => exact HC144.out); rintro e w' ⟨rfl, ⟨nd, rfl⟩⟩; (try first | exact ⟨rfl, _, World.drewN_drewN _ _ _⟩ | exact ⟨rfl, _, Eq.trans (World.drewN_drewN _ _ _) (congrArg (World.drewN _) (Nat.add_assoc _ _ _))⟩))))
                                            go_ret
                                            exact ⟨by first | rfl | (simp only [catafalquelaw09_StatusWalks.nn, catafalquelaw09_StatusWalks.nm] <;> rfl) | (simp [errW_none, errW_some] <;> rfl) | (simp only [← hji40]; first | rfl | (simp [errW_none, errW_some] <;> rfl)) | (simp [*, errW_none, errW_some] <;> rfl), by repeat (first | (with_reducible first | exact HB.out | apply below_alloc | apply pw_below_drewN | apply below_drew1) | exact HB.out)⟩
                                      · replace c44 := Bool.eq_false_iff.mpr c44
                                        subst c44
                                        have H1 : (some false) = some r := by rw [if_neg (show ¬ (false = true) by decide)] at H; exact H
                                        clear H
                                        have H := H1
                                        clear H1
                                        obtain rfl := Option.some.inj H
                                        have q59 : ((ji40) : Int) ≤ ((x6_2.length : Int) : Int) := of_decide_eq_true (by first | (with_reducible assumption) | assumption)
                                        obtain ⟨i059, hi059, _, hsz59, _⟩ := info_parts info3
                                        have hroom59 : x6_2.length ≤ co22 := (Kd.R_reads' HO_6.out).2.1
                                        have hC59 : Kd.C (Kd.int .i64) _ Ao22 x6_2.length x6_2 := (Kd.R_reads' HO_6.out).2.2
                                        have hcut59 := cut_to (P := Try.prog) 25 3 .i64 Try.underlying25 hi059 Ao22 x6_2.length co22 (ji40) (of_decide_eq_true (by first | (with_reducible assumption) | assumption)) q59 hroom59
                                        have hr59 := Kd.C_take (m := ((ji40) : Int).toNat) hC59 (by omega)
                                        have hy59 : y141.length = ((ji40) : Int).toNat := (by rw [Ny141.out, List.length_take]; omega)
                                        rw [← Ny141.out] at hr59
                                        rw [← hy59] at hcut59
                                        have HR144 := Aside0.mk hr59
                                        have HC144 := Aside0.mk (show y141.length ≤ co22 from by omega)
                                        clear hr59 hC59 hroom59 hi059 hsz59
                                        have KY59 := Aside0.mk hy59
                                        clear hy59
                                        have KL59 := Aside0.mk (show ((ji40) : Int).toNat ≤ x6_2.length from by omega)
                                        replace q59 := eq_true q59
                                        go_wp2_with (first | (go_at_call 23; (with_reducible refine (status_Walk.calls kj35 _ _ y141 t145 t146 _ ?side1 ?side2 A43.out).mono ?_); (case side1 => repeat (first | exact (by repeat (first | (with_reducible exact HR144.out) | (with_reducible refine Kd.C_alloc ?_ _) | (with_reducible refine Kd.C_drewN ?_ _) | (with_reducible refine Kd.C_drew ?_) | exact HR144.out)) | (with_reducible refine Kd.C_alloc ?_ _) | (with_reducible refine Kd.C_drewN ?_ _) | (with_reducible refine Kd.C_drew ?_))); (case side2 => exact HC144.out); rintro e w' ⟨rfl, ⟨nd, rfl⟩⟩; (try first | exact ⟨rfl, _, World.drewN_drewN _ _ _⟩ | exact ⟨rfl, _, Eq.trans (World.drewN_drewN _ _ _) (congrArg (World.drewN _) (Nat.add_assoc _ _ _))⟩)))
                                        repeat (go_quiet (first | (go_at_call 23; (with_reducible refine (status_Walk.calls kj35 _ _ y141 t145 t146 _ ?side1 ?side2 A43.out).mono ?_); (case side1 => repeat (first | exact (by repeat (first | (with_reducible exact HR144.out) | (with_reducible refine Kd.C_alloc ?_ _) | (with_reducible refine Kd.C_drewN ?_ _) | (with_reducible refine Kd.C_drew ?_) | exact HR144.out)) | (with_reducible refine Kd.C_alloc ?_ _) | (with_reducible refine Kd.C_drewN ?_ _) | (with_reducible refine Kd.C_drew ?_))); (case side2 => exact HC144.out); rintro e w' ⟨rfl, ⟨nd, rfl⟩⟩; (try first | exact ⟨rfl, _, World.drewN_drewN _ _ _⟩ | exact ⟨rfl, _, Eq.trans (World.drewN_drewN _ _ _) (congrArg (World.drewN _) (Nat.add_assoc _ _ _))⟩))); try go_wp2_with (first | (go_at_call 23; (with_reducible refine (status_Walk.calls kj35 _ _ y141 t145 t146 _ ?side1 ?side2 A43.out).mono ?_); (case side1 => repeat (first | exact (by repeat (first | (with_reducible exact HR144.out) | (with_reducible refine Kd.C_alloc ?_ _) | (with_reducible refine Kd.C_drewN ?_ _) | (with_reducible refine Kd.C_drew ?_) | exact HR144.out)) | (with_reducible refine Kd.C_alloc ?_ _) | (with_reducible refine Kd.C_drewN ?_ _) | (with_reducible refine Kd.C_drew ?_))); (case side2 => exact HC144.out); rintro e w' ⟨rfl, ⟨nd, rfl⟩⟩; (try first | exact ⟨rfl, _, World.drewN_drewN _ _ _⟩ | exact ⟨rfl, _, Eq.trans (World.drewN_drewN _ _ _) (congrArg (World.drewN _) (Nat.add_assoc _ _ _))⟩))))
                                        go_ret
                                        exact ⟨by first | rfl | (simp only [catafalquelaw09_StatusWalks.nn, catafalquelaw09_StatusWalks.nm] <;> rfl) | (simp [errW_none, errW_some] <;> rfl) | (simp only [← hji40]; first | rfl | (simp [errW_none, errW_some] <;> rfl)) | (simp [*, errW_none, errW_some] <;> rfl), by repeat (first | (with_reducible first | exact HB.out | apply below_alloc | apply pw_below_drewN | apply below_drew1) | exact HB.out)⟩
                                    · rw [if_neg c42] at H
                                      exact absurd H (by simp)
                                  · rw [if_neg c41] at H
                                    exact absurd H (by simp)
                      · rw [if_neg c19] at H
                        exact absurd H (by simp)
                    · rw [if_neg c18] at H
                      exact absurd H (by simp)

/-- THE ONE PURE STATEMENT of catafalquelaw09_StatusWalks: yours. -/
def catafalquelaw09_StatusWalks.Pure : Prop := ∀ (l0 : List Int) (l1 : List Int), l0.length ≤ maxLen → l0.length * 1 ≤ 140737488351232 → (∀ x ∈ l0, (Lit.int .u8 x).wf = true) → l1.length ≤ maxLen → l1.length * 1 ≤ 140737488351232 → (∀ x ∈ l1, (Lit.int .u8 x).wf = true) → ∃ k, catafalquelaw09_StatusWalks.f k l0 l1 = some true
theorem catafalquelaw09_StatusWalks.walk (P : catafalquelaw09_StatusWalks.Pure) (a0 : Option Addr) (len0 cap0 : Nat) (z0 : List Int) (a1 : Option Addr) (len1 cap1 : Nat) (z1 : List Int) (w : World) (w0 : (a0 = none ∧ len0 = 0 ∧ cap0 = 0 ∧ z0 = []) ∨ ∃ x, a0 = some x ∧ len0 ≤ cap0 ∧ cap0 ≤ maxLen ∧ z0.length = cap0 ∧ (∀ i, i < z0.length → w.cell? (x.add i) = some (.int .u8 (z0.getD i 0))) ∧ ∀ n ∈ z0, (Lit.int .u8 n).wf = true) (y0 : len0 * 1 ≤ 140737488351232) (w1 : (a1 = none ∧ len1 = 0 ∧ cap1 = 0 ∧ z1 = []) ∨ ∃ x, a1 = some x ∧ len1 ≤ cap1 ∧ cap1 ≤ maxLen ∧ z1.length = cap1 ∧ (∀ i, i < z1.length → w.cell? (x.add i) = some (.int .u8 (z1.getD i 0))) ∧ ∀ n ∈ z1, (Lit.int .u8 n).wf = true) (y1 : len1 * 1 ≤ 140737488351232) :
    Calls Try.prog 7 #[.slice a0 len0 cap0, .slice a1 len1 cap1] w fun e w' => e = .returned (.bool true) ∧ Below w.heap.size w w' := by
  obtain ⟨l0, rfl, hr0, hm0, hw0, hc0⟩ := ReadsInt.ofRowC w0
  obtain ⟨l1, rfl, hr1, hm1, hw1, hc1⟩ := ReadsInt.ofRowC w1
  obtain ⟨k, h⟩ := P l0 l1 hm0 y0 hw0 hm1 y1 hw1
  refine (catafalquelaw09_StatusWalks.calls k _ _ l0 _ _ l1 true w (Kd.C_of_reads (d := (0 : Int)) (h1 := fun _ => rfl) hr0) hc0 (Kd.C_of_reads (d := (0 : Int)) (h1 := fun _ => rfl) hr1) hc1 h).mono ?_
  rintro e w' ⟨rfl, hd⟩
  exact ⟨rfl, hd⟩

end Go.Proofs.Ytibkpacjijbblaa.QStatus
